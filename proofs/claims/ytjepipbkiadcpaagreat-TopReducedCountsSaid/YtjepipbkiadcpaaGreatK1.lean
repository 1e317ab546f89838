/- Texts laid together: W, Mem, Ops, Mo, Range, Ty, Sep, App, Pf, Map, Ret, Arr, Men, MapI, Kt, Chips. -/
import Derived.OrdersIn
import Derived.TacticsIn
import Derived.RegionIn
import Derived.RangeFuncCalls
import Derived.IntWalk
import Derived.WalkKit
import Derived.WalkSpells
import Derived.WalkLawsBesides
import Derived.Lib.Hide
import Derived.Deep.MidRow
import Derived.Deep.WholeRow
import Derived.Laws.OwnMore
import Derived.Shelf.Abstract
import Derived.RangeFuncNested
import Derived.RangeFuncBound
import Derived.RangeFuncLeaves
import Derived.RangeFuncFrom
import Derived.Test.YtjepipbkiadcpaaGreatProg
import Derived.Maps.Keyed
import Derived.DeepKeys4
import Derived.ChangeAlike
import Derived.Handy
import Derived.Deep.QuietTactic
import Derived.BigQuiet
import Derived.Deep.RegionHeld3
set_option linter.unusedVariables false
set_option linter.unusedSimpArgs false
set_option linter.unusedSectionVars false
/- The walk of a function's code over an environment: flat, a step a lemma. No program in sight. -/
namespace Go.Proofs.YtjepipbkiadcpaaGreat
open Go Go.Proofs.Tryz
abbrev Env:=Nat→Value
def upd(E:Env)(d:Nat)(v:Value):Env:=fun t=>bif Nat.beq t d then v else E t
def updO(E:Env)(d:Option Nat)(v:Value):Env:=match d with | some d=>upd E d v | none=>E
def evE(E:Env):Operand→Value
  | .tmp t=>E t
  | .const v=>v
  | .global g => .pointer (some ⟨g,0,none⟩)
  | .func f => .func (.func f) #[] #[]
structure Rep(N:Nat)(E:Env)(ds:List Deferred)(a:Act):Prop where
  size:a.tmps.size=N
  get:∀ t,a.tmps.getD t undef=E t
  defers:a.defers=ds
theorem Rep.eval{N:Nat}{E:Env}{ds:List Deferred}{a:Act}(h:Rep N E ds a):a.eval=evE E:=by
  funext x
  cases x <;> simp [Act.eval,evE,h.get]
theorem Rep.put{N:Nat}{E:Env}{ds:List Deferred}{a:Act}(h:Rep N E ds a){d:Option Nat}(hd:∀ k,d=some k→k<N)(v:Value):Rep N (updO E d v) ds (a.put d v):=by
  cases d with
  | none=>exact h
  | some d =>
    have hd:=hd d rfl
    refine ⟨by simp [Act.put,h.size],fun t=>?_,h.defers⟩
    simp only [Act.put,updO,upd]
    have hs:=h.size
    have hg:=h.get t
    by_cases e:t=d
    · subst e
      have hb:Nat.beq t t=true:=Nat.beq_refl t
      rw [hb]
      simp [Array.getD_eq_getD_getElem?,Array.getElem?_setIfInBounds,hs,hd]
    · have hb:Nat.beq t d=false:=by
        cases hq:Nat.beq t d with
        | false=>rfl
        | true=>exact absurd (Nat.eq_of_beq_eq_true hq) e
      rw [hb]
      simp only [cond_false]
      rw [←hg]
      simp [Array.getD_eq_getD_getElem?,Array.getElem?_setIfInBounds,Ne.symm e]
def yE(ops:Array Oper)(E:Env)(j:Nat):Option Bool :=
  match (ops[j]?).bind (·.dst) with
  | none=>none
  | some d=>match E d with
    | .bool b=>some b
    | _=>none
theorem Rep.yielded{N:Nat}{E:Env}{ds:List Deferred}{a:Act}(h:Rep N E ds a)(ops:Array Oper):yielded ops a.tmps=yE ops E:=by
  funext j
  unfold Go.yielded yE
  cases (ops[j]?).bind (·.dst) with
  | none=>rfl
  | some d =>
    have hg:=h.get d
    simp only [Option.bind_some]
    rw [Array.getD_eq_getD_getElem?] at hg
    cases hq:a.tmps[d]? with
    | none =>
      rw [hq] at hg
      simp only [Option.getD_none] at hg
      rw [←hg]
      rfl
    | some v =>
      rw [hq] at hg
      simp only [Option.getD_some] at hg
      rw [←hg]
      cases v <;> rfl
def WTa(F:Fence)(n:Nat)(P:Program)(todo:List Item)(Q:Exit→Act→World→Prop)(a:Act)(w:World):Prop :=
  ∀ (b:Frame) (k:List Item) (cs:List Frame),b.roundOf=F.round→F.fn b.fn→F.room (cs.length+1+n) →
    ∃ e a' w',Q e a' w'∧ArrivesIn (Machine.fenced P F) P (lone (b.atR a (todo++k)) cs w) b k cs e a' w'
section
variable {F : Fence} {n : Nat} {P : Program} {Q : Exit → Act → World → Prop} {a : Act} {w : World} {t : List Item}
theorem WTa.code{c:Code}(h:WTa F n P [.code c] Q a w):c.wpIn F n P Q a w:=h
theorem WTa.of{c:Code}(h:c.wpIn F n P (fun e a' w'=>e = .normal∧WTa F n P t Q a' w') a w):WTa F n P (.code c::t) Q a w:=by
  intro b k cs hro hb hr
  obtain ⟨e,a',w',⟨he,hw⟩,harr⟩:=h b (t++k) cs hro hb hr
  subst he
  obtain ⟨e2,a2,w2,hq,harr2⟩:=hw b k cs hro hb hr
  exact ⟨e2,a2,w2,hq, .of_steps harr harr2⟩
theorem WTa.nil(h:Q .normal a w):WTa F n P [] Q a w:=fun b k cs _ _ _=>⟨.normal,a,w,h, .refl _⟩
theorem WTa.skip(h:WTa F n P t Q a w):WTa F n P (.code .skip::t) Q a w:=WTa.of (wpIn_skip ⟨rfl,h⟩)
theorem WTa.seq{x y:Code}(h:WTa F n P (.code x :: .code y::t) Q a w):WTa F n P (.code (.seq x y)::t) Q a w:=by
  intro b k cs hro hb hr
  obtain ⟨e,a',w',hq,harr⟩:=h b k cs hro hb hr
  exact ⟨e,a',w',hq, .of_steps (.one (fenced_calm hb hr rfl) stepR_seq) harr⟩
theorem WTa.block{id:Nat}{c:Code}(h:WTa F n P (.code c :: .inBlock id::t) Q a w):WTa F n P (.code (.block id c)::t) Q a w:=by
  intro b k cs hro hb hr
  obtain ⟨e,a',w',hq,harr⟩:=h b k cs hro hb hr
  exact ⟨e,a',w',hq, .of_steps (.one (fenced_calm hb hr rfl) stepR_block) harr⟩
theorem WTa.inBlock{id:Nat}(h:WTa F n P t Q a w):WTa F n P (.inBlock id::t) Q a w:=by
  intro b k cs hro hb hr
  obtain ⟨e,a',w',hq,harr⟩:=h b k cs hro hb hr
  exact ⟨e,a',w',hq, .of_steps (.one (fenced_calm hb hr rfl) stepR_inBlock) harr⟩
theorem yef{id:Nat}{k':List Item}(k:List Item):∀ {t:List Item},exitTo id t=some k'→exitTo id (t++k)=some (k'++k)
  | [],h=>by simp [exitTo] at h
  | x::t,h=>by
    cases x <;> simp only [exitTo,List.cons_append] at h ⊢
    case inBlock id' =>
      split at h
      · rename_i hc;rw [if_pos hc];simp only [Option.some.injEq] at h;rw [h]
      · rename_i hc;rw [if_neg hc];exact yef k h
    all_goals exact yef k h
theorem WTa.exit{id:Nat}{k':List Item}(he:exitTo id t=some k')(h:WTa F n P k' Q a w):WTa F n P (.code (.exit id)::t) Q a w:=by
  intro b k cs hro hb hr
  obtain ⟨e,a',w',hq,harr⟩:=h b k cs hro hb hr
  exact ⟨e,a',w',hq, .of_steps (.one (fenced_calm hb hr rfl) (stepR_exit (yef k he))) harr⟩
theorem yev{id:Nat}(k:List Item):∀ {t:List Item},exitTo id t=none→exitTo id (t++k)=exitTo id k
  | [],_=>rfl
  | x::t,h=>by
    cases x <;> simp only [exitTo,List.cons_append] at h ⊢
    case inBlock id' =>
      split at h
      · cases h
      · rename_i hc;rw [if_neg hc];exact yev k h
    all_goals exact yev k h
theorem WTa.leave{id:Nat}(he:exitTo id t=none)(h:Q (.exit id) a w):WTa F n P (.code (.exit id)::t) Q a w:=by
  intro b k cs hro hb hr
  refine ⟨.exit id,a,w,h,⟨fun k' hk => .one (fenced_calm hb hr rfl) (stepR_exit (show exitTo id (t++k)=some k' by rw [yev k he];exact hk)),fun _ hk=>⟨t++k,by rw [yev k he];exact hk, .refl _⟩⟩⟩
theorem WTa.ret(h:Q .ret a w):WTa F n P (.code .ret::t) Q a w :=
  fun _ k _ _ hb hr=>⟨.ret,a,w,h,fun hn=>⟨_, .one (fenced_calm hb hr rfl) (stepR_ret hn)⟩,fun _=>⟨t++k, .refl _⟩⟩
theorem WTa.cond{c:Operand}{x y:Code}{d:Bool}(hc:a.eval c = .bool d)(h:WTa F n P (.code (if d then x else y)::t) Q a w):WTa F n P (.code (.cond c x y)::t) Q a w:=by
  intro b k cs hro hb hr
  obtain ⟨e,a',w',hq,harr⟩:=h b k cs hro hb hr
  exact ⟨e,a',w',hq, .of_steps (.one (fenced_calm hb hr rfl) (stepR_cond hc)) harr⟩
theorem WTa.loop{c:Code}(I:Act→World→Prop)(μ:Act→World→Nat)(h₀:I a w)
    (round:∀ a w,I a w→(∀ a' w',I a' w'→μ a' w'<μ a w→WTa F n P (.inLoop c::t) Q a' w')→WTa F n P (.code c :: .inLoop c::t) Q a w):WTa F n P (.code (.loop c)::t) Q a w:=by
  have key:∀ j a w,μ a w=j→I a w→WTa F n P (.code c :: .inLoop c::t) Q a w:=by
    intro j
    induction j using Nat.strongRecOn with
    | _ j ih =>
      intro a w hj hI
      refine round a w hI fun a' w' hI' hlt=>?_
      intro b k cs hro hb hr
      obtain ⟨e,a2,w2,hq,harr⟩:=ih (μ a' w') (hj▸hlt) a' w' rfl hI' b k cs hro hb hr
      exact ⟨e,a2,w2,hq, .of_steps (.one (fenced_calm hb hr rfl) stepR_inLoop) harr⟩
  intro b k cs hro hb hr
  obtain ⟨e,a2,w2,hq,harr⟩:=key _ a w rfl h₀ b k cs hro hb hr
  exact ⟨e,a2,w2,hq, .of_steps (.one (fenced_calm hb hr rfl) stepR_loop) harr⟩
end
def yaE:Op→Bool
  | .load .. | .nilCheck .. | .fieldAddr .. | .indexAddr .. | .move .. | .assign .. | .binOp .. | .unOp .. | .pick .. | .index .. | .field .. | .extract .. | .convert .. | .makeFunc .. | .slice .. | .entry ..=>true
  | .call c=>match c.callee with
    | .builtin .len | .builtin .cap | .builtin .max | .builtin .min=>true
    | _=>false
  | _=>false
def ybm:Op→Bool
  | .select .. | .defer .. | .go ..=>false
  | _=>true
theorem yaE.select{o:Op}(h:yaE o=true):∀ cs b,o ≠ .select cs b:=fun cs b e=>by rw [e] at h;cases h
theorem yaE.defer{o:Op}(h:yaE o=true):∀ c,o ≠ .defer c:=fun c e=>by rw [e] at h;cases h
theorem ybm.select{o:Op}(h:ybm o=true):∀ cs b,o ≠ .select cs b:=fun cs b e=>by rw [e] at h;cases h
theorem ybm.defer{o:Op}(h:ybm o=true):∀ c,o ≠ .defer c:=fun c e=>by rw [e] at h;cases h
def ybd(P:Program)(o:Oper)(ρ:Operand→Value)(w:World)(K:Value→World→Prop):Prop :=
  match (execOp ρ o).run P w with
  | .ok (.value v) w'=>K v w'
  | .ok .skip w'=>K undef w'
  | .ok (.enter f args) w'=>Calls P f args w' fun e w''=>∃ v,e = .returned v∧K v w''
  | .ok (.round l f tmps assign body) w'=>RoundIn Fence.wide 0 P l f tmps assign body w' fun e w''=>∃ v,e = .returned v∧K v w''
  | _=>False
theorem ybd.mono{P:Program}{o:Oper}{ρ:Operand→Value}{w:World}{K K':Value→World→Prop}(h:ybd P o ρ w K)(hk:∀ v w',K v w'→K' v w'):ybd P o ρ w K':=by
  unfold ybd at h ⊢
  split at h
  · exact hk _ _ h
  · exact hk _ _ h
  · intro cs
    obtain ⟨e,w',fr,⟨v,rfl,hK⟩,r⟩:=h cs
    exact ⟨_,w',fr,⟨v,rfl,hk _ _ hK⟩,r⟩
  · exact h.mono fun e w'' ⟨v,hv,hK⟩=>⟨v,hv,hk _ _ hK⟩
  · exact h.elim
section
variable (P : Program) (ops : Array Oper) (st : Nat → List Nat) (Q : Act → World → Prop)
def seqS:List Nat→List (Nat×Sem Next×Value)→Act→World→Prop
  | [],_,a,w=>Q a w
  | i::rest,pend,a,w=>match ops[i]? with
    | none=>seqS rest pend a w
    | some o=>if Region.wanted o (yielded ops a.tmps)=true then
        (if yaE o.op=true then ∃ v,(execOp a.eval o).run P w = .ok (.value v) w∧seqS rest ((i,execOp a.eval o,v)::pend) (a.put o.dst v) w
         else ybm o.op=true∧ybd P o a.eval w fun v w'=>(∀ p∈pend,p.1∈st i→p.2.1.run P w' = .ok (.value p.2.2) w')∧seqS rest pend (a.put o.dst v) w')
      else seqS rest pend (a.put o.dst undef) w
end
def dep(ops:Array Oper):Nat→Nat→Nat→Bool
  | 0,_,_=>false
  | fuel+1,i,j=>match ops[j]? with
    | none=>false
    | some o=>o.after.any fun e=>Region.binds .any e&&(e.on==i || (Nat.blt i e.on&&dep ops fuel i e.on))
def ye1(ops:Array Oper)(st:Nat→List Nat)(i j:Nat):Bool :=
  match ops[i]?,ops[j]? with
  | some oi,some oj=>(oi.after.all fun e=>!Region.binds .any e || !(e.on==j))&&((yaE oi.op&&oi.apart ops oj&&(yaE oj.op || (ybm oj.op&&(st j).contains i))) || dep ops ops.size i j)
  | _,_=>false
def ygo(f:Nat→Nat→Bool):List Nat→Bool
  | []=>true
  | i::t=>t.all (f i)&&ygo f t
def yhU(ops:Array Oper)(st:Nat→List Nat)(R:List Nat):Bool :=
  (R.all fun j=>match ops[j]? with
    | none=>false
    | some oj=>oj.after.all fun e=>!Region.binds .any e || (decide (e.on<ops.size) && !(e.on==j)))&&(List.range ops.size).all (R.contains ·)&&decide (R.length≤ops.size)&&ygo (fun i j=>!(i==j)&&ye1 ops st i j) R
section
variable {P : Program} {ops : Array Oper} {st : Nat → List Nat} {Q : Act → World → Prop} {i j : Nat}
theorem yfR:∀ (R:List Nat) (pend pend':List (Nat×Sem Next×Value)) (a:Act) (w:World),(∀ p,p∈pend'→p∈pend)→seqS P ops st Q R pend a w→seqS P ops st Q R pend' a w
  | [],_,_,_,_,_,h=>h
  | i::R,pend,pend',a,w,hp,h=>by
    simp only [seqS] at h ⊢
    cases ho:ops[i]? with
    | none=>simp only [ho] at h ⊢;exact yfR R _ _ _ _ hp h
    | some o =>
      simp only [ho] at h ⊢
      split
      · rename_i c
        rw [if_pos c] at h
        split
        · rename_i q
          rw [if_pos q] at h
          obtain ⟨v,hv,h⟩:=h
          refine ⟨v,hv,yfR R _ _ _ _ (fun p hm=>?_) h⟩
          rcases List.mem_cons.1 hm with rfl | hm
          · exact List.mem_cons_self
          · exact List.mem_cons_of_mem _ (hp p hm)
        · rename_i q
          rw [if_neg q] at h
          exact ⟨h.1,h.2.mono fun v w' h=>⟨fun p hm=>h.1 p (hp p hm),yfR R _ _ _ _ hp h.2⟩⟩
      · rename_i c
        rw [if_neg c] at h
        exact yfR R _ _ _ _ hp h
theorem seqS_swap{i j:Nat}{oi oj:Oper}{R:List Nat}{pend:List (Nat×Sem Next×Value)}{a:Act}{w:World}(hi:ops[i]? = some oi)(hj:ops[j]? = some oj)(qi:yaE oi.op=true)
    (hap:oi.apart ops oj=true) (qj:yaE oj.op=true∨(ybm oj.op=true∧i∈st j)) (h:seqS P ops st Q (i::j::R) pend a w):seqS P ops st Q (j::i::R) pend a w:=by
  obtain ⟨h1,h2,h3⟩:=Oper.apart_spec hap
  have sj:∀ cs b,oj.op ≠ .select cs b:=by rcases qj with q | q;exact yaE.select q;exact ybm.select q.1
  have wi:∀ v,Region.wanted oi (yielded ops (a.put oj.dst v).tmps)=Region.wanted oi (yielded ops a.tmps):=fun v=>wanted_put oi a oj.dst v h3
  have wj:∀ v,Region.wanted oj (yielded ops (a.put oi.dst v).tmps)=Region.wanted oj (yielded ops a.tmps):=fun v=>wanted_put oj a oi.dst v h1
  have ei:∀ v,execOp (a.put oj.dst v).eval oi=execOp a.eval oi:=fun v=>execOp_put oi (yaE.select qi) a oj.dst v h3
  have ej:∀ v,execOp (a.put oi.dst v).eval oj=execOp a.eval oj:=fun v=>execOp_put oj sj a oi.dst v h1
  have pc:∀ u v,(a.put oi.dst u).put oj.dst v=(a.put oj.dst v).put oi.dst u:=fun u v=>Act.put_comm a u v h2
  simp only [seqS,hi,hj,qi,if_true] at h ⊢
  by_cases ci:Region.wanted oi (yielded ops a.tmps)=true
  · by_cases cj:Region.wanted oj (yielded ops a.tmps)=true
    · simp only [ci,cj,wi,wj,ei,ej,if_true] at h ⊢
      by_cases q:yaE oj.op=true
      · simp only [q,if_true] at h ⊢
        obtain ⟨u,hu,v,hv,h⟩:=h
        refine ⟨v,hv,u,hu,?_⟩
        rw [←pc]
        exact yfR R _ _ _ _ (fun p hm=>by simp only [List.mem_cons] at hm ⊢;rcases hm with h | h | h;exact .inr (.inl h);exact .inl h;exact .inr (.inr h)) h
      · have q':ybm oj.op=true∧i∈st j:=by rcases qj with h | h;exact absurd h q;exact h
        simp only [q,Bool.false_eq_true,if_false] at h ⊢
        obtain ⟨u,hu,hn,h⟩:=h
        refine ⟨hn,?_⟩
        unfold ybd at h ⊢
        rw [ej] at h
        split at h
        · obtain ⟨hs,h⟩:=h
          refine ⟨fun p hm hp=>hs p (List.mem_cons_of_mem _ hm) hp,u,hs _ List.mem_cons_self q'.2,?_⟩
          rw [←pc];exact h
        · obtain ⟨hs,h⟩:=h
          refine ⟨fun p hm hp=>hs p (List.mem_cons_of_mem _ hm) hp,u,hs _ List.mem_cons_self q'.2,?_⟩
          rw [←pc];exact h
        · intro cs
          obtain ⟨e,w',fr,⟨v,rfl,hs,h⟩,r⟩:=h cs
          refine ⟨_,w',fr,⟨v,rfl,fun p hm hp=>hs p (List.mem_cons_of_mem _ hm) hp,u,hs _ List.mem_cons_self q'.2,?_⟩,r⟩
          rw [←pc];exact h
        · refine h.mono ?_
          rintro e w'' ⟨v,rfl,hs,h⟩
          exact ⟨v,rfl,fun p hm hp=>hs p (List.mem_cons_of_mem _ hm) hp,u,hs _ List.mem_cons_self q'.2,by rw [←pc];exact h⟩
        · exact h.elim
    · simp only [ci,cj,wi,wj,ei,ej,if_true,if_false,Bool.false_eq_true] at h ⊢
      obtain ⟨u,hu,h⟩:=h
      exact ⟨u,hu,by rw [←pc];exact h⟩
  · by_cases cj:Region.wanted oj (yielded ops a.tmps)=true
    · simp only [ci,cj,wi,wj,ei,ej,if_true,if_false,Bool.false_eq_true] at h ⊢
      by_cases q:yaE oj.op=true
      · simp only [q,if_true] at h ⊢
        obtain ⟨v,hv,h⟩:=h
        exact ⟨v,hv,by rw [←pc];exact h⟩
      · simp only [q,Bool.false_eq_true,if_false] at h ⊢
        refine ⟨h.1,?_⟩
        have h:=h.2
        unfold ybd at h ⊢
        rw [ej] at h
        split at h
        · exact ⟨h.1,by rw [←pc];exact h.2⟩
        · exact ⟨h.1,by rw [←pc];exact h.2⟩
        · intro cs
          obtain ⟨e,w',fr,⟨v,rfl,hs,h⟩,r⟩:=h cs
          exact ⟨_,w',fr,⟨v,rfl,hs,by rw [←pc];exact h⟩,r⟩
        · refine h.mono ?_
          rintro e w'' ⟨v,rfl,hs,h⟩
          exact ⟨v,rfl,hs,by rw [←pc];exact h⟩
        · exact h.elim
    · simp only [ci,cj,wi,wj,if_false,Bool.false_eq_true] at h ⊢
      rw [←pc];exact h
theorem seqS_cons_mono{i:Nat}{R R':List Nat}{pend:List (Nat×Sem Next×Value)}(hm:∀ pend a w,seqS P ops st Q R pend a w→seqS P ops st Q R' pend a w){a:Act}{w:World}
    (h:seqS P ops st Q (i::R) pend a w):seqS P ops st Q (i::R') pend a w:=by
  simp only [seqS] at h ⊢
  cases ho:ops[i]? with
  | none=>simp only [ho] at h ⊢;exact hm _ _ _ h
  | some o =>
    simp only [ho] at h ⊢
    split
    · rename_i c
      rw [if_pos c] at h
      split
      · rename_i q
        rw [if_pos q] at h
        obtain ⟨v,hv,h⟩:=h
        exact ⟨v,hv,hm _ _ _ h⟩
      · rename_i q
        rw [if_neg q] at h
        exact ⟨h.1,h.2.mono fun v w' h=>⟨h.1,hm _ _ _ h.2⟩⟩
    · rename_i c
      rw [if_neg c] at h
      exact hm _ _ _ h
theorem seqS_pull{i:Nat}{oi:Oper}(hi:ops[i]? = some oi):∀ (R1 R2:List Nat),(∀ r∈R1,∃ o,ops[r]? = some o∧yaE o.op=true∧o.apart ops oi=true∧(yaE oi.op=true∨(ybm oi.op=true∧r∈st i))) →
    ∀ (pend:List (Nat×Sem Next×Value)) (a:Act) (w:World),seqS P ops st Q (R1++i::R2) pend a w→seqS P ops st Q (i::(R1++R2)) pend a w
  | [],_,_,_,_,_,h=>h
  | r::R1,R2,hR,pend,a,w,h=>by
    obtain ⟨o,ho,q1,hap,q2⟩:=hR r (by simp)
    have h1:seqS P ops st Q (r::i::(R1++R2)) pend a w:=seqS_cons_mono (fun pend a w=>seqS_pull hi R1 R2 (fun x hx=>hR x (by simp [hx])) pend a w) h
    exact seqS_swap ho hi q1 hap q2 h1
theorem ygo.out{f:Nat→Nat→Bool} : ∀ {R:List Nat},ygo f R=true→R.Pairwise (fun i j=>f i j=true)
  | [],_=>List.Pairwise.nil
  | i::t,h=>by
    simp only [ygo,Bool.and_eq_true] at h
    exact List.pairwise_cons.2 ⟨fun j hj=>List.all_eq_true.1 h.1 j hj,ygo.out h.2⟩
theorem ye1.two(h:ye1 ops st i j=true){oi oj:Oper}(hi:ops[i]? = some oi)(hj:ops[j]? = some oj)
    (hno:dep ops ops.size i j=false):yaE oi.op=true∧oi.apart ops oj=true∧(yaE oj.op=true∨(ybm oj.op=true∧i∈st j)):=by
  simp only [ye1,hi,hj,hno,Bool.or_false,Bool.and_eq_true,Bool.or_eq_true,List.contains_iff_mem] at h
  exact ⟨h.2.1.1,h.2.1.2,h.2.2⟩
theorem ye1.not(h:ye1 ops st i j=true){oi:Oper}(hi:ops[i]? = some oi){e:Edge}(he:e∈oi.after)(hb:Region.binds .any e=true):e.on≠j:=by
  unfold ye1 at h
  rw [hi] at h
  cases hj:ops[j]? with
  | none=>rw [hj] at h;cases h
  | some oj =>
    rw [hj] at h
    simp only [Bool.and_eq_true] at h
    have h2:=h.1
    rw [Array.all_eq_true] at h2
    obtain ⟨k,hk,rfl⟩:=Array.getElem_of_mem he
    have h3:=h2 k hk
    simpa [hb] using h3
def yf1(ops:Array Oper)(listed:Array Bool):Prop:=∀ j oj,ops[j]? = some oj→listed.getD j true=true→∀ e∈oj.after,Region.binds .any e=true→listed.getD e.on true=true
theorem yhg{listed:Array Bool}(hd:yf1 ops listed):∀ (fuel i j:Nat) (oj:Oper),ops[j]? = some oj→(∀ e∈oj.after,Region.binds .any e=true→listed.getD e.on true=true)→dep ops fuel i j=true→listed.getD i true=true
  | 0,i,j,oj,hj,ha,h=>by simp [dep] at h
  | fuel+1,i,j,oj,hj,ha,h=>by
    simp only [dep,hj] at h
    rw [Array.any_eq_true] at h
    obtain ⟨k,hk,h⟩:=h
    simp only [Bool.and_eq_true,Bool.or_eq_true,beq_iff_eq] at h
    obtain ⟨hb,h⟩:=h
    have hm:oj.after[k]∈oj.after:=Array.getElem_mem hk
    rcases h with h | ⟨_,h⟩
    · rw [←h];exact ha _ hm hb
    · cases hq:ops[(oj.after[k]).on]? with
      | none =>
        cases fuel with
        | zero=>simp [dep] at h
        | succ f=>simp [dep,hq] at h
      | some o2=>exact yhg hd fuel i _ o2 hq (hd _ _ hq (ha _ hm hb)) h
theorem seqS_any{F:Fence}{n:Nat}{Q':Exit→Act→World→Prop}(hF:∀ f,F.fn f)(hD:F.depth=none)(hC:∀ f args w R,Calls P f args w R→CallsIn F (n-1) P f args w R)(hRd:∀ l f tmps assign body w R,RoundIn Fence.wide 0 P l f tmps assign body w R→RoundIn F (n-1) P l f tmps assign body w R)(hQ:∀ a w,Q a w→Q' .normal a w)(hO:∀ j oj,ops[j]? = some oj→∀ e∈oj.after,Region.binds .any e=true→e.on<ops.size∧e.on≠j) :
    ∀ (fuel:Nat) (R:List Nat) (listed:Array Bool) (pend:List (Nat×Sem Next×Value)) (a:Act) (w:World),R.length≤fuel→R.Pairwise (fun i j=>i≠j∧ye1 ops st i j=true) →
    (∀ i,i∈R↔listed.getD i true=false)→listed.size=ops.size→yf1 ops listed→seqS P ops st Q R pend a w→wpAnyIn F n P .any ops Q' fuel listed a w:=by
  have hready:∀ (r:Nat) (R:List Nat) (listed:Array Bool),(r::R).Pairwise (fun i j=>i≠j∧ye1 ops st i j=true)→(∀ i,i∈r::R↔listed.getD i true=false)→listed.size=ops.size→r∈Region.ready .any ops listed:=by
    intro r R listed hp hl hs
    have hr:=(hl r).1 (by simp)
    have hlt:r<ops.size:=by
      rcases Nat.lt_or_ge r listed.size with h | h
      · omega
      · simp [Array.getD_eq_getD_getElem?,Array.getElem?_eq_none h] at hr
    refine mem_ready.2 ⟨hr,ops[r],by simp [hlt],fun e he hb=>?_⟩
    have h1:=hO r _ (by simp [hlt]:ops[r]? = some ops[r]) e he hb
    have h2:e.on∉r::R:=by
      intro h
      rcases List.mem_cons.1 h with h | h
      · exact h1.2 h
      · have:=((List.pairwise_cons.1 hp).1 _ h).2
        exact ye1.not this (by simp [hlt]:ops[r]? = some ops[r]) he hb rfl
    have h3:=mt (hl e.on).2 h2
    have h4:e.on<listed.size:=by omega
    simp [h4] at h3 ⊢
    exact h3
  have hnil:∀ (R:List Nat) (listed:Array Bool),R.Pairwise (fun i j=>i≠j∧ye1 ops st i j=true)→(∀ i,i∈R↔listed.getD i true=false)→listed.size=ops.size→Region.ready .any ops listed=[]→R=[]:=by
    intro R listed hp hl hs h
    cases R with
    | nil=>rfl
    | cons r R=>have:=hready r R listed hp hl hs;rw [h] at this;cases this
  intro fuel
  induction fuel with
  | zero =>
    intro R listed pend a w hf hp hl hs hdw h
    have hR:R=[]:=List.eq_nil_of_length_eq_zero (by omega)
    subst hR
    refine ⟨?_,hQ _ _ h⟩
    cases hrd:Region.ready .any ops listed with
    | nil=>rfl
    | cons r rs =>
      have h1:r∈Region.ready .any ops listed:=by rw [hrd];simp
      exact absurd ((hl r).2 (mem_ready.1 h1).1) (by simp)
  | succ fuel ih =>
    intro R listed pend a w hf hp hl hs hdw h
    refine ⟨fun h0=>by have:=hnil R listed hp hl hs h0;subst this;exact hQ _ _ h,fun i hi=>?_⟩
    obtain ⟨hun,oi,hoi,hall⟩:=mem_ready.1 hi
    have hiR:=(hl i).2 hun
    have hlb:∀ x:Nat,listed.getD x false=true→listed.getD x true=true:=by
      intro x hx
      rcases Nat.lt_or_ge x listed.size with h | h
      · simp [Array.getD_eq_getD_getElem?,h] at hx ⊢;exact hx
      · simp [Array.getD_eq_getD_getElem?,h]
    have hall':∀ e∈oi.after,Region.binds .any e=true→listed.getD e.on true=true:=fun e he hb=>hlb _ (hall e he hb)
    obtain ⟨R1,R2,rfl⟩:=List.append_of_mem hiR
    have hlt1:∀ r∈R1,r≠i∧ye1 ops st r i=true:=fun r hr=>(List.pairwise_append.1 hp).2.2 r hr i (by simp)
    have h1:=seqS_pull hoi R1 R2 (fun r hr=>by
      have hr0:=(hl r).1 (by simp [hr])
      have hrs:r<ops.size:=by
        rcases Nat.lt_or_ge r listed.size with h | h
        · omega
        · simp [Array.getD_eq_getD_getElem?,Array.getElem?_eq_none h] at hr0
      have hd0:dep ops ops.size r i=false:=by
        cases hq:dep ops ops.size r i with
        | false=>rfl
        | true =>
          have:=yhg hdw ops.size r i oi hoi hall' hq
          rw [this] at hr0;cases hr0
      obtain ⟨a1,a2,a3⟩:=ye1.two (hlt1 r hr).2 (by simp [hrs]:ops[r]? = some ops[r]) hoi hd0
      exact ⟨ops[r],by simp [hrs],a1,a2,a3⟩) pend a w h
    have hsub:(R1++R2).Sublist (R1++i::R2):=(List.Sublist.refl R1).append (List.sublist_cons_self i R2)
    have hni:i∉R1++R2:=by
      intro hm
      rcases List.mem_append.1 hm with hm | hm
      · exact (hlt1 i hm).1 rfl
      · exact ((List.pairwise_cons.1 (List.pairwise_append.1 hp).2.1).1 i hm).1 rfl
    have hl':∀ k,k∈R1++R2↔(listed.setIfInBounds i true).getD k true=false:=by
      intro k
      by_cases hki:i=k
      · subst hki
        constructor
        · intro h;exact absurd h hni
        · intro h
          have hil:i<listed.size:=by have:=(Array.getElem?_eq_some_iff.1 hoi).1;omega
          simp [hil] at h
      · rw [getD_set_ne true hki,←hl k]
        simp only [List.mem_append,List.mem_cons]
        constructor
        · rintro (h | h)
          · exact .inl h
          · exact .inr (.inr h)
        · rintro (h | h | h)
          · exact .inl h
          · exact absurd h.symm hki
          · exact .inr h
    have hdw':yf1 ops (listed.setIfInBounds i true):=by
      intro j oj hj hlj e he hb
      have hmono:∀ x:Nat,listed.getD x true=true→(listed.setIfInBounds i true).getD x true=true:=by
        intro x hx
        by_cases hki:i=x
        · subst hki
          have hil:i<listed.size:=by have:=(Array.getElem?_eq_some_iff.1 hoi).1;omega
          simp [hil]
        · rw [getD_set_ne true hki];exact hx
      by_cases hji:i=j
      · subst hji
        rw [hoi] at hj
        cases hj
        exact hmono _ (hall' e he hb)
      · rw [getD_set_ne true hji] at hlj
        exact hmono _ (hdw j oj hj hlj e he hb)
    have hrec:∀ pend a w,seqS P ops st Q (R1++R2) pend a w→wpAnyIn F n P .any ops Q' fuel (listed.setIfInBounds i true) a w:=fun pend a w hh =>
      ih (R1++R2) _ pend a w (by simp at hf ⊢;omega) (hp.sublist hsub) hl' (by simp [hs]) hdw' hh
    unfold wpOpIn
    simp only [seqS,hoi] at h1 ⊢
    split
    · rename_i c
      rw [if_pos c] at h1
      split at h1
      · rename_i q
        obtain ⟨v,hv,h1⟩:=h1
        refine ⟨fun f _=>hF f,?_⟩
        rw [Oper.semAt_eq _ _ _ (yaE.defer q),hv]
        exact hrec _ _ _ h1
      · obtain ⟨hn,h1⟩:=h1
        refine ⟨fun f _=>hF f,?_⟩
        rw [Oper.semAt_eq _ _ _ (ybm.defer hn)]
        unfold ybd at h1
        split at h1
        · rename_i v w' hr
          rw [hr]
          exact hrec _ _ _ h1.2
        · rename_i w' hr
          rw [hr]
          exact hrec _ _ _ h1.2
        · rename_i f args w' hr
          rw [hr]
          refine ⟨fun hd=>(by rw [hD] at hd;cases hd),(hC _ _ _ _ h1).mono ?_⟩
          rintro e w'' ⟨v,rfl,hh⟩
          exact hrec _ _ _ hh.2
        · rename_i l f tmps assign body w' hr
          rw [hr]
          refine ⟨fun hd=>(by rw [hD] at hd;cases hd),(hRd _ _ _ _ _ _ _ h1).mono ?_⟩
          rintro e w'' ⟨v,rfl,hh⟩
          exact hrec _ _ _ hh.2
        · exact h1.elim
    · rename_i c
      rw [if_neg c] at h1
      exact ⟨fun f _=>hF f,hrec _ _ _ h1⟩
theorem yeH{F:Fence}{n:Nat}{Q':Exit→Act→World→Prop}(hF:∀ f,F.fn f)(hD:F.depth=none)(hC:∀ f args w R,Calls P f args w R→CallsIn F (n-1) P f args w R)(hRd:∀ l f tmps assign body w R,RoundIn Fence.wide 0 P l f tmps assign body w R→RoundIn F (n-1) P l f tmps assign body w R)(hQ:∀ a w,Q a w→Q' .normal a w) :
    ∀ (R:List Nat) (pend:List (Nat×Sem Next×Value)) (a:Act) (w:World),seqS P ops st Q R pend a w→wpOpsIn F n P ops Q' R a w
  | [],_,_,_,h=>hQ _ _ h
  | i::R,pend,a,w,h=>by
    simp only [seqS,wpOpsIn] at h ⊢
    cases ho:ops[i]? with
    | none=>simp only [ho] at h ⊢;exact yeH hF hD hC hRd hQ R _ _ _ h
    | some o =>
      simp only [ho] at h ⊢
      split
      · rename_i c
        rw [if_pos c] at h
        split at h
        · rename_i q
          obtain ⟨v,hv,h1⟩:=h
          refine ⟨fun f _=>hF f,?_⟩
          rw [Oper.semAt_eq _ _ _ (yaE.defer q),hv]
          exact yeH hF hD hC hRd hQ R _ _ _ h1
        · obtain ⟨hn,h1⟩:=h
          refine ⟨fun f _=>hF f,?_⟩
          rw [Oper.semAt_eq _ _ _ (ybm.defer hn)]
          unfold ybd at h1
          split at h1
          · rename_i v w' hr
            rw [hr]
            exact yeH hF hD hC hRd hQ R _ _ _ h1.2
          · rename_i w' hr
            rw [hr]
            exact yeH hF hD hC hRd hQ R _ _ _ h1.2
          · rename_i f args w' hr
            rw [hr]
            refine ⟨fun hd=>(by rw [hD] at hd;cases hd),(hC _ _ _ _ h1).mono ?_⟩
            rintro e w'' ⟨v,rfl,hh⟩
            exact yeH hF hD hC hRd hQ R _ _ _ hh.2
          · rename_i l f tmps assign body w' hr
            rw [hr]
            refine ⟨fun hd=>(by rw [hD] at hd;cases hd),(hRd _ _ _ _ _ _ _ h1).mono ?_⟩
            rintro e w'' ⟨v,rfl,hh⟩
            exact yeH hF hD hC hRd hQ R _ _ _ hh.2
          · exact h1.elim
      · rename_i c
        rw [if_neg c] at h
        exact ⟨fun f _=>hF f,yeH hF hD hC hRd hQ R _ _ _ h⟩
end
end Go.Proofs.YtjepipbkiadcpaaGreat

/- Words for memory that all walks of this seat share: rows of cells known from their first cell on, worlds that keep all but some blocks. No program in sight. -/
namespace Go.Proofs.YtjepipbkiadcpaaGreat
open Go.RowKit Go.Proofs.Tryz
theorem yc1{a b:Value}(h:a=b):Ending.returned a = .returned b:=by rw [h]
theorem yeW{k:IntKind}{a b:Int}(h:a=b):Value.int k a=Value.int k b:=by rw [h]
def Same(w w':World):Prop:=w=w'
theorem Same.refl(w:World):Same w w:=rfl
theorem Same.out{w w':World}(h:Same w w'):w=w':=h
theorem neF{a b:Int}(h:a=b):(a != b)=false:=by simp [h]
theorem neT{a b:Int}(h:¬a=b):(a != b)=true:=by simp [h]
theorem eqF{a b:Int}(h:¬a=b):(a==b)=false:=by simp [h]
theorem eqT{a b:Int}(h:a=b):(a==b)=true:=by simp [h]
def gi(l:List Int)(k:Nat):Int:=l.getD k 0
def gb(l:List Bool)(k:Nat):Bool:=l.getD k false
theorem ybk{l:List Int}{k:Nat}(h:k<l.length):gi l k=l[k]:=by simp [gi,h]
theorem gi_ge{l:List Int}{k:Nat}(h:l.length≤k):gi l k=0:=by simp [gi,h]
theorem ya7{l:List Int}{k j:Nat}{x:Int}(h:k<l.length):gi (l.set k x) j=if j=k then x else gi l j:=by
  unfold gi
  simp only [List.getD_eq_getElem?_getD,List.getElem?_set]
  by_cases e:j=k
  · subst e;simp [h]
  · rw [if_neg (by omega),if_neg e]
theorem gi_mem{l:List Int}{k:Nat}(h:k<l.length):gi l k∈l:=by rw [ybk h];exact List.getElem_mem h
theorem yfv{l m:List Int}(h:l.length=m.length)(h2:∀ k,k<l.length→gi l k=gi m k):l=m:=by
  refine List.ext_getElem h fun i h1 h3=>?_
  have:=h2 i h1
  rwa [ybk h1,ybk h3] at this
theorem yb2{l:List Bool}{k:Nat}(h:k<l.length):gb l k=l[k]:=by simp [gb,h]
theorem gb_ge{l:List Bool}{k:Nat}(h:l.length≤k):gb l k=false:=by simp [gb,h]
theorem yeB{l:List Bool}{k j:Nat}{x:Bool}(h:k<l.length):gb (l.set k x) j=if j=k then x else gb l j:=by
  unfold gb
  simp only [List.getD_eq_getElem?_getD,List.getElem?_set]
  by_cases e:j=k
  · subst e;simp [h]
  · rw [if_neg (by omega),if_neg e]
theorem gb_ext{l m:List Bool}(h:l.length=m.length)(h2:∀ k,k<l.length→gb l k=gb m k):l=m:=by
  refine List.ext_getElem h fun i h1 h3=>?_
  have:=h2 i h1
  rwa [yb2 h1,yb2 h3] at this
def Row(w:World)(g:Nat)(e:TypeId)(size:Nat)(xs:List Value):Prop :=
  ∃ cur:Array Value,w.heap[g]? = some (.cells cur e (0,0))∧cur.size=size∧cur.toList.take xs.length=xs
section
variable {w w' : World} {g : Nat} {e : TypeId} {size : Nat} {xs : List Value}
theorem Row.lt(h:Row w g e size xs):g<w.heap.size:=by
  obtain ⟨cur,h,_⟩:=h
  exact (Array.getElem?_eq_some_iff.1 h).1
theorem Row.le(h:Row w g e size xs):xs.length≤size:=by
  obtain ⟨cur,_,h2,h3⟩:=h
  have:=congrArg List.length h3
  simp at this
  omega
theorem Row.keep(h:Row w g e size xs)(k:w'.heap[g]? = w.heap[g]?):Row w' g e size xs:=by
  obtain ⟨cur,h1,h2⟩:=h
  exact ⟨cur,k.trans h1,h2⟩
theorem Row.cell(h:Row w g e size xs){i:Nat}{v:Value}(hv:xs[i]? = some v):w.cell? ⟨g,i,none⟩=some v:=by
  obtain ⟨cur,h1,h2,h3⟩:=h
  have hi:i<xs.length:=(List.getElem?_eq_some_iff.1 hv).1
  rw [←h3,List.getElem?_take,if_pos hi] at hv
  simp only [World.cell?,h1]
  simpa using hv
theorem Row.frozen(h:Row w g e size xs)(i:Nat):w.frozen? ⟨g,i,none⟩=false:=by
  obtain ⟨cur,h1,h2,h3⟩:=h
  simp [World.frozen?,h1]
theorem Row.set_ (h:Row w g e size xs)(i:Nat)(v:Value):Row (w.setCell ⟨g,i,none⟩ v) g e size (xs.set i v):=by
  obtain ⟨cur,h1,h2,h3⟩:=h
  refine ⟨cur.setIfInBounds i v,?_,by simpa using h2,?_⟩
  · simp [World.setCell,Array.getElem?_modify,h1]
  · simp only [List.length_set,Array.toList_setIfInBounds]
    conv=>rhs;rw [←h3]
    rw [List.take_set]
theorem Row.far(h:Row w g e size xs){p:Addr}(hp:g≠p.block)(v:Value):Row (w.setCell p v) g e size xs :=
  h.keep (Below.heap_setCell w p v g hp)
theorem Row.alloc(h:Row w g e size xs)(o:Obj):Row (w.alloc o) g e size xs:=h.keep (Below.heap_alloc w o g h.lt)
theorem Row.drew(h:Row w g e size xs):Row w.drew g e size xs:=h
theorem Row.drewN(h:Row w g e size xs)(n:Nat):Row (w.drewN n) g e size xs:=h
theorem Row.below{B:Nat}(h:Row w g e size xs)(hb:Below B w w')(hg:g<B):Row w' g e size xs:=h.keep (hb.block g hg)
theorem Row.new(w:World)(cs:Array Value)(e:TypeId):Row (w.alloc (.cells cs e)) w.heap.size e cs.size cs.toList :=
  ⟨cs,heap_alloc_new w _,rfl,by rw [List.take_of_length_le (by simp)]⟩
theorem Row.take(h:Row w g e size xs)(n:Nat):Row w g e size (xs.take n):=by
  obtain ⟨cur,h1,h2,h3⟩:=h
  refine ⟨cur,h1,h2,?_⟩
  have hl:(cur.toList.take xs.length).length=xs.length:=by rw [h3]
  rw [List.length_take] at hl
  conv=>rhs;rw [←h3,List.take_take]
  rw [List.length_take]
theorem Row.own{n cap:Nat}(h:Row w g e (cap*1) xs)(hn:xs.length=n)(hc:cap≤maxLen){base:Nat}(hb:base≤g):w.ownsRow base e 1 (.slice (some ⟨g,0,none⟩) n cap) n xs:=by
  have hle:=h.le
  obtain ⟨cur,h1,h2,h3⟩:=h
  refine ⟨by omega, .inr ⟨g,cap,cur,rfl,hb,h1,by omega,hc,h2,?_⟩⟩
  rw [Nat.mul_one,←hn];exact h3
end
structure Keeps(S:Nat→Prop)(w w':World):Prop where
  os:w'.os=w.os
  tape:w'.tape=w.tape
  output:w'.output=w.output
  size:w.heap.size≤w'.heap.size
  block:∀ k,k<w.heap.size→¬S k→w'.heap[k]? = w.heap[k]?
section
variable {S : Nat → Prop} {a w w' : World}
theorem Keeps.refl(S:Nat→Prop)(w:World):Keeps S w w:=⟨rfl,rfl,rfl,Nat.le_refl _,fun _ _ _=>rfl⟩
theorem Keeps.trans{b c:World}(h:Keeps S a b)(k:Keeps S b c):Keeps S a c :=
  ⟨k.os.trans h.os,k.tape.trans h.tape,k.output.trans h.output,Nat.le_trans h.size k.size,fun i hi hs=>(k.block i (Nat.lt_of_lt_of_le hi h.size) hs).trans (h.block i hi hs)⟩
theorem Keeps.mono{S':Nat→Prop}(h:Keeps S a w)(hs:∀ k,k<a.heap.size→S k→S' k):Keeps S' a w :=
  ⟨h.os,h.tape,h.output,h.size,fun k hk hn=>h.block k hk fun hS=>hn (hs k hk hS)⟩
theorem Keeps.drew(h:Keeps S a w):Keeps S a w.drew:=⟨h.os,h.tape,h.output,h.size,h.block⟩
theorem Keeps.drewN(h:Keeps S a w)(n:Nat):Keeps S a (w.drewN n):=⟨h.os,h.tape,h.output,h.size,h.block⟩
theorem Keeps.alloc(h:Keeps S a w)(o:Obj):Keeps S a (w.alloc o) :=
  h.trans ⟨rfl,rfl,rfl,by simp,fun k hk _=>Below.heap_alloc _ _ _ hk⟩
theorem Keeps.setCell(h:Keeps S a w){p:Addr}(hp:p.block<a.heap.size→S p.block)(u:Value):Keeps S a (w.setCell p u) :=
  ⟨h.os,h.tape,h.output,Nat.le_trans h.size (by simp [World.setCell]),fun k hk hn=>(Below.heap_setCell _ _ _ _ (fun e=>by subst e;exact hn (hp hk))).trans (h.block k hk hn)⟩
theorem Keeps.grown(h:Keeps S a w){row:Option Nat}(hg:w.grownBy w' row)(hr:∀ k,row=some k→k<a.heap.size→S k):Keeps S a w' :=
  ⟨hg.os.trans h.os,hg.tape.trans h.tape,hg.output.trans h.output,Nat.le_trans h.size hg.size,fun k hk hn=>(hg.block k (Nat.lt_of_lt_of_le hk h.size) (fun e=>hn (hr k e.symm hk))).trans (h.block k hk hn)⟩
theorem Keeps.of_below{B:Nat}(h:Below B w w')(hB:w.heap.size≤B):Keeps S w w':=⟨h.os,h.tape,h.output,h.size,fun k hk _=>h.block k (by omega)⟩
theorem Keeps.below(h:Keeps S w w'){B:Nat}(hB:∀ k,k<B→¬S k)(hw:B≤w.heap.size):Below B w w':=⟨h.os,h.tape,h.output,h.size,fun k hk=>h.block k (by omega) (hB k hk)⟩
theorem Keeps.then(h:Keeps S a w){S':Nat→Prop}(k:Keeps S' w w')(hs:∀ k,k<a.heap.size→S' k→S k):Keeps S a w' :=
  ⟨k.os.trans h.os,k.tape.trans h.tape,k.output.trans h.output,Nat.le_trans h.size k.size,fun i hi hn=>(k.block i (Nat.lt_of_lt_of_le hi h.size) (fun e=>hn (hs i hi e))).trans (h.block i hi hn)⟩
theorem Keeps.row(h:Keeps S w w'){g:Nat}{e:TypeId}{size:Nat}{xs:List Value}(hr:Row w g e size xs)(hs:¬S g):Row w' g e size xs:=hr.keep (h.block g hr.lt hs)
theorem Keeps.cell(h:Keeps S w w'){p:Addr}{v:Value}(hs:¬S p.block)(hc:w.cell? p=some v):w'.cell? p=some v:=by
  have hlt:p.block<w.heap.size:=by
    rcases Nat.lt_or_ge p.block w.heap.size with h1 | h1
    · exact h1
    · rw [World.cell?,Array.getElem?_eq_none h1] at hc;cases hc
  rw [World.cell?_of_block (w:=w) (h.block p.block hlt hs)];exact hc
end
abbrev Pure(w w':World):Prop:=Keeps (fun _=>False) w w'
theorem Pure.toBelow{w w':World}(h:Pure w w'):Below w.heap.size w w':=h.below (fun _ _=>id) (Nat.le_refl _)
theorem Pure.to{S:Nat→Prop}{w w':World}(h:Pure w w'):Keeps S w w':=h.mono fun _ _=>False.elim
theorem Pure.after{S:Nat→Prop}{a w w':World}(h:Keeps S a w)(k:Pure w w'):Keeps S a w':=h.trans (Pure.to k)
def Ints(w:World)(A:Option Addr)(xs:List Int):Prop :=
  0<xs.length→∃ b off,A=some ⟨b,off,none⟩∧b<w.heap.size∧∀ k,k<xs.length→w.cell? ⟨b,off+k,none⟩=some (.int .i64 (gi xs k))
theorem Ints.keep{w w':World}{A:Option Addr}{xs:List Int}(h:Ints w A xs)(hk:Pure w w'):Ints w' A xs:=fun hl=>by
  obtain ⟨b,off,e,hb,hc⟩:=h hl
  exact ⟨b,off,e,Nat.lt_of_lt_of_le hb hk.size,fun k h1=>hk.cell id (hc k h1)⟩
theorem Ints.nil(w:World)(A:Option Addr):Ints w A []:=fun h=>absurd h (by simp)
abbrev E3:=Int×Int×Int
def ge(es:List E3)(k:Nat):E3:=es.getD k (0,0,0)
theorem yed{l:List E3}{k:Nat}(h:k<l.length):ge l k=l[k]:=by simp [ge,h]
theorem yfJ{l:List E3}{k:Nat}(h:k<l.length):l.drop k=ge l k::l.drop (k+1):=by rw [yed h];exact List.drop_eq_getElem_cons h
theorem ge_mem{l:List E3}{k:Nat}(h:k<l.length):ge l k∈l:=by rw [yed h];exact List.getElem_mem h
def ydc(w:World)(A:Option Addr)(es:List E3):Prop :=
  0<es.length→∃ b off,A=some ⟨b,off,none⟩∧b<w.heap.size∧∀ k,k<es.length →
    w.cell? ⟨b,off+k*3,none⟩=some (.int .i64 (ge es k).1)∧w.cell? ⟨b,off+k*3+1,none⟩=some (.int .i64 (ge es k).2.1)∧w.cell? ⟨b,off+k*3+2,none⟩=some (.int .i64 (ge es k).2.2)
theorem ydc.keep{w w':World}{A:Option Addr}{es:List E3}(h:ydc w A es)(hk:Pure w w'):ydc w' A es:=fun hl=>by
  obtain ⟨b,off,e,hb,hc⟩:=h hl
  exact ⟨b,off,e,Nat.lt_of_lt_of_le hb hk.size,fun k h1=>⟨hk.cell id (hc k h1).1,hk.cell id (hc k h1).2.1,hk.cell id (hc k h1).2.2⟩⟩
abbrev IRow(w:World)(g:Nat)(e:TypeId)(size:Nat)(xs:List Int):Prop:=Row w g e size (xs.map (Value.int .i64))
abbrev BRow(w:World)(g:Nat)(e:TypeId)(size:Nat)(xs:List Bool):Prop:=Row w g e size (xs.map Value.bool)
section
variable {w : World} {g : Nat} {e : TypeId} {size : Nat}
theorem icell{xs:List Int}(h:IRow w g e size xs){k:Nat}(hk:k<xs.length):w.cell? ⟨g,k,none⟩=some (.int .i64 (gi xs k)) :=
  Row.cell h (by rw [List.getElem?_map,List.getElem?_eq_getElem hk,ybk hk];rfl)
theorem bcell{xs:List Bool}(h:BRow w g e size xs){k:Nat}(hk:k<xs.length):w.cell? ⟨g,k,none⟩=some (.bool (gb xs k)) :=
  Row.cell h (by rw [List.getElem?_map,List.getElem?_eq_getElem hk,yb2 hk];rfl)
theorem iset{xs:List Int}(h:IRow w g e size xs)(k:Nat)(v:Int):IRow (w.setCell ⟨g,k,none⟩ (.int .i64 v)) g e size (xs.set k v):=by
  have:=Row.set_ h k (.int .i64 v)
  unfold IRow;rwa [List.map_set]
theorem bset{xs:List Bool}(h:BRow w g e size xs)(k:Nat)(v:Bool):BRow (w.setCell ⟨g,k,none⟩ (.bool v)) g e size (xs.set k v):=by
  have:=Row.set_ h k (.bool v)
  unfold BRow;rwa [List.map_set]
theorem IRow.ints{xs:List Int}(h:IRow w g e size xs):Ints w (some ⟨g,0,none⟩) xs:=fun _=>⟨g,0,rfl,Row.lt h,fun k hk=>by rw [Nat.zero_add];exact icell h hk⟩
theorem IRow.le{xs:List Int}(h:IRow w g e size xs):xs.length≤size:=by simpa using Row.le h
end
theorem madeCells_one(z:Value)(hz:z.cells = #[z])(n:Nat):madeCells z.cells n=Array.replicate n z:=by
  rw [hz]
  apply Array.ext
  · simp [madeCells]
  · intro i h1 h2
    simp [madeCells,Nat.mod_one]
theorem yfD{P:Program}(t e:TypeId)(i:TypeInfo)(z:Value)(ht:P.underlying t=some (.slice e))(hi:P.info? e=some i)(hz:i.zero=some z)(hsz:i.size=1)(hb:i.bytes≤64)(hzc:z.cells = #[z])
    (n:Nat) (hn:n≤1000000) (w:World) :
    (Instr.makeSlice t (.int .i64 (n:Int)) (.int .i64 (n:Int))).run P w = .ok (.slice (some ⟨w.heap.size,0,none⟩) n n) (w.alloc (.cells (Array.replicate n z) e)):=by
  have hm:i.bytes*n≤64*1000000:=Nat.mul_le_mul hb hn
  have:=run_make (P:=P) w t e i z ht hi hz .i64 .i64 n n (by omega) (by omega) (by rw [←Int.natCast_mul];omega) (by omega)
  rw [this,Int.toNat_natCast,hsz,Nat.mul_one,madeCells_one z hzc]
theorem irow_made(w:World)(n:Nat)(e:TypeId):IRow (w.alloc (.cells (Array.replicate n (.int .i64 0)) e)) w.heap.size e n (List.replicate n 0):=by
  have:=Row.new w (Array.replicate n (.int .i64 0)) e
  simpa [IRow] using this
theorem brow_made(w:World)(n:Nat)(e:TypeId):BRow (w.alloc (.cells (Array.replicate n (.bool false)) e)) w.heap.size e n (List.replicate n false):=by
  have:=Row.new w (Array.replicate n (.bool false)) e
  simpa [BRow] using this
theorem Row.full{w:World}{g:Nat}{e:TypeId}{xs:List Value}(h:Row w g e xs.length xs):w.heap[g]? = some (.cells xs.toArray e (0,0)):=by
  obtain ⟨cur,h1,h2,h3⟩:=h
  rw [h1]
  congr 2
  rw [←h3,List.take_of_length_le (by simp [h2])]
theorem yhD{P:Program}{ops:Array Oper}{rest:List Oper}{o:Oper}{a:Act}{w:World}{Q:Exit→Act→World→Prop}(hgd:o.guard=none)(ty:TypeId)(x y:Operand)(ho:o.op = .store ty x y)
    (g:Nat) (hx:a.eval x = .pointer (some ⟨g,0,none⟩)) (cs:Array Value) (hy:a.eval y = .agg cs) (t:TypeId) (old:Array Value) (hg:w.heap[g]? = some (.cells old t (0,0))) (hsz:old.size=cs.size)
    (hi:(P.info? ty).map (·.size)=some cs.size) (h1:∀ v∈cs.toList,v.oneCell'=true)
    (h:wpList P ops Q rest (a.put o.dst undef) (w.setRow g cs)):wpList P ops Q (o::rest) a w:=by
  refine wpList_plain hgd fun K hK=>?_
  have hst:=run_storeCells_at P g 0 t cs.toList 0 old w hg (by simp [hsz]) h1
  have e:(old.toList.take 0++cs.toList++old.toList.drop (0+cs.toList.length)).toArray=cs:=by
    rw [List.drop_of_length_le (by simp [hsz])]
    simp
  simp only [Nat.add_zero,Nat.zero_add] at hst e
  rw [e] at hst
  cases hq:P.info? ty with
  | none=>simp [hq] at hi
  | some i =>
    have hs:i.size=cs.size:=by simpa [hq] using hi
    unfold Oper.wp execOp
    simp only [ho,hx,hy,Instr.storeAt,Instr.sureAddr,storeVar,Value.cells,Sem.run_bind,Sem.run_pure,Result.andThen_ok]
    simp [sizeOf,typeInfo,hq,hs,hst]
    exact hK _ _ h
theorem Keeps.setRow{S:Nat→Prop}{a w:World}(h:Keeps S a w){g:Nat}(hp:g<a.heap.size→S g)(cs:Array Value):Keeps S a (w.setRow g cs) :=
  ⟨h.os,h.tape,h.output,Nat.le_trans h.size (by simp),fun k hk hn=>(setRow_other w g k cs (fun e=>by subst e;exact hn (hp hk))).trans (h.block k hk hn)⟩
theorem Row.setRow{w:World}{g:Nat}{e:TypeId}{size:Nat}{xs:List Value}(h:Row w g e size xs)(ys:List Value)(hl:ys.length=size):Row (w.setRow g ys.toArray) g e size ys:=by
  obtain ⟨cur,h1,h2,h3⟩:=h
  refine ⟨ys.toArray,setRow_heap w g cur _ e _ h1,by simpa using hl,by simp⟩
end Go.Proofs.YtjepipbkiadcpaaGreat

/- The walk over an environment, a step a lemma: the items, the regions, the operations. No program in sight. -/
namespace Go.Proofs.YtjepipbkiadcpaaGreat
open Go Go.RowKit Go.Proofs.Tryz
def WT(F:Fence)(n:Nat)(P:Program)(N:Nat)(todo:List Item)(Q:Exit→Act→World→Prop)(E:Env)(ds:List Deferred)(w:World):Prop :=
  ∀ a,Rep N E ds a→WTa F n P todo Q a w
structure Wd(F:Fence):Prop where
  fn:∀ f,F.fn f
  depth:F.depth=none
  calls:∀ n P f args w R,Calls P f args w R→CallsIn F n P f args w R
  rounds:∀ n P l f tmps assign body w R,RoundIn Fence.wide 0 P l f tmps assign body w R→RoundIn F n P l f tmps assign body w R
theorem yaQ:Wd Fence.wide:=⟨fun _=>trivial,rfl,fun _ _ _ _ _ _ h=>callsIn_wide.2 h,fun _ _ _ _ _ _ _ _ _ h=>⟨trivial,fun c cs _=>h.2 c cs (room_wide _)⟩⟩
theorem ybG(l:Nat):Wd (Fence.wide.inRound l):=⟨fun _=>trivial,rfl,fun _ _ _ _ _ _ h=>CallsIn.inRound l (callsIn_wide.2 h),fun _ _ _ _ _ _ _ _ _ h=>⟨trivial,fun c cs _=>h.2 c cs (room_wide _)⟩⟩
section
variable {F : Fence} {n : Nat} {P : Program} {N : Nat} {Q : Exit → Act → World → Prop} {E : Env} {ds : List Deferred} {w : World} {t : List Item}
theorem yaf(h:WT F n P N t Q E ds w):WT F n P N (.code .skip::t) Q E ds w:=fun a r=>WTa.skip (h a r)
theorem yac{x y:Code}(h:WT F n P N (.code x :: .code y::t) Q E ds w):WT F n P N (.code (.seq x y)::t) Q E ds w:=fun a r=>WTa.seq (h a r)
theorem yah{id:Nat}{c:Code}(h:WT F n P N (.code c :: .inBlock id::t) Q E ds w):WT F n P N (.code (.block id c)::t) Q E ds w:=fun a r=>WTa.block (h a r)
theorem yag{id:Nat}(h:WT F n P N t Q E ds w):WT F n P N (.inBlock id::t) Q E ds w:=fun a r=>WTa.inBlock (h a r)
theorem yav{id:Nat}{k':List Item}(he:exitTo id t=some k')(h:WT F n P N k' Q E ds w):WT F n P N (.code (.exit id)::t) Q E ds w:=fun a r=>WTa.exit he (h a r)
theorem wt_cond{c:Operand}{x y:Code}{b:Bool}(hc:evE E c = .bool b)(h:WT F n P N (.code (if b then x else y)::t) Q E ds w):WT F n P N (.code (.cond c x y)::t) Q E ds w :=
  fun a r=>WTa.cond (by rw [r.eval];exact hc) (h a r)
theorem yal{c:Operand}{x y:Code}(hc:evE E c = .bool true)(h:WT F n P N (.code x::t) Q E ds w):WT F n P N (.code (.cond c x y)::t) Q E ds w:=wt_cond hc h
theorem yaq{c:Operand}{x y:Code}(hc:evE E c = .bool false)(h:WT F n P N (.code y::t) Q E ds w):WT F n P N (.code (.cond c x y)::t) Q E ds w:=wt_cond hc h
theorem yer(h:∀ a,Rep N E ds a→Q .normal a w):WT F n P N [] Q E ds w:=fun a r=>WTa.nil (h a r)
theorem yd5(h:∀ a,Rep N E ds a→Q .ret a w):WT F n P N (.code .ret::t) Q E ds w:=fun a r=>WTa.ret (h a r)
theorem yaA{c:Code}(I:Nat→Env→List Deferred→World→Prop)(m:Nat)(h₀:I m E ds w)
    (round:∀ m E ds w,I m E ds w→(∀ m' E' ds' w',I m' E' ds' w'→m'<m→WT F n P N (.inLoop c::t) Q E' ds' w')→WT F n P N (.code c :: .inLoop c::t) Q E ds w):WT F n P N (.code (.loop c)::t) Q E ds w:=by
  intro a r
  have key:∀ j m E ds w,m=j→I m E ds w→∀ a,Rep N E ds a→WTa F n P (.code c :: .inLoop c::t) Q a w:=by
    intro j
    induction j using Nat.strongRecOn with
    | _ j ih =>
      intro m E ds w hj hI a r
      refine round m E ds w hI (fun m' E' ds' w' hI' hlt a' r'=>?_) a r
      intro b k cs hro hb hr
      obtain ⟨e,a2,w2,hq,harr⟩:=ih m' (hj▸hlt) m' E' ds' w' rfl hI' a' r' b k cs hro hb hr
      exact ⟨e,a2,w2,hq, .of_steps (.one (fenced_calm hb hr rfl) stepR_inLoop) harr⟩
  intro b k cs hro hb hr
  obtain ⟨e,a2,w2,hq,harr⟩:=key _ m E ds w rfl h₀ a r b k cs hro hb hr
  exact ⟨e,a2,w2,hq, .of_steps (.one (fenced_calm hb hr rfl) stepR_loop) harr⟩
def RJ(P:Program)(N:Nat)(ops:Array Oper)(st:Nat→List Nat)(Qa:Act→World→Prop)(R:List Nat)(pend:List (Nat×Sem Next×Value))(E:Env)(ds:List Deferred)(w:World):Prop :=
  ∀ a,Rep N E ds a→seqS P ops st Qa R pend a w
def st0:Nat→List Nat:=fun _=>[]
theorem wt_region{id:Nat}{ops:Array Oper}{R:List Nat}(hw:Wd F)(hR:List.range ops.size=R)(h:RJ P N ops st0 (WTa F n P t Q) R [] E ds w):WT F n P N (.code (.region id ops false)::t) Q E ds w:=by
  intro a r
  refine WTa.of (wpIn_region ?_)
  rw [hR]
  exact yeH hw.fn hw.depth (fun f args w R h=>hw.calls _ _ _ _ _ _ h) (fun l f tmps assign body w R h=>hw.rounds _ _ _ _ _ _ _ _ _ h) (fun a w h=>⟨rfl,h⟩) R [] a w (h a r)
theorem wt_draw{id:Nat}{ops:Array Oper}(R:List Nat)(st:Nat→List Nat)(hw:Wd F)(hm:P.follows .mixedOrders=true)(hO:yhU ops st R=true)(h:RJ P N ops st (WTa F n P t Q) R [] E ds w.drew) :
    WT F n P N (.code (.region id ops true)::t) Q E ds w:=by
  intro a r
  simp only [yhU,Bool.and_eq_true,decide_eq_true_eq] at hO
  obtain ⟨⟨⟨h1,h2⟩,h3⟩,h4⟩:=hO
  have h5:∀ i,i<ops.size→i∈R:=fun i hi=>by simpa using List.all_eq_true.1 h2 i (List.mem_range.2 hi)
  have h6:∀ i,i∈R→i<ops.size:=fun i hi=>by
    have:=List.all_eq_true.1 h1 i hi
    rcases Nat.lt_or_ge i ops.size with h | h
    · exact h
    · rw [Array.getElem?_eq_none h] at this;cases this
  refine WTa.of (wpIn_region_any hm ?_)
  refine seqS_any hw.fn hw.depth (fun f args w R h=>hw.calls _ _ _ _ _ _ h) (fun l f tmps assign body w R h=>hw.rounds _ _ _ _ _ _ _ _ _ h) (fun a w h=>⟨rfl,h⟩) (fun j oj hj e he hb=>?_) ops.size R _ [] a _ h3 ((ygo.out h4).imp (fun h=>by simpa using h)) (fun i=>?_) (by simp) (fun j oj hj hl=>?_) (h a r)
  · have:=List.all_eq_true.1 h1 j (h5 j (Array.getElem?_eq_some_iff.1 hj).1)
    rw [hj] at this
    simp only at this
    rw [Array.all_eq_true] at this
    obtain ⟨k,hk,rfl⟩:=Array.getElem_of_mem he
    have h3:=this k hk
    simpa [hb] using h3
  · constructor
    · intro hi;simp [h6 i hi]
    · intro hi
      apply h5
      rcases Nat.lt_or_ge i ops.size with h | h
      · exact h
      · simp [Array.getD_eq_getD_getElem?,h] at hi
  · exfalso
    have:=(Array.getElem?_eq_some_iff.1 hj).1
    simp [Array.getD_eq_getD_getElem?,this] at hl
end
def dstLt(N:Nat)(d:Option Nat):Bool:=match d with | some k=>Nat.blt k N | none=>true
theorem yfN{N:Nat}{d:Option Nat}(h:dstLt N d=true):∀ k,d=some k→k<N:=by
  intro k e
  subst e
  simpa [dstLt] using h
section
variable {P : Program} {N : Nat} {ops : Array Oper} {st : Nat → List Nat} {Qa : Act → World → Prop} {R : List Nat} {pend : List (Nat × Sem Next × Value)} {E : Env} {ds : List Deferred} {w : World} {i : Nat} {o : Oper}
theorem rj_end{F:Fence}{n:Nat}{t:List Item}{Q:Exit→Act→World→Prop}(h:WT F n P N t Q E ds w):RJ P N ops st (WTa F n P t Q) [] pend E ds w:=fun a r=>h a r
theorem rj_q{v:Value}(ho:ops[i]? = some o)(hw:Region.wanted o (yE ops E)=true)(hq:yaE o.op=true)(hd:dstLt N o.dst=true)
    (hv:(execOp (evE E) o).run P w = .ok (.value v) w) (h:RJ P N ops st Qa R ((i,execOp (evE E) o,v)::pend) (updO E o.dst v) ds w):RJ P N ops st Qa (i::R) pend E ds w:=by
  intro a r
  simp only [seqS,ho,r.yielded,hw,hq,if_true,r.eval]
  exact ⟨v,hv,h _ (r.put (yfN hd) v)⟩
theorem rj_p(ho:ops[i]? = some o)(hw:Region.wanted o (yE ops E)=false)(hd:dstLt N o.dst=true)
    (h:RJ P N ops st Qa R pend (updO E o.dst undef) ds w):RJ P N ops st Qa (i::R) pend E ds w:=by
  intro a r
  simp only [seqS,ho,r.yielded,hw,if_false,Bool.false_eq_true]
  exact h _ (r.put (yfN hd) undef)
def Stb(P:Program)(L:List Nat)(w:World):List (Nat×Sem Next×Value)→Prop
  | []=>True
  | (i,s,v)::t=>(L.contains i=true→s.run P w = .ok (.value v) w)∧Stb P L w t
theorem Stb.all{P:Program}{L:List Nat}{w:World} : ∀ {l:List (Nat×Sem Next×Value)},Stb P L w l→∀ p∈l,p.1∈L→p.2.1.run P w = .ok (.value p.2.2) w
  | (_,_,_)::_,h,p,hp,hL=>by
    rcases List.mem_cons.1 hp with rfl | hp
    · exact h.1 (List.contains_iff_mem.2 hL)
    · exact Stb.all h.2 p hp hL
theorem Stb.none{P:Program}{w:World} : ∀ (l:List (Nat×Sem Next×Value)),Stb P [] w l
  | []=>trivial
  | (_,_,_)::t=>⟨fun h=>Bool.noConfusion (show false=true from h),Stb.none t⟩
theorem rj_n(ho:ops[i]? = some o)(hw:Region.wanted o (yE ops E)=true)(hq:yaE o.op=false)(hn:ybm o.op=true)(hd:dstLt N o.dst=true)
    (h:ybd P o (evE E) w fun v w'=>Stb P (st i) w' pend∧RJ P N ops st Qa R pend (updO E o.dst v) ds w'):RJ P N ops st Qa (i::R) pend E ds w:=by
  intro a r
  simp only [seqS,ho,r.yielded,hw,hq,if_true,if_false,Bool.false_eq_true,r.eval]
  refine ⟨hn,h.mono fun v w' h=>⟨h.1.all,h.2 _ (r.put (yfN hd) v)⟩⟩
end
def RL(P:Program)(N:Nat)(ops:Array Oper)(st:Nat→List Nat)(Qa:Act→World→Prop)(i:Nat)(l:List Oper)(pend:List (Nat×Sem Next×Value))(E:Env)(ds:List Deferred)(w:World):Prop :=
  ops.toList.drop i=l→RJ P N ops st Qa (List.range' i l.length) pend E ds w
theorem ygN{ops:Array Oper}{i:Nat}{o:Oper}{l:List Oper}(h:ops.toList.drop i=o::l):ops[i]? = some o∧ops.toList.drop (i+1)=l:=by
  have h1:ops.toList[i]? = some o:=by
    have:=congrArg List.head? h
    rw [List.head?_drop] at this
    simpa using this
  refine ⟨by rw [←Array.getElem?_toList];exact h1,?_⟩
  have:=congrArg List.tail h
  rw [List.tail_drop] at this
  simpa using this
section
variable {P : Program} {N : Nat} {ops : Array Oper} {st : Nat → List Nat} {Qa : Act → World → Prop} {l : List Oper} {pend : List (Nat × Sem Next × Value)} {E : Env} {ds : List Deferred} {w : World} {i : Nat}
theorem yaL{F:Fence}{n:Nat}{t:List Item}{Q:Exit→Act→World→Prop}{id:Nat}(hw:Wd F)(h:RL P N ops st0 (WTa F n P t Q) 0 ops.toList [] E ds w):WT F n P N (.code (.region id ops false)::t) Q E ds w :=
  wt_region hw (R:=List.range' 0 ops.toList.length) (by rw [List.range_eq_range',Array.length_toList]) (h rfl)
theorem yaa{F:Fence}{n:Nat}{t:List Item}{Q:Exit→Act→World→Prop}(h:WT F n P N t Q E ds w):RL P N ops st (WTa F n P t Q) i [] pend E ds w:=fun _=>rj_end h
variable {d : Nat} {dd : Option Nat} {op : Op} {ty : TypeId} {ps : String} {af : Array Edge} {g : Option (Nat × Bool)}
theorem rl_q{v:Value}(hw:Region.wanted ⟨some d,op,ty,ps,af,g⟩ (yE ops E)=true)(hq:yaE op=true)(hd:Nat.blt d N=true)
    (hv:(execOp (evE E) ⟨some d,op,ty,ps,af,g⟩).run P w = .ok (.value v) w) (h:RL P N ops st Qa (i+1) l ((i,execOp (evE E) ⟨some d,op,ty,ps,af,g⟩,v)::pend) (upd E d v) ds w):RL P N ops st Qa i (⟨some d,op,ty,ps,af,g⟩::l) pend E ds w:=by
  intro hl
  obtain ⟨h1,h2⟩:=ygN hl
  exact rj_q h1 hw hq hd hv (h h2)
theorem rl_p(hw:Region.wanted ⟨some d,op,ty,ps,af,g⟩ (yE ops E)=false)(hd:Nat.blt d N=true)(h:RL P N ops st Qa (i+1) l pend (upd E d undef) ds w):RL P N ops st Qa i (⟨some d,op,ty,ps,af,g⟩::l) pend E ds w:=by
  intro hl
  obtain ⟨h1,h2⟩:=ygN hl
  exact rj_p h1 hw hd (h h2)
theorem rl_n(hw:Region.wanted ⟨some d,op,ty,ps,af,g⟩ (yE ops E)=true)(hq:yaE op=false)(hn:ybm op=true)(hd:Nat.blt d N=true)
    (h:ybd P ⟨some d,op,ty,ps,af,g⟩ (evE E) w fun v w'=>Stb P (st i) w' pend∧RL P N ops st Qa (i+1) l pend (upd E d v) ds w'):RL P N ops st Qa i (⟨some d,op,ty,ps,af,g⟩::l) pend E ds w:=by
  intro hl
  obtain ⟨h1,h2⟩:=ygN hl
  exact rj_n h1 hw hq hn hd (h.mono fun v w' h=>⟨h.1,h.2 h2⟩)
theorem rl_n0(hw:Region.wanted ⟨none,op,ty,ps,af,g⟩ (yE ops E)=true)(hq:yaE op=false)(hn:ybm op=true)
    (h:ybd P ⟨none,op,ty,ps,af,g⟩ (evE E) w fun v w'=>Stb P (st i) w' pend∧RL P N ops st Qa (i+1) l pend E ds w'):RL P N ops st Qa i (⟨none,op,ty,ps,af,g⟩::l) pend E ds w:=by
  intro hl
  obtain ⟨h1,h2⟩:=ygN hl
  exact rj_n h1 hw hq hn rfl (h.mono fun v w' h=>⟨h.1,h.2 h2⟩)
end
def RP(P:Program)(N:Nat)(ops:Array Oper)(st:Nat→List Nat)(Qa:Act→World→Prop)(R:List Nat)(l:List Oper)(pend:List (Nat×Sem Next×Value))(E:Env)(ds:List Deferred)(w:World):Prop :=
  R.map (fun i=>ops[i]?)=l.map some→RJ P N ops st Qa R pend E ds w
section
variable {P : Program} {N : Nat} {ops : Array Oper} {st : Nat → List Nat} {Qa : Act → World → Prop} {l : List Oper} {pend : List (Nat × Sem Next × Value)} {E : Env} {ds : List Deferred} {w : World} {i : Nat} {R : List Nat}
theorem ya9{F:Fence}{n:Nat}{t:List Item}{Q:Exit→Act→World→Prop}{id:Nat}(R:List Nat)(st:Nat→List Nat)(hw:Wd F)(hm:P.follows .mixedOrders=true)(hO:yhU ops st R=true)
    (h:RP P N ops st (WTa F n P t Q) R (R.map fun i=>ops.getD i default) [] E ds w.drew):WT F n P N (.code (.region id ops true)::t) Q E ds w :=
  wt_draw R st hw hm hO (h (by
    simp only [yhU,Bool.and_eq_true,decide_eq_true_eq] at hO
    rw [List.map_map]
    refine List.map_congr_left fun i hi=>?_
    have:=List.all_eq_true.1 hO.1.1.1 i hi
    cases hq:ops[i]? with
    | none=>rw [hq] at this;cases this
    | some o=>simp [Array.getD_eq_getD_getElem?,hq]))
theorem ybq{F:Fence}{n:Nat}{t:List Item}{Q:Exit→Act→World→Prop}(h:WT F n P N t Q E ds w):RP P N ops st (WTa F n P t Q) [] [] pend E ds w:=fun _=>rj_end h
variable {d : Nat} {op : Op} {ty : TypeId} {ps : String} {af : Array Edge} {g : Option (Nat × Bool)}
theorem rp_q{v:Value}(hw:Region.wanted ⟨some d,op,ty,ps,af,g⟩ (yE ops E)=true)(hq:yaE op=true)(hd:Nat.blt d N=true)
    (hv:(execOp (evE E) ⟨some d,op,ty,ps,af,g⟩).run P w = .ok (.value v) w) (h:RP P N ops st Qa R l ((i,execOp (evE E) ⟨some d,op,ty,ps,af,g⟩,v)::pend) (upd E d v) ds w):RP P N ops st Qa (i::R) (⟨some d,op,ty,ps,af,g⟩::l) pend E ds w:=by
  intro hl
  simp only [List.map_cons,List.cons.injEq] at hl
  exact rj_q hl.1 hw hq hd hv (h hl.2)
theorem rp_p(hw:Region.wanted ⟨some d,op,ty,ps,af,g⟩ (yE ops E)=false)(hd:Nat.blt d N=true)(h:RP P N ops st Qa R l pend (upd E d undef) ds w):RP P N ops st Qa (i::R) (⟨some d,op,ty,ps,af,g⟩::l) pend E ds w:=by
  intro hl
  simp only [List.map_cons,List.cons.injEq] at hl
  exact rj_p hl.1 hw hd (h hl.2)
theorem rp_n(hw:Region.wanted ⟨some d,op,ty,ps,af,g⟩ (yE ops E)=true)(hq:yaE op=false)(hn:ybm op=true)(hd:Nat.blt d N=true)
    (h:ybd P ⟨some d,op,ty,ps,af,g⟩ (evE E) w fun v w'=>Stb P (st i) w' pend∧RP P N ops st Qa R l pend (upd E d v) ds w'):RP P N ops st Qa (i::R) (⟨some d,op,ty,ps,af,g⟩::l) pend E ds w:=by
  intro hl
  simp only [List.map_cons,List.cons.injEq] at hl
  exact rj_n hl.1 hw hq hn hd (h.mono fun v w' h=>⟨h.1,h.2 hl.2⟩)
theorem ygv(hw:Region.wanted ⟨none,op,ty,ps,af,g⟩ (yE ops E)=true)(hq:yaE op=false)(hn:ybm op=true)
    (h:ybd P ⟨none,op,ty,ps,af,g⟩ (evE E) w fun v w'=>Stb P (st i) w' pend∧RP P N ops st Qa R l pend E ds w'):RP P N ops st Qa (i::R) (⟨none,op,ty,ps,af,g⟩::l) pend E ds w:=by
  intro hl
  simp only [List.map_cons,List.cons.injEq] at hl
  exact rj_n hl.1 hw hq hn rfl (h.mono fun v w' h=>⟨h.1,h.2 hl.2⟩)
end
def In64(a:Int):Prop := -9223372036854775808≤a∧a≤9223372036854775807
theorem In64.wrap{a:Int}(h:In64 a):IntKind.i64.wrap a=a:=IntWalk.i64_in _ h
section
variable {P : Program} {E : Env} {w : World} {d : Option Tmp} {x y z : Operand} {ty xt yt : TypeId} {ps : String} {af : Array Edge} {g : Option (Nat × Bool)}
theorem yad{v:Value}(h:evE E x=v):(execOp (evE E) ⟨d, .move x,ty,ps,af,g⟩).run P w = .ok (.value v) w:=by rw [←h];rfl
theorem yeE{v:Value}(h:evE E x=v):(execOp (evE E) ⟨d, .assign x,ty,ps,af,g⟩).run P w = .ok (.value v) w:=by rw [←h];rfl
theorem yau{v:Value}(hc:evE E x = .bool true)(h:evE E y=v):(execOp (evE E) ⟨d, .pick x y z,ty,ps,af,g⟩).run P w = .ok (.value v) w:=by
  simp [execOp,hc,h,go_sem]
theorem yaw{v:Value}(hc:evE E x = .bool false)(h:evE E z=v):(execOp (evE E) ⟨d, .pick x y z,ty,ps,af,g⟩).run P w = .ok (.value v) w:=by
  simp [execOp,hc,h,go_sem]
theorem ydd{b:Bool}(h:evE E x = .bool b):(execOp (evE E) ⟨d, .unOp .not xt x,ty,ps,af,g⟩).run P w = .ok (.value (.bool !b)) w:=by
  simp [execOp,h,Op.unary,go_sem]
theorem v_neg{a:Int}(h:evE E x = .int .i64 a)(hi:In64 (-a)):(execOp (evE E) ⟨d, .unOp .neg xt x,ty,ps,af,g⟩).run P w = .ok (.value (.int .i64 (-a))) w:=by
  have:=hi.wrap
  simp [execOp,h,Op.unary,Op.intArith,go_sem,Int.zero_sub,this]
theorem ybU{a b:Int}(hx:evE E x = .int .i64 a)(hy:evE E y = .int .i64 b)(hi:In64 (a+b)):(execOp (evE E) ⟨d, .binOp .add xt x y yt,ty,ps,af,g⟩).run P w = .ok (.value (.int .i64 (a+b))) w:=by
  simp [execOp,hx,hy,eqGuard,binOp,Op.intArith,go_sem,hi.wrap]
theorem v_sub{a b:Int}(hx:evE E x = .int .i64 a)(hy:evE E y = .int .i64 b)(hi:In64 (a-b)):(execOp (evE E) ⟨d, .binOp .sub xt x y yt,ty,ps,af,g⟩).run P w = .ok (.value (.int .i64 (a-b))) w:=by
  simp [execOp,hx,hy,eqGuard,binOp,Op.intArith,go_sem,hi.wrap]
theorem v_mul{a b:Int}(hx:evE E x = .int .i64 a)(hy:evE E y = .int .i64 b)(hi:In64 (a*b)):(execOp (evE E) ⟨d, .binOp .mul xt x y yt,ty,ps,af,g⟩).run P w = .ok (.value (.int .i64 (a*b))) w:=by
  simp [execOp,hx,hy,eqGuard,binOp,Op.intArith,go_sem,hi.wrap]
theorem v_quo{a b:Int}(hx:evE E x = .int .i64 a)(hy:evE E y = .int .i64 b)(hb:b≠0)(hi:In64 (a.tdiv b)):(execOp (evE E) ⟨d, .binOp .quo xt x y yt,ty,ps,af,g⟩).run P w = .ok (.value (.int .i64 (a.tdiv b))) w:=by
  simp [execOp,hx,hy,eqGuard,binOp,Op.intDiv,go_sem,hi.wrap,hb]
theorem ydf{k:IntKind}{a b:Int}(hx:evE E x = .int k a)(hy:evE E y = .int k b):(execOp (evE E) ⟨d, .binOp .lss xt x y yt,ty,ps,af,g⟩).run P w = .ok (.value (.bool (decide (a<b)))) w:=by
  simp [execOp,hx,hy,eqGuard,binOp,Op.intCmp,go_sem]
theorem v_leq{k:IntKind}{a b:Int}(hx:evE E x = .int k a)(hy:evE E y = .int k b):(execOp (evE E) ⟨d, .binOp .leq xt x y yt,ty,ps,af,g⟩).run P w = .ok (.value (.bool (decide (a≤b)))) w:=by
  simp [execOp,hx,hy,eqGuard,binOp,Op.intCmp,go_sem]
theorem v_gtr{k:IntKind}{a b:Int}(hx:evE E x = .int k a)(hy:evE E y = .int k b):(execOp (evE E) ⟨d, .binOp .gtr xt x y yt,ty,ps,af,g⟩).run P w = .ok (.value (.bool (decide (b<a)))) w:=by
  simp [execOp,hx,hy,eqGuard,binOp,Op.intCmp,go_sem]
theorem v_geq{k:IntKind}{a b:Int}(hx:evE E x = .int k a)(hy:evE E y = .int k b):(execOp (evE E) ⟨d, .binOp .geq xt x y yt,ty,ps,af,g⟩).run P w = .ok (.value (.bool (decide (b≤a)))) w:=by
  simp [execOp,hx,hy,eqGuard,binOp,Op.intCmp,go_sem]
theorem v_eql{k:IntKind}{a b:Int}(hx:evE E x = .int k a)(hy:evE E y = .int k b):(execOp (evE E) ⟨d, .binOp .eql xt x y yt,ty,ps,af,g⟩).run P w = .ok (.value (.bool (decide (a=b)))) w:=by
  simp [execOp,hx,hy,eqGuard,binOp,Op.intCmp,go_sem]
  rfl
theorem v_neq{k:IntKind}{a b:Int}(hx:evE E x = .int k a)(hy:evE E y = .int k b):(execOp (evE E) ⟨d, .binOp .neq xt x y yt,ty,ps,af,g⟩).run P w = .ok (.value (.bool (!decide (a=b)))) w:=by
  simp [execOp,hx,hy,eqGuard,binOp,Op.intCmp,go_sem]
  rfl
theorem v_shl{k:IntKind}{a b:Int}(hx:evE E x = .int .i64 a)(hy:evE E y = .int k b)(h0:0≤b∧b<64)(hi:In64 (a*2^b.toNat)):(execOp (evE E) ⟨d, .binOp .shl xt x y yt,ty,ps,af,g⟩).run P w = .ok (.value (.int .i64 (a*2^b.toNat))) w:=by
  have h1:¬b<0:=by omega
  have h2:min b.toNat IntKind.i64.bits=b.toNat:=by have:IntKind.i64.bits=64:=rfl;omega
  simp [execOp,hx,hy,eqGuard,binOp,Op.shift,go_sem,h1,h2,hi.wrap]
theorem v_shr{k:IntKind}{a b:Int}(hx:evE E x = .int .i64 a)(hy:evE E y = .int k b)(h0:0≤b∧b<64):(execOp (evE E) ⟨d, .binOp .shr xt x y yt,ty,ps,af,g⟩).run P w = .ok (.value (.int .i64 (a / 2^b.toNat))) w:=by
  have h1:¬b<0:=by omega
  have h2:min b.toNat IntKind.i64.bits=b.toNat:=by have:IntKind.i64.bits=64:=rfl;omega
  simp [execOp,hx,hy,eqGuard,binOp,Op.shift,go_sem,h1,h2]
theorem yhE{s:Option Addr}{l c:Nat}{e:TypeId}(hx:evE E x = .slice s l c)(hu:P.underlying xt=some (.slice e)):(execOp (evE E) ⟨d, .call ⟨.builtin .len,#[x],#[xt]⟩,ty,ps,af,g⟩).run P w = .ok (.value (.int .i64 (l:Int))) w:=by
  simp [execOp,hx,resolve,invoke,builtin,Builtin.len_,go_sem,underlying,hu,goInt]
theorem ybj{a:Addr}(hx:evE E x = .pointer (some a)):(execOp (evE E) ⟨d, .nilCheck x,ty,ps,af,g⟩).run P w = .ok (.value (.pointer (some a))) w:=by
  simp [execOp,hx,go_sem]
theorem v_extract{vs:Array Value}{v:Value}{k:Nat}(hx:evE E x = .tuple vs)(hv:vs[k]? = some v):(execOp (evE E) ⟨d, .extract x k,ty,ps,af,g⟩).run P w = .ok (.value v) w:=by
  simp [execOp,hx,Instr.extract,go_sem,hv]
theorem yfM{fn:Fn}{first captured:Array Operand}{vs us:Array Value}(h1:first.map (evE E)=vs)(h2:captured.map (evE E)=us):(execOp (evE E) ⟨d, .makeFunc fn first captured,ty,ps,af,g⟩).run P w = .ok (.value (.func fn vs us)) w:=by
  simp [execOp,Instr.makeFunc,go_sem,h1,h2]
end
end Go.Proofs.YtjepipbkiadcpaaGreat

/- The walk over an environment: operations on memory, calls, ends of functions. No program in sight. -/
namespace Go.Proofs.YtjepipbkiadcpaaGreat
open Go Go.RowKit Go.Shelf Go.Proofs.Tryz
def Kp(w w':World)(g:Nat):Prop:=g<w.heap.size→w'.heap[g]? = w.heap[g]?
theorem Kp.refl(w:World)(g:Nat):Kp w w g:=fun _=>rfl
theorem Keeps.kp{S:Nat→Prop}{w w':World}(h:Keeps S w w'){g:Nat}(hg:¬S g):Kp w w' g:=fun hl=>h.block g hl hg
theorem Row.kp{w w':World}{g:Nat}{e:TypeId}{size:Nat}{xs:List Value}(h:Row w g e size xs)(k:Kp w w' g):Row w' g e size xs:=h.keep (k h.lt)
structure New(w:World)(g:Nat)(w':World)(cs:Array Value)(e:TypeId):Prop where
  at_:g=w.heap.size
  to_:w'=w.alloc (.cells cs e)
theorem New.row{w w':World}{g:Nat}{cs:Array Value}{e:TypeId}(h:New w g w' cs e):Row w' g e cs.size cs.toList:=by rw [h.at_,h.to_];exact Row.new _ _ _
theorem New.kp{w w':World}{g:Nat}{cs:Array Value}{e:TypeId}(h:New w g w' cs e)(k:Nat):Kp w w' k:=fun hl=>by rw [h.to_];exact Below.heap_alloc _ _ _ hl
theorem New.keeps{w w':World}{g:Nat}{cs:Array Value}{e:TypeId}(h:New w g w' cs e)(S:Nat→Prop):Keeps S w w':=by rw [h.to_];exact (Keeps.refl S w).alloc _
theorem New.size{w w':World}{g:Nat}{cs:Array Value}{e:TypeId}(h:New w g w' cs e):w'.heap.size=g+1:=by rw [h.at_,h.to_];simp
theorem yc2{w:World}{p:Addr}{v:Value}{g:Nat}(h:p.block≠g):Kp w (w.setCell p v) g:=fun _=>Below.heap_setCell w p v g (Ne.symm h)
def Ix(A:Option Addr)(l:Nat)(i:Int):Prop:=A.isSome=true∧0≤i∧i<(l:Int)
def ixA(A:Option Addr)(i:Int)(sz:Nat):Addr:=(A.getD default).add (i.toNat*sz)
def Wr(w:World)(p:Addr):Prop:=(w.cell? p).isSome=true∧w.frozen? p=false
def aggD:TypeDesc→Bool
  | .struct _ | .array _ _=>true
  | _=>false
section
variable {P : Program} {E : Env} {w : World} {d : Option Tmp} {x y z : Operand} {ty xt yt : TypeId} {ps : String} {af : Array Edge} {g : Option (Nat × Bool)}
theorem yfK{t:TypeId}{u:TypeDesc}(hu:P.underlying t=some u)(hn:aggD u=false)(w:World):(isAgg t).run P w = .ok false w:=by
  unfold isAgg underlying program
  simp only [Sem.run_bind,Sem.run,hu,Result.andThen,bind,Sem.bind]
  cases u <;> first | rfl | cases hn
theorem ygM{t:TypeId}{u:TypeDesc}(hu:P.underlying t=some u)(hn:aggD u=true)(w:World):(isAgg t).run P w = .ok true w:=by
  unfold isAgg underlying program
  simp only [Sem.run_bind,Sem.run,hu,Result.andThen,bind,Sem.bind]
  cases u <;> first | rfl | cases hn
theorem ybN{t:TypeId}{z:Option Value}{n b:Nat}(hi:(P.info? t).map (fun i=>(i.zero,i.size,i.bytes))=some (z,n,b))(w:World):(sizeOf t).run P w = .ok n w:=by
  cases hq:P.info? t with
  | none=>rw [hq] at hi;cases hi
  | some i =>
    rw [hq] at hi
    simp only [Option.map_some,Option.some.injEq,Prod.mk.injEq] at hi
    simp [sizeOf,typeInfo,hq,hi.2.1,go_sem]
theorem yh2(a:Addr)(v:Value)(h:w.cell? a=some v):(load a).run P w = .ok v w:=by
  unfold load
  simp only [Sem.run,h]
theorem yam{p:Addr}{u:TypeDesc}{v:Value}(hx:evE E x = .pointer (some p))(hu:P.underlying xt=some u)(hn:aggD u=false)(hc:w.cell? p=some v) :
    (execOp (evE E) ⟨d, .load xt x,ty,ps,af,g⟩).run P w = .ok (.value v) w:=by
  unfold execOp
  simp only [hx,Instr.loadAt,Instr.sureAddr,loadVar,Sem.run_bind,Sem.run_pure,Result.andThen,yfK hu hn,yh2 p v hc,Bool.false_eq_true,if_false]
def Cells(w:World)(p:Addr):Nat→List Value→Prop
  | _,[]=>True
  | i,v::t=>w.cell? (p.add i)=some v∧Cells w p (i+1) t
theorem yfa{p:Addr} : ∀ (vs:List Value) (i:Nat) (acc:Array Value),Cells w p i vs→(loadCellsFrom p i vs.length acc).run P w = .ok (acc++vs.toArray) w
  | [],i,acc,_=>by simp [loadCellsFrom,go_sem]
  | v::vs,i,acc,h=>by
    simp only [List.length_cons,loadCellsFrom,Sem.run_bind,yh2 _ v h.1,Result.andThen]
    rw [yfa vs (i+1) (acc.push v) h.2]
    simp
theorem yao{p:Addr}{u:TypeDesc}{vs:List Value}{zo:Option Value}{b:Nat}(hx:evE E x = .pointer (some p))(hu:P.underlying xt=some u)(hn:aggD u=true)(hi:(P.info? xt).map (fun i=>(i.zero,i.size,i.bytes))=some (zo,vs.length,b))(hc:Cells w p 0 vs) :
    (execOp (evE E) ⟨d, .load xt x,ty,ps,af,g⟩).run P w = .ok (.value (.agg vs.toArray)) w:=by
  unfold execOp
  have:=yfa (P:=P) vs 0 #[] hc
  simp only [hx,Instr.loadAt,Instr.sureAddr,loadVar,Sem.run_bind,Sem.run_pure,Result.andThen,ygM hu hn,if_true,loadCells,ybN hi,this]
  simp
theorem yae{p:Addr}{k:Nat}{fs:Array Field}{f:Field}{zo:Option Value}{n b:Nat}(hx:evE E x = .pointer (some p))(hs:P.underlying xt=some (.struct fs))(hf:fs[k]? = some f)
    (hi:(P.info? f.type).map (fun i=>(i.zero,i.size,i.bytes))=some (zo,n+1,b)):(execOp (evE E) ⟨d, .fieldAddr xt x k,ty,ps,af,g⟩).run P w = .ok (.value (.pointer (some (p.add f.offset)))) w:=by
  unfold execOp
  simp only [hx,Instr.fieldAt,Instr.sureAddr,fieldPlace,Sem.run_bind,Sem.run_pure,Result.andThen,run_underlying hs,hf,ybN hi]
  rfl
theorem ycw{A:Option Addr}{l c:Nat}{e:TypeId}{k:IntKind}{i:Int}{zo:Option Value}{n b:Nat}(hx:evE E x = .slice A l c)(hy:evE E y = .int k i)(hu:P.underlying xt=some (.slice e))
    (hi:(P.info? e).map (fun i=>(i.zero,i.size,i.bytes))=some (zo,n,b)) (h:Ix A l i):(execOp (evE E) ⟨d, .indexAddr xt x y,ty,ps,af,g⟩).run P w = .ok (.value (.pointer (some (ixA A i n)))) w:=by
  obtain ⟨hA,h0,h1⟩:=h
  cases A with
  | none=>cases hA
  | some a =>
    unfold execOp
    have hc:(0≤i∧i<(l:Int))=True:=by simp [h0,h1]
    simp only [hx,hy,Instr.indexAt,asIntOf,Sem.run_bind,Sem.run_pure,Result.andThen,run_underlying hu]
    simp only [hc,if_true,Sem.run_bind,Sem.run_pure,Result.andThen,ybN hi]
    rfl
variable {K : Value → World → Prop}
theorem yfb{p:Addr}{v:Value}{zo:Option Value}{b:Nat}(hx:evE E x = .pointer (some p))(hy:evE E y=v)(h1:v.oneCell'=true)(hi:(P.info? xt).map (fun i=>(i.zero,i.size,i.bytes))=some (zo,1,b))(hw:Wr w p)
    (h:∀ w',w'=w.setCell p v→K undef w'):ybd P ⟨d, .store xt x y,ty,ps,af,g⟩ (evE E) w K:=by
  have hcs:v.cells = #[v]:=by cases v <;> first | rfl | cases h1
  have hadd:p.add 0=p:=rfl
  obtain ⟨u,hu⟩:=Option.isSome_iff_exists.1 hw.1
  have hst:(store p v).run P w = .ok () (w.setCell p v):=by
    rw [run_store P w p v _ h1,hu]
    simp [hw.2]
  unfold ybd execOp
  simp only [hx,hy,Instr.storeAt,Instr.sureAddr,storeVar,Sem.run_bind,Sem.run_pure,Result.andThen,ybN hi,hcs,List.size_toArray,List.length_cons,List.length_nil,ne_eq,Nat.zero_add,not_true_eq_false,if_false,storeCells,hadd,hst]
  exact h _ rfl
theorem ycP{b o:Nat}{cells:Array Value}{n:Nat}(hx:evE E x = .pointer (some ⟨b,o,none⟩))(hy:evE E y = .agg cells){zo:Option Value}{by':Nat}(hi':(P.info? xt).map (fun i=>(i.zero,i.size,i.bytes))=some (zo,n,by'))(hn:cells.size=n)(h1':cells.toList.all (·.oneCell')=true)(ht:w.there b o n)
    (h:∀ w',w'=w.setCells b o cells.toList→K undef w'):ybd P ⟨d, .store xt x y,ty,ps,af,g⟩ (evE E) w K:=by
  have h1:cells.all (·.oneCell')=true:=by rw [←Array.all_toList];exact h1'
  have hi:(P.info? xt).map (·.size)=some n:=by
    cases hq:P.info? xt with
    | none=>rw [hq] at hi';cases hi'
    | some i=>rw [hq] at hi';simp only [Option.map_some,Option.some.injEq,Prod.mk.injEq] at hi' ⊢;exact hi'.2.1
  subst hn
  have:=run_storeAt_mid (P:=P) w b o xt cells ht hi h1
  unfold ybd execOp
  simp only [hx,hy,Sem.run_bind,this,Result.andThen,Sem.run_pure]
  exact h _ rfl
theorem ydB{t:TypeId}{z:Value}{n b:Nat}(hi:(P.info? t).map (fun i=>(i.zero,i.size,i.bytes))=some (some z,n,b))(w:World):(zeroValue t).run P w = .ok z w:=by
  cases hq:P.info? t with
  | none=>rw [hq] at hi;cases hi
  | some i =>
    rw [hq] at hi
    simp only [Option.map_some,Option.some.injEq,Prod.mk.injEq] at hi
    simp [zeroValue,typeInfo,hq,hi.1,go_sem]
theorem ya1{z:Value}{n b:Nat}(hi:(P.info? xt).map (fun i=>(i.zero,i.size,i.bytes))=some (some z,n,b))
    (h:∀ g' w',New w g' w' z.cells xt→K (.pointer (some ⟨g',0,none⟩)) w'):ybd P ⟨d, .alloc xt,ty,ps,af,g⟩ (evE E) w K:=by
  unfold ybd execOp
  simp only [Instr.alloc,newVar,newRow,newObj,Sem.run_bind,Sem.run_pure,Result.andThen,ydB hi,Sem.run]
  exact h _ _ ⟨rfl,rfl⟩
theorem ybi{v:Value}(hx:evE E x=v)(h:∀ g' w',New w g' w' v.cells xt→K (.pointer (some ⟨g',0,none⟩)) w'):ybd P ⟨d, .box xt x,ty,ps,af,g⟩ (evE E) w K:=by
  unfold ybd execOp
  simp only [hx,Instr.box,newVar,newRow,newObj,Sem.run_bind,Sem.run_pure,Result.andThen,Sem.run]
  exact h _ _ ⟨rfl,rfl⟩
theorem ydg{e:TypeId}{z:Value}{b:Nat}{n:Int}(hx:evE E x = .int .i64 n)(hy:evE E y = .int .i64 n)(hu:P.underlying xt=some (.slice e))(hi:(P.info? e).map (fun i=>(i.zero,i.size,i.bytes))=some (some z,1,b))(hb:b≤64)(hz:z.cells = #[z])
    (hn:0≤n∧n≤1000000) (h:∀ g' w',New w g' w' (Array.replicate n.toNat z) e→K (.slice (some ⟨g',0,none⟩) n.toNat n.toNat) w'):ybd P ⟨d, .makeSlice xt x y,ty,ps,af,g⟩ (evE E) w K:=by
  obtain ⟨i0,hi0,hz0,hz1,hz2⟩:=info_parts hi
  obtain ⟨k,rfl⟩:∃ k:Nat,n=(k:Int):=⟨n.toNat,by omega⟩
  have:=yfD (P:=P) xt e i0 z hu hi0 hz0 hz1 (by omega) hz k (by omega) w
  unfold ybd execOp
  simp only [hx,hy,Sem.run_bind,this,Result.andThen,Sem.run_pure]
  exact h _ _ ⟨rfl,rfl⟩
theorem ydv{f:FuncId}{args:Array Operand}{ats:Array TypeId}{vs us:Array Value}{fo:Operand}(hf:evE E fo = .func (.func f) #[] us)(ha:args.map (evE E)=vs)(he:Enters P f)
    (h:Calls P f (vs++us) w fun e w''=>∃ v,e = .returned v∧K v w''):ybd P ⟨d, .call ⟨.value fo,args,ats⟩,ty,ps,af,g⟩ (evE E) w K:=by
  unfold ybd execOp
  simp only [resolve,hf,ha,Deferred.ofValue,Sem.run_bind,Sem.run_pure,Result.andThen,invoke,Array.empty_append,he (vs++us) w]
  exact h
def OwnS(w:World)(B:Nat)(e:TypeId)(sz:Nat)(A:Option Addr)(l c:Nat)(xs:List Value):Prop :=
  xs.length=l*sz∧((A=none∧l=0∧c=0)∨∃ g o cur,A=some ⟨g,o,none⟩∧B≤g∧w.heap[g]? = some (.cells cur e (0,0))∧l≤c∧c≤maxLen∧o+c*sz≤cur.size∧(cur.toList.drop o).take (l*sz)=xs)
theorem OwnS.nil(w:World)(B:Nat)(e:TypeId)(sz:Nat):OwnS w B e sz none 0 0 []:=⟨by simp, .inl ⟨rfl,rfl,rfl⟩⟩
theorem yhq(B:Nat)(t ty e:TypeId)(i:TypeInfo)(z:Value)(sz bytes:Nat)(ht:P.underlying t=some (.slice e))(hi:P.info? e=some i)(hz:i.zero=some z)
    (hsize:i.size=sz) (hby:i.bytes=bytes) (hzs:z.cells.size=sz) (hsz:0<sz)
    (A:Option Addr) (l cp:Nat) (xs:List Value) (hown:OwnS w B e sz A l cp xs)
    (a:Addr) (m c:Nat) (news:List Value) (hl:news.length=m*sz) (hnews:∀ j u,news[j]? = some u→w.cell? (a.add j)=some u) (h1:∀ u∈news,u.oneCell'=true)
    (h63:l+m≤maxLen) (hbytes:(l+m)*bytes≤140737488355328) (hbase:B≤w.heap.size) :
    ∃ A' c' w',(Builtin.append_ #[t,t] ty #[.slice A l cp, .slice (some a) m c]).run P w = .ok (.slice A' (l+m) c') w'∧OwnS w' B e sz A' (l+m) c' (xs++news)∧w.grownBy w' (A.map (·.block))∧(A'.map (·.block)=A.map (·.block)∨A'.map (·.block)=some w.heap.size):=by
  subst hsize
  subst hby
  have hlen:(xs++news).length=(l+m)*i.size:=by rw [List.length_append,hown.1,hl,Nat.add_mul]
  have grown:∀ (old:Nat),old<l+m→∀ (row:Option Nat),
      OwnS (w.drew.alloc (.cells (xs.toArray++news.toArray++Builtin.zeroCells z.cells (grownCap w (l+m) old e-(l+m))) e)) B e i.size (some ⟨w.heap.size,0,none⟩) (l+m) (grownCap w (l+m) old e) (xs++news) ∧
      w.grownBy (w.drew.alloc (.cells (xs.toArray++news.toArray++Builtin.zeroCells z.cells (grownCap w (l+m) old e-(l+m))) e)) row:=by
    intro old ho row
    have hge:=grownCap_ge w (l+m) old e
    have hcm:grownCap w (l+m) old e≤maxLen:=grownCap_le_maxLen w (l+m) old e h63
    refine ⟨⟨hlen, .inr ⟨w.heap.size,0,_,rfl,hbase,heap_alloc_new w.drew _,hge,hcm,?_,?_⟩⟩,⟨rfl,rfl,rfl,by simp,fun k hk _=>heap_alloc_old w.drew _ k hk⟩⟩
    · simp only [Array.size_append,List.size_toArray,size_zeroCells,hzs,hown.1,hl,←Nat.add_mul]
      rw [Nat.zero_add]
      exact Nat.le_of_eq (by congr 1;omega)
    · simp only [Array.toList_append,List.append_assoc,List.drop_zero]
      rw [←List.append_assoc,←hlen]
      exact List.take_left
  rcases hown.2 with ⟨rfl,rfl,rfl⟩ | ⟨g,o,cur,rfl,hbg,hg,hnc,hcm,hcs,htake⟩
  · have hx:xs=[]:=List.eq_nil_of_length_eq_zero (by simpa using hown.1)
    subst hx
    by_cases hm:m=0
    · subst hm
      have hn:news=[]:=List.eq_nil_of_length_eq_zero (by simpa using hl)
      subst hn
      refine ⟨none,0,w,?_,OwnS.nil w B e i.size,⟨rfl,rfl,rfl,Nat.le_refl _,fun _ _ _=>rfl⟩, .inl rfl⟩
      simp [Builtin.append_,run_underlying ht,sizeOf,typeInfo,hi,Builtin.lenOf,Builtin.firstCells,loadCells,loadCellsFrom]
    · have hr:=run_append_nil (P:=P) w t ty e i z ht hi hz a m c news hl hnews (by omega) (by simp only [maxLen] at h63;omega) (by have hb:=hbytes;simp only [Nat.zero_add] at hb;omega)
      have hgr:=grown 0 (by omega) none
      simp only [Nat.zero_add,List.nil_append,Array.empty_append] at hgr ⊢
      exact ⟨_,_,_,hr,hgr.1,hgr.2, .inr rfl⟩
  · by_cases hroom:l+m≤cp
    · have hfit:o+l*i.size+news.length≤cur.size:=by
        have:=Nat.mul_le_mul_right i.size hroom
        rw [Nat.add_mul] at this
        omega
      have hf:=run_firstCells_some (P:=P) w i.size m a m c news hl hnews
      have hst:=run_storeCells_at P g (o+l*i.size) e news 0 cur w hg (by simpa using hfit) h1
      simp only [Nat.add_zero] at hst
      have hadd:(⟨g,o,none⟩:Addr).add (l*i.size)=⟨g,o+l*i.size,none⟩:=Addr.add_mid _ _ _
      refine ⟨some ⟨g,o,none⟩,cp,w.setRow g (cur.toList.take (o+l*i.size)++news++cur.toList.drop (o+l*i.size+news.length)).toArray,?_,⟨hlen, .inr ⟨g,o,_,rfl,hbg,setRow_heap w g cur _ e _ hg,hroom,hcm,?_,?_⟩⟩,⟨rfl,rfl,rfl,by simp,fun k _ hk=>setRow_other w g k _ (fun e=>hk (by simp [e]))⟩, .inl rfl⟩
      · simp [Builtin.append_,run_underlying ht,sizeOf,typeInfo,hi,Builtin.lenOf,hroom,hf,hadd,hst]
      · simp only [List.size_toArray,List.length_append,List.length_take,List.length_drop,Array.length_toList]
        omega
      · have h2:(cur.toList.take (o+l*i.size)++news++cur.toList.drop (o+l*i.size+news.length)).drop o=xs++news++cur.toList.drop (o+l*i.size+news.length):=by
          rw [List.append_assoc,List.drop_append_of_le_length (by simp;omega),List.drop_take,Nat.add_sub_cancel_left,htake,List.append_assoc]
        rw [List.toList_toArray,h2,←hlen]
        exact List.take_left
    · have hxl:xs.length=l*i.size:=hown.1
      have holds:∀ j u,xs[j]? = some u→w.cell? ((⟨g,o,none⟩:Addr).add j)=some u:=by
        intro j u hj
        rw [Addr.add_mid]
        have hjl:j<l*i.size:=by
          rcases Nat.lt_or_ge j xs.length with h | h
          · omega
          · rw [List.getElem?_eq_none h] at hj;cases hj
        rw [←htake,List.getElem?_take,if_pos hjl,List.getElem?_drop] at hj
        rw [cell_of_row w g (o+j) cur e (0,0) hg]
        simpa using hj
      have hr:=run_append_grow (P:=P) w t ty e i z ht hi hz ⟨g,o,none⟩ l cp xs hown.1 holds a m c news hl hnews (by omega) (by simp only [maxLen] at h63;omega) (growslice_fits (by omega) hbytes)
      have hgr:=grown cp (by omega) (some g)
      exact ⟨_,_,_,hr,hgr.1,hgr.2, .inr rfl⟩
theorem n_append{e:TypeId}{z:Value}{n b:Nat}{A C:Option Addr}{l c m c':Nat}(hx:evE E x = .slice A l c)(hy:evE E y = .slice C m c')(hu:P.underlying xt=some (.slice e))(hi:(P.info? e).map (fun i=>(i.zero,i.size,i.bytes))=some (some z,n+1,b))(hz:z.cells.size=n+1)
    (h:∃ (B:Nat) (xs news:List Value) (a:Addr),OwnS w B e (n+1) A l c xs∧C=some a∧news.length=m*(n+1)∧(∀ j u,news[j]? = some u→w.cell? (a.add j)=some u)∧(∀ u∈news,u.oneCell'=true)∧l+m≤maxLen∧(l+m)*b≤140737488355328∧B≤w.heap.size ∧
      ∀ A' c' w',OwnS w' B e (n+1) A' (l+m) c' (xs++news)→w.grownBy w' (A.map (·.block))→(A'.map (·.block)=A.map (·.block)∨A'.map (·.block)=some w.heap.size)→K (.slice A' (l+m) c') w'):ybd P ⟨d, .call ⟨.builtin .append,#[x,y],#[xt,xt]⟩,ty,ps,af,g⟩ (evE E) w K:=by
  obtain ⟨B,xs,news,a,hown,hC,hl,hnews,h1,h63,hby,hB,hK⟩:=h
  subst hC
  obtain ⟨i0,hi0,hz0,hz1,hz2⟩:=info_parts hi
  obtain ⟨A',c'',w',hr,ho,hg,hbk⟩:=yhq (P:=P) (w:=w) B xt ty e i0 z (n+1) b hu hi0 hz0 hz1 hz2 hz (by omega) A l c xs hown a m c' news hl hnews h1 h63 hby hB
  unfold ybd execOp
  simp only [resolve,hx,hy,List.map_toArray,List.map_cons,List.map_nil,Sem.run_bind,Sem.run_pure,Result.andThen,invoke,builtin,hr]
  exact hK _ _ _ ho hg hbk
theorem n_append2{yt:TypeId}{e:TypeId}{z:Value}{n b:Nat}{A C:Option Addr}{l c m c':Nat}(hx:evE E x = .slice A l c)(hy:evE E y = .slice C m c')(hu:P.underlying xt=some (.slice e))(hu2:P.underlying yt=some (.slice e))(hi:(P.info? e).map (fun i=>(i.zero,i.size,i.bytes))=some (some z,n+1,b))(hz:z.cells.size=n+1)
    (h:∃ (B:Nat) (xs news:List Value) (a:Addr),OwnS w B e (n+1) A l c xs∧C=some a∧news.length=m*(n+1)∧(∀ j u,news[j]? = some u→w.cell? (a.add j)=some u)∧(∀ u∈news,u.oneCell'=true)∧l+m≤maxLen∧(l+m)*b≤140737488355328∧B≤w.heap.size ∧
      ∀ A' c' w',OwnS w' B e (n+1) A' (l+m) c' (xs++news)→w.grownBy w' (A.map (·.block))→(A'.map (·.block)=A.map (·.block)∨A'.map (·.block)=some w.heap.size)→K (.slice A' (l+m) c') w'):ybd P ⟨d, .call ⟨.builtin .append,#[x,y],#[xt,yt]⟩,ty,ps,af,g⟩ (evE E) w K:=by
  obtain ⟨B,xs,news,a,hown,hC,hl,hnews,h1,h63,hby,hB,hK⟩:=h
  subst hC
  obtain ⟨i0,hi0,hz0,hz1,hz2⟩:=info_parts hi
  obtain ⟨A',c'',w',hr,ho,hg,hbk⟩:=yhq (P:=P) (w:=w) B xt ty e i0 z (n+1) b hu hi0 hz0 hz1 hz2 hz (by omega) A l c xs hown a m c' news hl hnews h1 h63 hby hB
  have hr2:(Builtin.append_ #[xt,yt] ty #[.slice A l c, .slice (some a) m c']).run P w = .ok (.slice A' (l+m) c'') w':=by
    rw [←hr]
    simp only [Builtin.append_,List.getElem?_toArray,List.getElem?_cons_zero,List.getElem?_cons_succ,Sem.run_bind,run_underlying hu,run_underlying hu2,Result.andThen]
  unfold ybd execOp
  simp only [resolve,hx,hy,List.map_toArray,List.map_cons,List.map_nil,Sem.run_bind,Sem.run_pure,Result.andThen,invoke,builtin,hr2]
  exact hK _ _ _ ho hg hbk
end
def lenv:List Value→Env
  | [],_=>undef
  | v::_,0=>v
  | _::t,k+1=>lenv t k
theorem lenv_eq(l:List Value)(m:Nat):∀ t,(l.toArray++Array.replicate m undef).getD t undef=lenv l t:=by
  intro t
  rw [Array.getD_eq_getD_getElem?]
  induction l generalizing t with
  | nil=>simp [lenv,Array.getElem?_replicate];split <;> rfl
  | cons v l ih =>
    cases t with
    | zero=>rw [←Array.getD_eq_getD_getElem?];simp [lenv,Array.getD_eq_getD_getElem?,Array.getElem?_append]
    | succ t =>
      rw [lenv,←ih t]
      simp [Array.getElem?_append]
theorem yak{P:Program}{f:FuncId}{fn:Func}{c:Code}{l:List Value}{w:World}{R:Ending→World→Prop}{N:Nat}(hf:P.funcs[f]? = some fn)(hb:fn.body=some c)(hN:fn.ntmps=N)(hl:l.length≤N)
    (h:WT Fence.wide 0 P N [.code c] (bodyPost P fn R) (lenv l) [] w):Calls P f l.toArray w R:=by
  refine (callsIn_wide (n:=0)).1 (callsIn_of_wp hf hb trivial (WTa.code (h _ ⟨?_,lenv_eq l _,rfl⟩)) rfl)
  simp
  omega
section
variable {P : Program} {fn : Func} {F : Fence} {n : Nat} {N : Nat} {t : List Item} {R : Ending → World → Prop} {E : Env} {w : World}
theorem yiz(hr:fn.results = #[])(h:R (.returned (.tuple #[])) w):WT F n P N (.code .ret::t) (bodyPost P fn R) E [] w :=
  yd5 fun a r=>⟨r.defers,_,results_none hr _ _ _,h⟩
theorem yai{t1:Tmp}{v1:Value}(hr:fn.results = #[.tmp t1])(h1:E t1=v1)(h:R (.returned v1) w):WT F n P N (.code .ret::t) (bodyPost P fn R) E [] w :=
  yd5 fun a r=>⟨r.defers,_,results_tmp hr _ _ _,by rw [r.get,h1];exact h⟩
theorem yaZ{t1 t2:Tmp}{v1 v2:Value}(hr:fn.results = #[.tmp t1, .tmp t2])(h1:E t1=v1)(h2:E t2=v2)(h:R (.returned (.tuple #[v1,v2])) w):WT F n P N (.code .ret::t) (bodyPost P fn R) E [] w :=
  yd5 fun a r=>⟨r.defers,_,results_tmp2 hr _ _ _,by rw [r.get,r.get,h1,h2];exact h⟩
theorem yhm{t1 t2 t3:Tmp}{v1 v2 v3:Value}(hr:fn.results = #[.tmp t1, .tmp t2, .tmp t3])(h1:E t1=v1)(h2:E t2=v2)(h3:E t3=v3)(h:R (.returned (.tuple #[v1,v2,v3])) w):WT F n P N (.code .ret::t) (bodyPost P fn R) E [] w :=
  yd5 fun a r=>⟨r.defers,_,results_tmp3 hr _ _ _,by rw [r.get,r.get,r.get,h1,h2,h3];exact h⟩
theorem ydJ(hr:fn.results = #[])(h:R (.returned (.tuple #[])) w):WT F n P N [] (bodyPost P fn R) E [] w :=
  yer fun a r=>⟨r.defers,_,results_none hr _ _ _,h⟩
end
theorem yar{ops:Array Oper}{E:Env}{o:Oper}{j:Nat}{b:Bool}(hg:o.guard=some (j,b))(h:yE ops E j=some b):Region.wanted o (yE ops E)=true:=by
  unfold Region.wanted;rw [hg];simp [h]
theorem yax{ops:Array Oper}{E:Env}{o:Oper}{j:Nat}{b b':Bool}(hg:o.guard=some (j,b))(h:yE ops E j=some b')(hne:(b'==b)=false):Region.wanted o (yE ops E)=false:=by
  unfold Region.wanted;rw [hg];simp [h];simpa using hne
theorem wanted_u{ops:Array Oper}{E:Env}{o:Oper}{j:Nat}{b:Bool}(hg:o.guard=some (j,b))(h:yE ops E j=none):Region.wanted o (yE ops E)=false:=by
  unfold Region.wanted;rw [hg];simp [h]
theorem yaD{ops:Array Oper}{E:Env}{j d:Nat}{b:Bool}(h:(ops[j]?).bind (·.dst)=some d)(hE:E d = .bool b):yE ops E j=some b:=by
  unfold yE;rw [h];simp only [hE]
theorem n_callx{P:Program}{E:Env}{w:World}{d:Option Tmp}{ty:TypeId}{ps:String}{af:Array Edge}{g:Option (Nat×Bool)}{K:Value→World→Prop}{f:FuncId}{args:Array Operand}{ats:Array TypeId}{vs us fs:Array Value}{all:List Value}{fo:Operand}(hf:evE E fo = .func (.func f) fs us)(ha:args.map (evE E)=vs)(he:Enters P f)
    (hall:fs.toList++vs.toList++us.toList=all) (h:Calls P f all.toArray w fun e w''=>∃ v,e = .returned v∧K v w''):ybd P ⟨d, .call ⟨.value fo,args,ats⟩,ty,ps,af,g⟩ (evE E) w K:=by
  have hq:fs++vs++us=all.toArray:=by rw [←hall];simp
  unfold ybd execOp
  simp only [resolve,hf,ha,Deferred.ofValue,Sem.run_bind,Sem.run_pure,Result.andThen,invoke,he (fs++vs++us) w]
  rw [hq];exact h
theorem yaj{P:Program}{E:Env}{w:World}{d:Option Tmp}{ty:TypeId}{ps:String}{af:Array Edge}{g:Option (Nat×Bool)}{K:Value→World→Prop}{f:FuncId}{args:Array Operand}{ats:Array TypeId}{vs:Array Value}{fo:Operand}(hf:evE E fo = .func (.func f) #[] #[])(ha:args.map (evE E)=vs)(he:Enters P f)
    (h:Calls P f vs w fun e w''=>∃ v,e = .returned v∧K v w''):ybd P ⟨d, .call ⟨.value fo,args,ats⟩,ty,ps,af,g⟩ (evE E) w K :=
  ydv hf ha he (by rw [Array.append_empty];exact h)
section
variable {E : Env} {x1 x2 x3 x4 x5 x6 : Operand} {v1 v2 v3 v4 v5 v6 : Value}
theorem am0:(#[]:Array Operand).map (evE E) = #[]:=by simp
theorem am1(h1:evE E x1=v1) : #[x1].map (evE E) = #[v1]:=by simp [h1]
theorem am2(h1:evE E x1=v1)(h2:evE E x2=v2) : #[x1,x2].map (evE E) = #[v1,v2]:=by simp [h1,h2]
theorem am3(h1:evE E x1=v1)(h2:evE E x2=v2)(h3:evE E x3=v3) : #[x1,x2,x3].map (evE E) = #[v1,v2,v3]:=by simp [h1,h2,h3]
theorem am5(h1:evE E x1=v1)(h2:evE E x2=v2)(h3:evE E x3=v3)(h4:evE E x4=v4)(h5:evE E x5=v5) : #[x1,x2,x3,x4,x5].map (evE E) = #[v1,v2,v3,v4,v5]:=by simp [h1,h2,h3,h4,h5]
theorem bp0:(#[]:Array (Nat×Operand)).map (fun (i,x)=>(i,evE E x)) = #[]:=by simp
theorem bp1{i1:Nat}(h1:evE E x1=v1) : #[(i1,x1)].map (fun (i,x)=>(i,evE E x)) = #[(i1,v1)]:=by simp [h1]
theorem bp2{i1 i2:Nat}(h1:evE E x1=v1)(h2:evE E x2=v2) : #[(i1,x1),(i2,x2)].map (fun (i,x)=>(i,evE E x)) = #[(i1,v1),(i2,v2)]:=by simp [h1,h2]
theorem bp3{i1 i2 i3:Nat}(h1:evE E x1=v1)(h2:evE E x2=v2)(h3:evE E x3=v3) : #[(i1,x1),(i2,x2),(i3,x3)].map (fun (i,x)=>(i,evE E x)) = #[(i1,v1),(i2,v2),(i3,v3)]:=by simp [h1,h2,h3]
theorem bp4{i1 i2 i3 i4:Nat}(h1:evE E x1=v1)(h2:evE E x2=v2)(h3:evE E x3=v3)(h4:evE E x4=v4) : #[(i1,x1),(i2,x2),(i3,x3),(i4,x4)].map (fun (i,x)=>(i,evE E x)) = #[(i1,v1),(i2,v2),(i3,v3),(i4,v4)]:=by simp [h1,h2,h3,h4]
end
theorem row_set{w w':World}{g:Nat}{e:TypeId}{size:Nat}{xs:List Value}(h:Row w g e size xs)(i:Nat)(v:Value)(e1:w'=w.setCell ((⟨g,0,none⟩:Addr).add i) v):Row w' g e size (xs.set i v):=by
  have:(⟨g,0,none⟩:Addr).add i=⟨g,i,none⟩:=by rw [Addr.add_mid,Nat.zero_add]
  rw [e1,this];exact h.set_ i v
theorem wr_row{w:World}{g:Nat}{e:TypeId}{size:Nat}{xs:List Value}(h:Row w g e size xs){i:Nat}{v:Value}(hv:xs[i]? = some v):Wr w ((⟨g,0,none⟩:Addr).add i):=by
  have:(⟨g,0,none⟩:Addr).add i=⟨g,i,none⟩:=by rw [Addr.add_mid,Nat.zero_add]
  rw [this];exact ⟨by rw [h.cell hv];rfl,h.frozen i⟩
def setL:List Value→Nat→List Value→List Value
  | xs,_,[]=>xs
  | xs,o,v::vs=>setL (xs.set o v) (o+1) vs
theorem yhX{g:Nat}{e:TypeId}{size:Nat} : ∀ (vs:List Value) (o:Nat) {w:World} {xs:List Value},Row w g e size xs→Row (w.setCells g o vs) g e size (setL xs o vs)
  | [],_,_,_,h=>h
  | v::vs,o,_,_,h=>yhX vs (o+1) (h.set_ o v)
theorem ybQ{w:World}{g:Nat}{e:TypeId}{size:Nat}{xs:List Value}(h:Row w g e size xs){o n:Nat}(hn:o+n≤xs.length):w.there g o n:=fun j hj=>by
  have hlt:o+j<xs.length:=by omega
  exact ⟨by rw [h.cell (List.getElem?_eq_getElem hlt)];rfl,h.frozen _⟩
def mxF(a b:Int):Int:=if b>a then b else a
def mnF(a b:Int):Int:=if b<a then b else a
def mxF4(a b c d:Int):Int:=mxF (mxF (mxF a b) c) d
theorem mxF_eq(a b:Int):mxF a b=max a b:=by unfold mxF;omega
theorem mnF_eq(a b:Int):mnF a b=min a b:=by unfold mnF;omega
section
variable {P : Program} {E : Env} {w : World} {d : Option Tmp} {x y z u : Operand} {ty xt yt : TypeId} {ps : String} {af : Array Edge} {g : Option (Nat × Bool)} {ats : Array TypeId}
theorem v_max2{k:IntKind}{a b:Int}(hx:evE E x = .int k a)(hy:evE E y = .int k b):(execOp (evE E) ⟨d, .call ⟨.builtin .max,#[x,y],ats⟩,ty,ps,af,g⟩).run P w = .ok (.value (.int k (mxF a b))) w:=by
  simp [execOp,hx,hy,resolve,invoke,builtin,Builtin.max_,Builtin.max2,mxF,go_sem]
theorem v_min2{k:IntKind}{a b:Int}(hx:evE E x = .int k a)(hy:evE E y = .int k b):(execOp (evE E) ⟨d, .call ⟨.builtin .min,#[x,y],ats⟩,ty,ps,af,g⟩).run P w = .ok (.value (.int k (mnF a b))) w:=by
  simp [execOp,hx,hy,resolve,invoke,builtin,Builtin.min_,Builtin.min2,mnF,go_sem]
theorem v_max4{k:IntKind}{a b c e:Int}(hx:evE E x = .int k a)(hy:evE E y = .int k b)(hz:evE E z = .int k c)(hu:evE E u = .int k e):(execOp (evE E) ⟨d, .call ⟨.builtin .max,#[x,y,z,u],ats⟩,ty,ps,af,g⟩).run P w = .ok (.value (.int k (mxF4 a b c e))) w:=by
  simp [execOp,hx,hy,hz,hu,resolve,invoke,builtin,Builtin.max_,Builtin.max2,mxF4,mxF,go_sem]
theorem v_conv{k k':IntKind}{a:Int}(hx:evE E x = .int k a)(h1:P.underlying xt=some (.int k'))(h2:P.underlying yt=some (.int .i64))(hi:In64 a):(execOp (evE E) ⟨d, .convert xt yt x,ty,ps,af,g⟩).run P w = .ok (.value (.int .i64 a)) w:=by
  unfold execOp
  simp only [hx,Sem.run_bind,convert,run_underlying h1,run_underlying h2,Result.andThen,Conv.intToInt,Sem.run_pure,hi.wrap]
theorem v_seql{A:Option Addr}{l c l2 c2:Nat}{e:TypeId}(hx:evE E x = .slice A l c)(hy:evE E y = .slice none l2 c2)(hu:P.underlying xt=some (.slice e)):(execOp (evE E) ⟨d, .binOp .eql xt x y yt,ty,ps,af,g⟩).run P w = .ok (.value (.bool A.isNone)) w:=by
  have h2:binOp .eql xt (.slice A l c) (.slice none l2 c2)=(do pure (.bool (←Op.equal xt (.slice A l c) (.slice none l2 c2)))):=rfl
  have h3:eqGuard .eql xt x y (.slice A l c) (.slice none l2 c2)=pure ():=rfl
  have h4:(Op.equal xt (.slice A l c) (.slice none l2 c2)).run P w = .ok A.isNone w:=by
    unfold Op.equal Op.maxDepth
    rw [show (10000:Nat)=9999+1 from rfl,Op.equalIn]
    simp only [Sem.run_bind,run_underlying hu,Result.andThen]
    cases A <;> rfl
  unfold execOp
  simp only [hx,hy,h2,h3,h4,Sem.run_bind,Sem.run_pure,Result.andThen]
theorem ycz{p:Addr}{l:Nat}{e:TypeId}{k:IntKind}{i:Int}{zo:Option Value}{n b:Nat}(hx:evE E x = .pointer (some p))(hy:evE E y = .int k i)(hu:P.underlying xt=some (.array l e))
    (hi:(P.info? e).map (fun i=>(i.zero,i.size,i.bytes))=some (zo,n,b)) (h:0≤i∧i<(l:Int)):(execOp (evE E) ⟨d, .indexAddr xt x y,ty,ps,af,g⟩).run P w = .ok (.value (.pointer (some (p.add (i.toNat*n))))) w:=by
  unfold execOp
  have hc:(0≤i∧i<(l:Int))=True:=by simp [h]
  simp only [hx,hy,Instr.indexAt,asIntOf,Instr.sureAddr,Sem.run_bind,Sem.run_pure,Result.andThen,run_underlying hu]
  simp only [hc,if_true,Sem.run_bind,Sem.run_pure,Result.andThen,ybN hi]
def slA(A:Option Addr)(c lo sz:Nat):Option Addr:=if c=lo then A else A.map (·.add (lo*sz))
theorem yeS{k:IntKind}{i:Int}{y:Nat}{cd:BoundsCode}(h:0≤i∧i≤(y:Int)):(Instr.sliceBound (.int k i) y cd).run P w = .ok i.toNat w:=by
  have hc:(0≤i∧i≤(y:Int))=True:=by simp [h]
  unfold Instr.sliceBound
  simp only [asIntOf,Sem.run_bind,Sem.run_pure,Result.andThen,hc,if_true]
theorem yh8{A:Option Addr}{l c:Nat}{e:TypeId}{k:IntKind}{i:Int}{zo:Option Value}{n b:Nat}(hx:evE E x = .slice A l c)(hy:evE E y = .int k i)(hu:P.underlying xt=some (.slice e))(hi:(P.info? e).map (fun i=>(i.zero,i.size,i.bytes))=some (zo,n,b))
    (h:0≤i∧i≤(l:Int)):(execOp (evE E) ⟨d, .slice xt x (some y) none none,ty,ps,af,g⟩).run P w = .ok (.value (.slice (slA A c i.toNat n) (l-i.toNat) (c-i.toNat))) w:=by
  unfold execOp
  simp only [hx,hy,Option.map_some,Option.map_none,Instr.sliceAt,Instr.slice,Instr.sliceBounds,Sem.run_bind,Sem.run_pure,Result.andThen,run_underlying hu,ybN hi,yeS h,Option.isSome_none,slA]
theorem v_slice_h{A:Option Addr}{l c:Nat}{e:TypeId}{k:IntKind}{i:Int}{zo:Option Value}{n b:Nat}(hx:evE E x = .slice A l c)(hy:evE E y = .int k i)(hu:P.underlying xt=some (.slice e))(hi:(P.info? e).map (fun i=>(i.zero,i.size,i.bytes))=some (zo,n,b))
    (h:0≤i∧i≤(c:Int)):(execOp (evE E) ⟨d, .slice xt x none (some y) none,ty,ps,af,g⟩).run P w = .ok (.value (.slice A i.toNat c)) w:=by
  have h0:(if c=0 then A else A.map (·.add (0*n)))=A:=by
    split
    · rfl
    · cases A with
      | none=>rfl
      | some a=>simp [Addr.add]
  unfold execOp
  simp only [hx,hy,Option.map_some,Option.map_none,Instr.sliceAt,Instr.slice,Instr.sliceBounds,Sem.run_bind,Sem.run_pure,Result.andThen,run_underlying hu,ybN hi,yeS h,Option.isSome_none]
  simp [yeS h,Sem.run_bind,Sem.run_pure,Result.andThen]
  intro _
  cases A <;> simp [Addr.add]
theorem bits_and(a b:Int)(h:0≤a∧a<9223372036854775808∧0≤b∧b<9223372036854775808):IntKind.i64.wrap ((BitVec.ofInt IntKind.i64.bits a &&& BitVec.ofInt IntKind.i64.bits b).toNat:Int)=((a.toNat &&& b.toNat:Nat):Int):=by
  obtain ⟨a,rfl⟩:∃ k:Nat,a=k:=⟨a.toNat,by omega⟩
  obtain ⟨b,rfl⟩:∃ k:Nat,b=k:=⟨b.toNat,by omega⟩
  have e1:(BitVec.ofInt IntKind.i64.bits (a:Int)).toNat=a:=by
    simp only [BitVec.toNat_ofInt,IntKind.bits];omega
  have e2:(BitVec.ofInt IntKind.i64.bits (b:Int)).toNat=b:=by
    simp only [BitVec.toNat_ofInt,IntKind.bits];omega
  rw [BitVec.toNat_and,e1,e2]
  have hle:a &&& b≤a:=Nat.and_le_left
  simp only [Int.toNat_natCast]
  exact In64.wrap ⟨by omega,by omega⟩
theorem v_andb{a b:Int}(hx:evE E x = .int .i64 a)(hy:evE E y = .int .i64 b)(h:0≤a∧a<9223372036854775808∧0≤b∧b<9223372036854775808):(execOp (evE E) ⟨d, .binOp .and xt x y yt,ty,ps,af,g⟩).run P w = .ok (.value (.int .i64 ((a.toNat &&& b.toNat:Nat):Int))) w:=by
  have h1:(binOp .and xt (.int .i64 a) (.int .i64 b)).run P w = .ok (.int .i64 (IntKind.i64.wrap ((BitVec.ofInt IntKind.i64.bits a &&& BitVec.ofInt IntKind.i64.bits b).toNat:Int))) w:=rfl
  have h3:eqGuard .and xt x y (.int .i64 a) (.int .i64 b)=pure ():=rfl
  unfold execOp
  simp only [hx,hy,h3,h1,bits_and a b h,Sem.run_bind,Sem.run_pure,Result.andThen]
def fillL(place:Nat→Option (Nat×Nat))(cells:List Value):List (Nat×Value)→Option (List Value)
  | []=>some cells
  | (i,v)::rest=>match place i with
    | none=>none
    | some (off,size)=>bif Nat.beq v.cells.toList.length size&&Nat.ble (off+v.cells.toList.length) cells.length then fillL place (setL cells off v.cells.toList) rest else none
theorem fold_setL:∀ (vs:List Value) (k off:Nat) (cs:Array Value),(vs.zipIdx k).foldl (fun (cs:Array Value) (x:Value×Nat)=>cs.setIfInBounds (off+x.2) x.1) cs=(setL cs.toList (off+k) vs).toArray
  | [],_,_,cs=>by simp [setL]
  | v::vs,k,off,cs=>by
    rw [List.zipIdx_cons,List.foldl_cons,fold_setL vs (k+1) off]
    simp [setL,Nat.add_assoc]
theorem yf4{place:Nat→Option (Nat×Nat)} : ∀ (l:List (Nat×Value)) (cs ds:List Value),fillL place cs l=some ds→Instr.fill place cs.toArray l=some ds.toArray
  | [],cs,ds,h=>by simp only [fillL,Option.some.injEq] at h;rw [h];rfl
  | (i,v)::rest,cs,ds,h=>by
    simp only [fillL] at h
    simp only [Instr.fill]
    cases hp:place i with
    | none=>rw [hp] at h;cases h
    | some p =>
      obtain ⟨off,size⟩:=p
      rw [hp] at h
      simp only at h ⊢
      cases hc:(Nat.beq v.cells.toList.length size&&Nat.ble (off+v.cells.toList.length) cs.length) with
      | false=>rw [hc] at h;cases h
      | true =>
        rw [hc] at h
        simp only [cond_true] at h
        rw [Bool.and_eq_true] at hc
        have h1:=Nat.eq_of_beq_eq_true hc.1
        have h2:=Nat.le_of_ble_eq_true hc.2
        have h3:¬(v.cells.size≠size || off+v.cells.size>cs.toArray.size)=true:=by
          simp at h1 h2 ⊢;exact ⟨h1,h2⟩
        rw [if_neg h3]
        have h4:v.cells.zipIdx.foldl (fun (cs:Array Value) (x:Value×Nat)=>cs.setIfInBounds (off+x.2) x.1) cs.toArray=(setL cs off v.cells.toList).toArray:=by
          rw [←Array.foldl_toList,Array.toList_zipIdx,fold_setL]
          simp
        have h5:=yf4 rest _ _ h
        rw [←h4] at h5
        exact h5
def zerosL(z:List Value)(n:Nat):List Value:=(List.range n).map fun i=>z.getD (i % z.length) default
theorem zerosL_eq(z:Array Value)(n:Nat):(Array.range n).map (fun i=>z[i % z.size]!)=(zerosL z.toList n).toArray:=by
  apply Array.ext
  · simp [zerosL]
  · intro i h1 h2
    simp [zerosL,Array.getD_eq_getD_getElem?,Array.getElem!_eq_getD]
variable {K : Value → World → Prop}
theorem ybb{n:Nat}{parts:Array (Nat×Operand)}{l:List (Nat×Value)}{e:TypeId}{z:Value}{sz b:Nat}{cells:List Value}(hl:parts.map (fun (i,x)=>(i,evE E x))=l.toArray)(hu:P.underlying xt=some (.slice e))(hi:(P.info? e).map (fun i=>(i.zero,i.size,i.bytes))=some (some z,sz,b))
    (hs:Nat.ble (n*sz) 1000=true) (hf:fillL (fun i=>some (i*sz,sz)) (zerosL z.cells.toList (n*sz)) l=some cells)
    (h:∀ g' w',New w g' w' cells.toArray e→K (.slice (some ⟨g',0,none⟩) n n) w'):ybd P ⟨d, .buildSlice xt n parts,ty,ps,af,g⟩ (evE E) w K:=by
  have h1:¬(n*sz>2^24):=by have:=Nat.le_of_ble_eq_true hs;omega
  have hf:=yf4 _ _ _ hf
  rw [←zerosL_eq] at hf
  unfold ybd execOp
  simp only [hl,Instr.buildSlice,Sem.run_bind,Sem.run_pure,Result.andThen,run_underlying hu,ybN hi,h1,if_false]
  by_cases h0:n*sz=0
  · simp only [h0,if_true,Sem.run_pure,Result.andThen] at hf ⊢
    have e0:∀ f:Nat→Value,(Array.range 0).map f = #[]:=fun f=>by simp
    rw [e0] at hf
    simp only [e0,hf,Sem.run_bind,Sem.run_pure,newRow,newObj,Sem.run,Result.andThen]
    exact h _ _ ⟨rfl,rfl⟩
  · simp only [h0,if_false,Sem.run_bind,ydB hi,Sem.run_pure,Result.andThen,hf,newRow,newObj,Sem.run]
    exact h _ _ ⟨rfl,rfl⟩
theorem ydt{fs:Array Field}{parts:Array (Nat×Operand)}{l:List (Nat×Value)}{zo:Value}{n b:Nat}{cells:List Value}{places:List (Nat×Nat)}(hl:parts.map (fun (i,x)=>(i,evE E x))=l.toArray)(hu:P.underlying xt=some (.struct fs))(hi:(P.info? xt).map (fun i=>(i.zero,i.size,i.bytes))=some (some zo,n,b))
    (hp:fs.toList.mapM (m:=Option) (fun f=>(P.info? f.type).map fun i=>(f.offset,i.size))=some places) (hf:fillL (places[·]?) zo.cells.toList l=some cells)
    (h:K (.agg cells.toArray) w):ybd P ⟨d, .build xt parts,ty,ps,af,g⟩ (evE E) w K:=by
  have key:∀ (fs:List Field) (ps:List (Nat×Nat)),fs.mapM (m:=Option) (fun f=>(P.info? f.type).map fun i=>(f.offset,i.size))=some ps→(fs.mapM (m:=Sem) (fun f=>do pure (f.offset,←sizeOf f.type))).run P w = .ok ps w:=by
    intro fs
    induction fs with
    | nil=>intro ps h;simp at h;subst h;simp [go_sem]
    | cons f fs ih =>
      intro ps h
      rw [List.mapM_cons] at h
      cases hq:P.info? f.type with
      | none=>simp [hq] at h
      | some i =>
        cases hr:fs.mapM (m:=Option) (fun f=>(P.info? f.type).map fun i=>(f.offset,i.size)) with
        | none=>simp [hq,hr] at h
        | some rs =>
          simp [hq,hr] at h
          subst h
          rw [List.mapM_cons]
          have h1:(sizeOf f.type).run P w = .ok i.size w:=by simp [sizeOf,typeInfo,hq,go_sem]
          simp only [Sem.run_bind,h1,Result.andThen,Sem.run_pure,ih rs hr]
  have hp':(fs.mapM (m:=Sem) (fun f=>do pure (f.offset,←sizeOf f.type))).run P w = .ok places.toArray w:=by
    have h2:=key _ _ hp
    rw [←Array.toList_mapM] at h2
    simp only [map_eq_pure_bind,Sem.run_bind] at h2
    cases hq:(fs.mapM (m:=Sem) (fun f=>do pure (f.offset,←sizeOf f.type))).run P w with
    | ok a w'=>rw [hq] at h2;simp only [Result.andThen,Sem.run_pure] at h2;cases a;simp at h2;simp [h2]
    | halt e w'=>rw [hq] at h2;cases h2
  have hf:=yf4 _ _ _ hf
  have hpl:(fun i=>places.toArray[i]?)=(fun i:Nat=>places[i]?):=by funext i;simp
  unfold ybd execOp
  simp only [hl,Instr.build,Sem.run_bind,Sem.run_pure,Result.andThen,run_underlying hu,ydB hi,hp',hpl]
  rw [show zo.cells=zo.cells.toList.toArray by simp,hf]
  exact h
theorem n_builda{k:Nat}{e:TypeId}{parts:Array (Nat×Operand)}{l:List (Nat×Value)}{zo:Value}{z1:Option Value}{n b n1 b1:Nat}{cells:List Value}(hl:parts.map (fun (i,x)=>(i,evE E x))=l.toArray)(hu:P.underlying xt=some (.array k e))(hi:(P.info? xt).map (fun i=>(i.zero,i.size,i.bytes))=some (some zo,n,b))
    (he:(P.info? e).map (fun i=>(i.zero,i.size,i.bytes))=some (z1,n1,b1)) (hf:fillL (fun i=>some (i*n1,n1)) zo.cells.toList l=some cells)
    (h:K (.agg cells.toArray) w):ybd P ⟨d, .build xt parts,ty,ps,af,g⟩ (evE E) w K:=by
  have hf:=yf4 _ _ _ hf
  unfold ybd execOp
  simp only [hl,Instr.build,Sem.run_bind,Sem.run_pure,Result.andThen,run_underlying hu,ydB hi,ybN he]
  rw [show zo.cells=zo.cells.toList.toArray by simp,hf]
  exact h
end
def InK(k:IntKind)(a:Int):Prop:=k.wrap a=a
section
variable {P : Program} {E : Env} {w : World} {d : Option Tmp} {x y z u : Operand} {ty xt yt : TypeId} {ps : String} {af : Array Edge} {g : Option (Nat × Bool)} {ats : Array TypeId} {k : IntKind}
theorem v_addk{a b:Int}(hx:evE E x = .int k a)(hy:evE E y = .int k b)(hi:InK k (a+b)):(execOp (evE E) ⟨d, .binOp .add xt x y yt,ty,ps,af,g⟩).run P w = .ok (.value (.int k (a+b))) w:=by
  unfold InK at hi
  simp [execOp,hx,hy,eqGuard,binOp,Op.intArith,go_sem,hi]
theorem v_mulk{a b:Int}(hx:evE E x = .int k a)(hy:evE E y = .int k b)(hi:InK k (a*b)):(execOp (evE E) ⟨d, .binOp .mul xt x y yt,ty,ps,af,g⟩).run P w = .ok (.value (.int k (a*b))) w:=by
  unfold InK at hi
  simp [execOp,hx,hy,eqGuard,binOp,Op.intArith,go_sem,hi]
theorem v_remk{a b:Int}(hx:evE E x = .int k a)(hy:evE E y = .int k b)(hb:b≠0):(execOp (evE E) ⟨d, .binOp .rem xt x y yt,ty,ps,af,g⟩).run P w = .ok (.value (.int k (a.tmod b))) w:=by
  simp [execOp,hx,hy,eqGuard,binOp,Op.intDiv,go_sem,hb]
theorem v_shru{k':IntKind}{a b:Int}(hx:evE E x = .int .u64 a)(hy:evE E y = .int k' b)(h0:0≤b∧b<64):(execOp (evE E) ⟨d, .binOp .shr xt x y yt,ty,ps,af,g⟩).run P w = .ok (.value (.int .u64 (a / 2^b.toNat))) w:=by
  have h1:¬b<0:=by omega
  have h2:min b.toNat IntKind.u64.bits=b.toNat:=by have:IntKind.u64.bits=64:=rfl;omega
  simp [execOp,hx,hy,eqGuard,binOp,Op.shift,go_sem,h1,h2]
theorem v_convk{k' k2:IntKind}{a:Int}(hx:evE E x = .int k a)(h1:P.underlying xt=some (.int k'))(h2:P.underlying yt=some (.int k2))(hi:InK k2 a):(execOp (evE E) ⟨d, .convert xt yt x,ty,ps,af,g⟩).run P w = .ok (.value (.int k2 a)) w:=by
  unfold InK at hi
  unfold execOp
  simp only [hx,Sem.run_bind,convert,run_underlying h1,run_underlying h2,Result.andThen,Conv.intToInt,Sem.run_pure,hi]
theorem v_andu{a b:Int}(hx:evE E x = .int .u64 a)(hy:evE E y = .int .u64 b)(h:0≤a∧a<18446744073709551616∧0≤b∧b<18446744073709551616):(execOp (evE E) ⟨d, .binOp .and xt x y yt,ty,ps,af,g⟩).run P w = .ok (.value (.int .u64 ((a.toNat &&& b.toNat:Nat):Int))) w:=by
  have h1:(binOp .and xt (.int .u64 a) (.int .u64 b)).run P w = .ok (.int .u64 (IntKind.u64.wrap ((BitVec.ofInt IntKind.u64.bits a &&& BitVec.ofInt IntKind.u64.bits b).toNat:Int))) w:=rfl
  have h3:eqGuard .and xt x y (.int .u64 a) (.int .u64 b)=pure ():=rfl
  have h4:IntKind.u64.wrap ((BitVec.ofInt IntKind.u64.bits a &&& BitVec.ofInt IntKind.u64.bits b).toNat:Int)=((a.toNat &&& b.toNat:Nat):Int):=by
    obtain ⟨a,rfl⟩:∃ k:Nat,a=k:=⟨a.toNat,by omega⟩
    obtain ⟨b,rfl⟩:∃ k:Nat,b=k:=⟨b.toNat,by omega⟩
    have e1:(BitVec.ofInt IntKind.u64.bits (a:Int)).toNat=a:=by
      simp only [BitVec.toNat_ofInt,IntKind.bits];omega
    have e2:(BitVec.ofInt IntKind.u64.bits (b:Int)).toNat=b:=by
      simp only [BitVec.toNat_ofInt,IntKind.bits];omega
    rw [BitVec.toNat_and,e1,e2]
    have hle:a &&& b≤a:=Nat.and_le_left
    simp only [Int.toNat_natCast]
    simp [IntKind.wrap,IntKind.bits,IntKind.signed]
    omega
  unfold execOp
  simp only [hx,hy,h3,h1,h4,Sem.run_bind,Sem.run_pure,Result.andThen]
variable {K : Value → World → Prop}
theorem n_copy{e:TypeId}{zo:Option Value}{b:Nat}{A C:Option Addr}{l c m c':Nat}(hx:evE E x = .slice A l c)(hy:evE E y = .slice C m c')(hu:P.underlying xt=some (.slice e))(hi:(P.info? e).map (fun i=>(i.zero,i.size,i.bytes))=some (zo,1,b))
    (h:∃ (bl o:Nat) (a:Addr) (vs:List Value),A=some ⟨bl,o,none⟩∧C=some a∧vs.length=min m l∧(∀ j u,vs[j]? = some u→w.cell? (a.add j)=some u)∧(∀ u∈vs,u.oneCell'=true)∧w.there bl o vs.length∧∀ w',w'=w.setCells bl o vs→K (.int .i64 ((min m l:Nat):Int)) w'):ybd P ⟨d, .call ⟨.builtin .copy,#[x,y],#[xt,yt]⟩,ty,ps,af,g⟩ (evE E) w K:=by
  obtain ⟨bl,o,a,vs,rfl,rfl,hl,hc,h1,ht,hK⟩:=h
  have hf:=run_firstCells_some (P:=P) w 1 (min m l) a m c' vs (by omega) hc
  have hst:=run_storeCells_cells (P:=P) bl o vs 0 w (fun j hj=>by simpa using (ht j hj).1) (fun j hj=>by simpa using (ht j hj).2) h1
  have hlen:(Builtin.lenOf (.slice (some a) m c')).run P w = .ok m w:=rfl
  have hmin:Nat.min m l=min m l:=rfl
  unfold ybd execOp
  simp only [resolve,hx,hy,List.map_toArray,List.map_cons,List.map_nil,Sem.run_bind,Sem.run_pure,Result.andThen,invoke,builtin,Builtin.copy_,List.getElem?_toArray,List.getElem?_cons_zero,List.getElem?_cons_succ,run_underlying hu,ybN hi,hlen,hmin,hf,hst,goInt,Nat.zero_add,Nat.add_zero]
  exact hK _ rfl
end
section
variable {F : Fence} {n : Nat} {P : Program} {N : Nat} {Q : Exit → Act → World → Prop} {E : Env} {ds : List Deferred} {w : World} {t : List Item} {x y z A B : Code} {c : Operand}
theorem wt_cutT0(J:Env→List Deferred→World→Prop)(hj:∀ E ds w,J E ds w→WT F n P N t Q E ds w)(h:(∀ E ds w,J E ds w→WT F n P N t Q E ds w)→WT F n P N (.code x::t) Q E ds w):WT F n P N (.code x::t) Q E ds w:=h hj
theorem ydm(J:Env→List Deferred→World→Prop)(hj:∀ E ds w,J E ds w→WT F n P N t Q E ds w)(h:(∀ E ds w,J E ds w→WT F n P N t Q E ds w)→WT F n P N (.code x :: .code y::t) Q E ds w):WT F n P N (.code x :: .code y::t) Q E ds w:=h hj
theorem wt_cutA1(J:Env→List Deferred→World→Prop)(hj:∀ E ds w,J E ds w→WT F n P N (.code A::t) Q E ds w)(h:(∀ E ds w,J E ds w→WT F n P N (.code A::t) Q E ds w)→WT F n P N (.code x :: .code (.cond c A B)::t) Q E ds w):WT F n P N (.code x :: .code (.cond c A B)::t) Q E ds w:=h hj
theorem wt_cutB1(J:Env→List Deferred→World→Prop)(hj:∀ E ds w,J E ds w→WT F n P N (.code B::t) Q E ds w)(h:(∀ E ds w,J E ds w→WT F n P N (.code B::t) Q E ds w)→WT F n P N (.code x :: .code (.cond c A B)::t) Q E ds w):WT F n P N (.code x :: .code (.cond c A B)::t) Q E ds w:=h hj
end
section
variable {P : Program} {N : Nat} {ops : Array Oper} {st : Nat → List Nat} {Qa : Act → World → Prop} {l : List Oper} {pend : List (Nat × Sem Next × Value)} {E : Env} {ds : List Deferred} {w : World} {i : Nat} {d : Nat} {dt : Option Tmp} {op : Op} {ty xt yt : TypeId} {ps : String} {af : Array Edge} {g : Option (Nat × Bool)} {F : Fence} {n : Nat} {t : List Item} {Q : Exit → Act → World → Prop} {x y : Operand} {a b : Code}
theorem zq{v:Value}(hv:(execOp (evE E) ⟨some d,op,ty,ps,af,g⟩).run P w = .ok (.value v) w)(h:RL P N ops st Qa (i+1) l ((i,execOp (evE E) ⟨some d,op,ty,ps,af,g⟩,v)::pend) (upd E d v) ds w)
    (hw:Region.wanted ⟨some d,op,ty,ps,af,g⟩ (yE ops E)=true:=by rfl) (hq:yaE op=true:=by rfl) (hd:Nat.blt d N=true:=by rfl):RL P N ops st Qa i (⟨some d,op,ty,ps,af,g⟩::l) pend E ds w:=rl_q hw hq hd hv h
theorem zn(h:ybd P ⟨some d,op,ty,ps,af,g⟩ (evE E) w fun v w'=>Stb P (st i) w' pend∧RL P N ops st Qa (i+1) l pend (upd E d v) ds w')
    (hw:Region.wanted ⟨some d,op,ty,ps,af,g⟩ (yE ops E)=true:=by rfl) (hq:yaE op=false:=by rfl) (hn:ybm op=true:=by rfl) (hd:Nat.blt d N=true:=by rfl):RL P N ops st Qa i (⟨some d,op,ty,ps,af,g⟩::l) pend E ds w:=rl_n hw hq hn hd h
theorem zo(h:ybd P ⟨none,op,ty,ps,af,g⟩ (evE E) w fun v w'=>Stb P (st i) w' pend∧RL P N ops st Qa (i+1) l pend E ds w')
    (hw:Region.wanted ⟨none,op,ty,ps,af,g⟩ (yE ops E)=true:=by rfl) (hq:yaE op=false:=by rfl) (hn:ybm op=true:=by rfl):RL P N ops st Qa i (⟨none,op,ty,ps,af,g⟩::l) pend E ds w:=rl_n0 hw hq hn h
theorem zm(v:Value)(h:evE E x=v:=by rfl):(execOp (evE E) ⟨dt, .move x,ty,ps,af,g⟩).run P w = .ok (.value v) w:=yad h
theorem za(v:Value)(h:evE E x=v:=by rfl):(execOp (evE E) ⟨dt, .assign x,ty,ps,af,g⟩).run P w = .ok (.value v) w:=yeE h
theorem zx{vs:Array Value}{k:Nat}(v:Value)(hx:evE E x = .tuple vs:=by rfl)(hv:vs[k]? = some v:=by rfl):(execOp (evE E) ⟨dt, .extract x k,ty,ps,af,g⟩).run P w = .ok (.value v) w:=v_extract hx hv
theorem zt{K:Value→World→Prop}{p:Addr}(v:Value){zo:Option Value}{b:Nat}(hi:(P.info? xt).map (fun i=>(i.zero,i.size,i.bytes))=some (zo,1,b))(hw:Wr w p)(h:∀ w',w'=w.setCell p v→K undef w')
    (hx:evE E x = .pointer (some p):=by rfl) (hy:evE E y=v:=by rfl) (h1:v.oneCell'=true:=by rfl):ybd P ⟨dt, .store xt x y,ty,ps,af,g⟩ (evE E) w K:=yfb hx hy h1 hi hw h
theorem zc{p:Prop} [Decidable p](hp:p)(h:WT F n P N (.code a::t) Q E ds w)(hc:evE E x = .bool (decide p):=by rfl):WT F n P N (.code (.cond x a b)::t) Q E ds w:=yal (by rw [hc,decide_eq_true hp]) h
theorem zd{p:Prop} [Decidable p](hp:¬p)(h:WT F n P N (.code b::t) Q E ds w)(hc:evE E x = .bool (decide p):=by rfl):WT F n P N (.code (.cond x a b)::t) Q E ds w:=yaq (by rw [hc,decide_eq_false hp]) h
theorem ze{p:Prop} [Decidable p](hp:p)(h:WT F n P N (.code b::t) Q E ds w)(hc:evE E x = .bool (!decide p):=by rfl):WT F n P N (.code (.cond x a b)::t) Q E ds w:=yaq (by rw [hc,decide_eq_true hp];rfl) h
theorem zf{p:Prop} [Decidable p](hp:¬p)(h:WT F n P N (.code a::t) Q E ds w)(hc:evE E x = .bool (!decide p):=by rfl):WT F n P N (.code (.cond x a b)::t) Q E ds w:=yal (by rw [hc,decide_eq_false hp];rfl) h
theorem zr{id:Nat}(h:RL P N ops st0 (WTa Fence.wide n P t Q) 0 ops.toList [] E ds w):WT Fence.wide n P N (.code (.region id ops false)::t) Q E ds w:=yaL yaQ h
theorem zs{id:Nat}(h:RL P N ops st0 (WTa Fence.wide n P (.code b::t) Q) 0 ops.toList [] E ds w):WT Fence.wide n P N (.code (.seq (.region id ops false) b)::t) Q E ds w:=yac (yaL yaQ h)
theorem zb{l:List (Nat×Sem Next×Value)}{p:Prop}(h:p):Stb P [] w l∧p:=⟨Stb.none l,h⟩
theorem zl{p:Addr}{u:TypeDesc}{v:Value}(hu:P.underlying xt=some u)(hc:w.cell? p=some v)(hx:evE E x = .pointer (some p):=by rfl)(hn:aggD u=false:=by rfl):(execOp (evE E) ⟨dt, .load xt x,ty,ps,af,g⟩).run P w = .ok (.value v) w:=yam hx hu hn hc
theorem zi{A:Option Addr}{l c:Nat}{e:TypeId}{k:IntKind}{i:Int}{zo:Option Value}{n b:Nat}(hu:P.underlying xt=some (.slice e))(hi:(P.info? e).map (fun i=>(i.zero,i.size,i.bytes))=some (zo,n,b))(h:Ix A l i)(hx:evE E x = .slice A l c:=by rfl)(hy:evE E y = .int k i:=by rfl):(execOp (evE E) ⟨dt, .indexAddr xt x y,ty,ps,af,g⟩).run P w = .ok (.value (.pointer (some (ixA A i n)))) w:=ycw hx hy hu hi h
theorem zA{a b:Int}(hi:In64 (a+b))(hx:evE E x = .int .i64 a:=by rfl)(hy:evE E y = .int .i64 b:=by rfl):(execOp (evE E) ⟨dt, .binOp .add xt x y yt,ty,ps,af,g⟩).run P w = .ok (.value (.int .i64 (a+b))) w:=ybU hx hy hi
theorem zS{a b:Int}(hi:In64 (a-b))(hx:evE E x = .int .i64 a:=by rfl)(hy:evE E y = .int .i64 b:=by rfl):(execOp (evE E) ⟨dt, .binOp .sub xt x y yt,ty,ps,af,g⟩).run P w = .ok (.value (.int .i64 (a-b))) w:=v_sub hx hy hi
theorem zL{k:IntKind}{a b:Int}(hx:evE E x = .int k a:=by rfl)(hy:evE E y = .int k b:=by rfl):(execOp (evE E) ⟨dt, .binOp .lss xt x y yt,ty,ps,af,g⟩).run P w = .ok (.value (.bool (decide (a<b)))) w:=ydf hx hy
theorem zG{k:IntKind}{a b:Int}(hx:evE E x = .int k a:=by rfl)(hy:evE E y = .int k b:=by rfl):(execOp (evE E) ⟨dt, .binOp .gtr xt x y yt,ty,ps,af,g⟩).run P w = .ok (.value (.bool (decide (b<a)))) w:=v_gtr hx hy
theorem zE{k:IntKind}{a b:Int}(hx:evE E x = .int k a:=by rfl)(hy:evE E y = .int k b:=by rfl):(execOp (evE E) ⟨dt, .binOp .eql xt x y yt,ty,ps,af,g⟩).run P w = .ok (.value (.bool (decide (a=b)))) w:=v_eql hx hy
theorem zN{k:IntKind}{a b:Int}(hx:evE E x = .int k a:=by rfl)(hy:evE E y = .int k b:=by rfl):(execOp (evE E) ⟨dt, .binOp .neq xt x y yt,ty,ps,af,g⟩).run P w = .ok (.value (.bool (!decide (a=b)))) w:=v_neq hx hy
theorem zp{v:Value}{R:List Nat}(hv:(execOp (evE E) ⟨some d,op,ty,ps,af,g⟩).run P w = .ok (.value v) w)(h:RP P N ops st Qa R l ((i,execOp (evE E) ⟨some d,op,ty,ps,af,g⟩,v)::pend) (upd E d v) ds w)
    (hw:Region.wanted ⟨some d,op,ty,ps,af,g⟩ (yE ops E)=true:=by rfl) (hq:yaE op=true:=by rfl) (hd:Nat.blt d N=true:=by rfl):RP P N ops st Qa (i::R) (⟨some d,op,ty,ps,af,g⟩::l) pend E ds w:=rp_q hw hq hd hv h
theorem zT{p:Prop} [Decidable p](h:p):Value.bool (decide p) = .bool true:=congrArg Value.bool (decide_eq_true h)
theorem zF{p:Prop} [Decidable p](h:¬p):Value.bool (decide p) = .bool false:=congrArg Value.bool (decide_eq_false h)
theorem zC{a b:Bool}(h:a=b):Value.bool a = .bool b:=congrArg Value.bool h
theorem zB{a b:Bool}(h:a=b):(!a) = !b:=congrArg Bool.not h
theorem zI{b:Bool}(h:¬b=true):b=false:=Bool.eq_false_iff.2 h
theorem zY{a b:Nat}(h:Nat.ble a b=true:=by rfl):a≤b:=Nat.le_of_ble_eq_true h
theorem zZ{p:Prop}(h:false=true):p:=Bool.noConfusion h
theorem zQ(v:Value)(h:RL P N ops st Qa (i+1) l ((i,execOp (evE E) ⟨some d, .assign x,ty,ps,af,g⟩,v)::pend) (upd E d v) ds w)(hv:evE E x=v:=by rfl)
    (hw:Region.wanted ⟨some d, .assign x,ty,ps,af,g⟩ (yE ops E)=true:=by rfl) (hd:Nat.blt d N=true:=by rfl):RL P N ops st Qa i (⟨some d, .assign x,ty,ps,af,g⟩::l) pend E ds w:=rl_q hw rfl hd (yeE hv) h
theorem zM(v:Value)(h:RL P N ops st Qa (i+1) l ((i,execOp (evE E) ⟨some d, .move x,ty,ps,af,g⟩,v)::pend) (upd E d v) ds w)(hv:evE E x=v:=by rfl)
    (hw:Region.wanted ⟨some d, .move x,ty,ps,af,g⟩ (yE ops E)=true:=by rfl) (hd:Nat.blt d N=true:=by rfl):RL P N ops st Qa i (⟨some d, .move x,ty,ps,af,g⟩::l) pend E ds w:=rl_q hw rfl hd (yad hv) h
theorem zU{j d':Nat}{b b':Bool}(h:RL P N ops st Qa (i+1) l pend (upd E d undef) ds w)(hg:g=some (j,b):=by rfl)(hj:(ops[j]?).bind (·.dst)=some d':=by rfl)(hE:E d' = .bool b':=by rfl)(hn:(b'==b)=false:=by rfl)(hd:Nat.blt d N=true:=by rfl) :
    RL P N ops st Qa i (⟨some d,op,ty,ps,af,g⟩::l) pend E ds w:=rl_p (yax hg (yaD hj hE) hn) hd h
theorem zV{j d':Nat}{b b':Bool}(hg:g=some (j,b))(hj:(ops[j]?).bind (·.dst)=some d')(hE:E d' = .bool b')(h:RL P N ops st Qa (i+1) l pend (upd E d undef) ds w)(hn:(b'==b)=false:=by rfl)(hd:Nat.blt d N=true:=by rfl) :
    RL P N ops st Qa i (⟨some d,op,ty,ps,af,g⟩::l) pend E ds w:=rl_p (yax hg (yaD hj hE) hn) hd h
theorem zW{v:Value}{j d':Nat}{b:Bool}(hg:g=some (j,b))(hj:(ops[j]?).bind (·.dst)=some d')(hE:E d' = .bool b)(hv:(execOp (evE E) ⟨some d,op,ty,ps,af,g⟩).run P w = .ok (.value v) w)
    (h:RL P N ops st Qa (i+1) l ((i,execOp (evE E) ⟨some d,op,ty,ps,af,g⟩,v)::pend) (upd E d v) ds w) (hq:yaE op=true:=by rfl) (hd:Nat.blt d N=true:=by rfl):RL P N ops st Qa i (⟨some d,op,ty,ps,af,g⟩::l) pend E ds w :=
  rl_q (yar hg (yaD hj hE)) hq hd hv h
theorem zX{j:Nat}{b:Bool}(h:RL P N ops st Qa (i+1) l pend (upd E d undef) ds w)(hg:g=some (j,b):=by rfl)(hj:yE ops E j=none:=by rfl)(hd:Nat.blt d N=true:=by rfl):RL P N ops st Qa i (⟨some d,op,ty,ps,af,g⟩::l) pend E ds w :=
  rl_p (wanted_u hg hj) hd h
abbrev ii(x:Int):Value := .int .i64 x
end
end Go.Proofs.YtjepipbkiadcpaaGreat

/- The walk over an environment: loops over iterators, marks among the deferred calls. No program in sight. -/
namespace Go.Proofs.YtjepipbkiadcpaaGreat
open Go Go.RowKit Go.Shelf Go.Proofs.Tryz
theorem Rep.unique{N:Nat}{E:Env}{ds:List Deferred}{a a':Act}(h:Rep N E ds a)(h':Rep N E ds a'):a=a':=by
  obtain ⟨tm,df⟩:=a
  obtain ⟨tm',df'⟩:=a'
  have hd:df=df':=h.defers.trans h'.defers.symm
  have hs:tm.size=tm'.size:=h.size.trans h'.size.symm
  have ht:tm=tm':=by
    apply Array.ext hs
    intro i h1 h2
    have a1:=h.get i
    have a2:=h'.get i
    have:tm.getD i undef=tm'.getD i undef:=a1.trans a2.symm
    simpa [Array.getD_eq_getD_getElem?,h1,h2] using this
  rw [hd,ht]
def setE(E:Env):List (Nat×Value)→Env
  | []=>E
  | (p,v)::t=>setE (upd E p v) t
theorem yhR{N:Nat} : ∀ (l:List (Nat×Value)) (E:Env) (ds:List Deferred) (a:Act),Rep N E ds a→(∀ p∈l,p.1<N)→Rep N (setE E l) ds { tmps:=l.foldl (fun t p=>t.setIfInBounds p.1 p.2) a.tmps,defers:=a.defers }
  | [],E,ds,a,h,_=>h
  | (p,v)::t,E,ds,a,h,hl=>by
    have h1:=h.put (d:=some p) (fun k e=>by cases e;exact hl (p,v) (by simp)) v
    have:=yhR t _ ds _ h1 (fun q hq=>hl q (by simp [hq]))
    simpa [setE,Act.put,updO] using this
def yaS(N:Nat):Code→Bool
  | .region _ ops false=>ops.toList.all fun o=>match o.dst,o.op,o.guard with | some d, .assign _,none=>Nat.blt d N | _,_,_=>false
  | .seq a b=>yaS N a&&yaS N b
  | .skip=>true
  | _=>false
def assignL:List Oper→Env→Env
  | [],E=>E
  | o::t,E=>match o.dst,o.op with
    | some d, .assign x=>assignL t (upd E d (evE E x))
    | _,_=>assignL t E
def yeN:Code→Env→Env
  | .region _ ops _,E=>assignL ops.toList E
  | .seq a b,E=>yeN b (yeN a E)
  | _,E=>E
section
variable {F : Fence} {n : Nat} {P : Program} {N : Nat} {Q : Exit → Act → World → Prop} {t : List Item}
theorem rl_assign(ops:Array Oper):∀ (l:List Oper) (i:Nat) (pend:List (Nat×Sem Next×Value)) (E:Env) (ds:List Deferred) (w:World),(l.all fun o=>match o.dst,o.op,o.guard with | some d, .assign _,none=>Nat.blt d N | _,_,_=>false)=true →
    WT F n P N t Q (assignL l E) ds w→RL P N ops st0 (WTa F n P t Q) i l pend E ds w
  | [],i,pend,E,ds,w,_,h=>yaa h
  | o::l,i,pend,E,ds,w,ha,h=>by
    obtain ⟨dst,op,ty,ps,af,g⟩:=o
    simp only [List.all_cons,Bool.and_eq_true] at ha
    obtain ⟨h1,h2⟩:=ha
    cases dst with
    | none=>simp at h1
    | some d =>
      cases g with
      | some g=>exact absurd h1 (by cases op <;> simp)
      | none =>
        cases op
        case assign x =>
          refine rl_q rfl rfl (by simpa using h1) (yeE rfl) ?_
          exact rl_assign ops l _ _ _ ds w h2 h
        all_goals exact absurd h1 (by simp)
theorem yim(hw:Wd F):∀ (c:Code) (t:List Item) (E:Env) (ds:List Deferred) (w:World),yaS N c=true→WT F n P N t Q (yeN c E) ds w→WT F n P N (.code c::t) Q E ds w
  | .region id ops d,t,E,ds,w,hc,h=>by
    cases d with
    | true=>simp [yaS] at hc
    | false=>exact yaL hw (rl_assign ops _ _ _ _ _ _ (by simpa [yaS] using hc) h)
  | .seq a b,t,E,ds,w,hc,h=>by
    simp only [yaS,Bool.and_eq_true] at hc
    exact yac (yim hw a _ _ _ _ hc.1 (yim hw b _ _ _ _ hc.2 h))
  | .skip,t,E,ds,w,hc,h=>yaf h
  | .cond ..,_,_,_,_,hc,_=>by simp [yaS] at hc
  | .block ..,_,_,_,_,hc,_=>by simp [yaS] at hc
  | .loop ..,_,_,_,_,hc,_=>by simp [yaS] at hc
  | .rangeFunc ..,_,_,_,_,hc,_=>by simp [yaS] at hc
  | .exit ..,_,_,_,_,hc,_=>by simp [yaS] at hc
  | .scope ..,_,_,_,_,hc,_=>by simp [yaS] at hc
  | .label ..,_,_,_,_,hc,_=>by simp [yaS] at hc
  | .goto ..,_,_,_,_,hc,_=>by simp [yaS] at hc
  | .ret,_,_,_,_,hc,_=>by simp [yaS] at hc
  | .refuse ..,_,_,_,_,hc,_=>by simp [yaS] at hc
end
structure KpOk(Kp:World→World→Prop)(w:World):Prop where
  trans:∀ {A B C:World},Kp A B→Kp B C→Kp A C
  put:∀ (W:World) (l:Nat) (o o':Obj),w.heap.size≤l→W.heap[l]? = some o→o.isCells=false→o.isWalk=false→Kp W (W.putObj l o')
def IterOf(P:Program)(r:Value){α:Type}(val:α→Array Value)(S:List α→Prop)(Kp:World→World→Prop)(len:Nat)(w:World):Prop :=
  ∃ gf lb,r = .func (.func gf) #[] lb∧Enters P gf∧SeqStopsK Fence.wide 2 P gf lb val Kp S (fun _=>True) len w∧KpOk Kp w
def Stays{α:Type}(B:Nat)(I:List α→World→Prop):Prop:=OwnFrom B I
theorem wt_range{P:Program}{N:Nat}{Q:Exit→Act→World→Prop}{E:Env}{ds:List Deferred}{w:World}{t:List Item}{fo:Operand}{ps:Array Tmp}{assign body:Code}{r:Value}
    (hr:evE E fo=r) {α:Type} {val:α→Array Value} {S:List α→Prop} {Kp:World→World→Prop} {len:Nat} (hI:IterOf P r val S Kp len w) (hps:∀ x,(val x).size=ps.size) (hpN:ps.toList.all (fun p=>Nat.blt p N)=true) (has:yaS N assign=true)
    (I:List α→World→Prop) (hown:Stays w.heap.size I) (h0:I [] w)
    (hbody:∀ (l:Nat) (pre:List α) (x:α) (W:World),I pre W→pre.length<len →
      WT (Fence.wide.inRound l) 1 P N [.code body] (ownPostK Kp I (fun _ _ _=>False) (pre++[x]) W) (yeN assign (setE E (ps.toList.zip (val x).toList))) [] W)
    (hdone:∀ (D:Nat) (xs:List α) (W:World),w.heap.size≤D→S xs→I xs W→W.heap[D]? = some (.deferred (some []))→WT Fence.wide 3 P N t Q E ({ target := .collected D,args:=#[] }::ds) W) :
    WT Fence.wide 3 P N (.code (.rangeFunc fo ps assign body)::t) Q E ds w:=by
  intro a ra
  obtain ⟨gf,lb,hrv,heg,hseq,hk⟩:=hI
  let mk:Env→Act:=fun E'=>{ tmps:=Array.ofFn (n:=N) fun i=>E' i,defers:=[] }
  have hmk:∀ E':Env,(∀ t,N≤t→E' t=undef)→Rep N E' [] (mk E'):=by
    intro E' h
    refine ⟨by simp [mk],fun t=>?_,rfl⟩
    simp only [mk,Array.getD_eq_getD_getElem?]
    rcases Nat.lt_or_ge t N with ht | ht
    · simp [ht]
    · simp [ht,h t ht]
  have hun:∀ {E':Env} {ds':List Deferred} {a':Act},Rep N E' ds' a'→∀ t,N≤t→E' t=undef:=by
    intro E' ds' a' h t ht
    rw [←h.get t]
    simp [Array.getD_eq_getD_getElem?,h.size,ht]
  have hpr:∀ x,Rep N (setE E (ps.toList.zip (val x).toList)) [] { tmps:=(ps.zip (val x)).foldl (fun t (p,v)=>t.setIfInBounds p v) a.tmps,defers:=[] }:=by
    intro x
    have h1:Rep N E [] { tmps:=a.tmps,defers:=[] }:=⟨ra.size,ra.get,rfl⟩
    have h2:=yhR (ps.toList.zip (val x).toList) E [] _ h1 (fun p hp=>by
      have:=List.all_eq_true.1 hpN p.1 (List.of_mem_zip hp).1
      simpa using this)
    have h3:(ps.zip (val x)).foldl (fun t (p,v)=>t.setIfInBounds p v) a.tmps=(ps.toList.zip (val x).toList).foldl (fun t p=>t.setIfInBounds p.1 p.2) a.tmps:=by
      rw [←Array.foldl_toList,Array.toList_zip]
    rw [h3];exact h2
  have hasg:∀ (l:Nat) (x:α) (W:World) (K:Act→World→Prop),(∀ a',Rep N (yeN assign (setE E (ps.toList.zip (val x).toList))) [] a'→K a' W) →
      assign.wpIn (Fence.wide.inRound l) 1 P (Exit.then K (fun _ _ _=>False)) { tmps:=(ps.zip (val x)).foldl (fun t (p,v)=>t.setIfInBounds p v) a.tmps,defers:=[] } W:=by
    intro l x W K hK
    refine WTa.code (yim (N:=N) (ybG l) assign [] _ [] W has ?_ _ (hpr x))
    exact fun a' r'=>WTa.nil (hK a' r')
  have hrep:∀ x,Rep N (yeN assign (setE E (ps.toList.zip (val x).toList))) [] (mk (yeN assign (setE E (ps.toList.zip (val x).toList)))):=by
    intro x
    refine hmk _ ?_
    -- the slots behind the end: from any act that the assignment leaves
    have key:∀ (c:Code) (E':Env),yaS N c=true→(∀ t,N≤t→E' t=undef)→∀ t,N≤t→yeN c E' t=undef:=by
      intro c
      induction c with
      | region id ops d =>
        intro E' hc h
        cases d with
        | true=>simp [yaS] at hc
        | false =>
          simp only [yaS] at hc
          simp only [yeN]
          generalize ops.toList=L at hc
          induction L generalizing E' with
          | nil=>exact h
          | cons o L ih =>
            obtain ⟨dst,op,ty,ps,af,g⟩:=o
            simp only [List.all_cons,Bool.and_eq_true] at hc
            obtain ⟨h1,h2⟩:=hc
            cases dst with
            | none=>simp at h1
            | some d =>
              cases g with
              | some g=>exact absurd h1 (by cases op <;> simp)
              | none =>
                cases op
                case assign x =>
                  refine ih _ (fun t ht=>?_) h2
                  have hd:d<N:=by simpa using h1
                  have:Nat.beq t d=false:=by
                    cases hq:Nat.beq t d with
                    | false=>rfl
                    | true=>have:=Nat.eq_of_beq_eq_true hq;subst this;exact absurd ht (Nat.not_le.2 hd)
                  simp only [upd,this,cond_false];exact h t ht
                all_goals exact absurd h1 (by simp)
      | seq a b iha ihb =>
        intro E' hc h
        simp only [yaS,Bool.and_eq_true] at hc
        exact ihb _ hc.2 (iha _ hc.1 h)
      | skip=>intro E' _ h;exact h
      | _=>intro E' hc h;simp [yaS] at hc
    exact key assign _ has (hun (hpr x))
  refine WTa.of (wpIn_rangeFunc_ownF (α:=α) (encs:=val) (Kp:=Kp) (S:=S) (Sp:=fun _=>True) (N:=len) (w0:=w) rfl (by omega) (gf:=gf) (lb:=lb) (by rw [ra.eval,hr,hrv]) trivial heg hseq (fun h k=>hk.trans h k) hk.put (Below.refl _ _) hps I (fun _ _ _=>False) hown (fun c s W W' row h _ _=>h) h0
    (fun x=>mk (yeN assign (setE E (ps.toList.zip (val x).toList)))) ?_ ?_ ?_ (fun D c pre W _ _ h _=>h.elim))
  · intro l x W K hK
    exact hasg l x W K (fun a' r'=>by rw [r'.unique (hrep x)];exact hK)
  · intro l pre x W hi hl
    exact hbody l pre x W hi hl _ (hrep x)
  · intro D xs W hD hS hi hK
    exact ⟨rfl,hdone D xs W hD hS hi hK _ ⟨ra.size,ra.get,by rw [ra.defers]⟩⟩
def mark(r:Nat):Deferred:={ target := .collected r,args:=#[] }
def ydO(B:Nat)(ds:List Deferred)(W:World):Prop:=B≤W.heap.size∧∃ rs:List Nat,ds=rs.map mark∧rs.Nodup∧∀ r∈rs,B≤r∧W.heap[r]? = some (Obj.deferred (some []))
theorem ydO.nil(W:World):ydO W.heap.size [] W:=⟨Nat.le_refl _,[],rfl,List.nodup_nil,by simp⟩
def KpM(w w':World):Prop:=w.heap.size≤w'.heap.size∧∀ r:Nat,w.heap[r]? = some (Obj.deferred (some []))→w'.heap[r]? = some (Obj.deferred (some []))
theorem KpM.refl(w:World):KpM w w:=⟨Nat.le_refl _,fun _ h=>h⟩
theorem KpM.drew(w:World):KpM w w.drew:=⟨Nat.le_refl _,fun _ h=>h⟩
theorem KpM.trans{a b c:World}(h:KpM a b)(k:KpM b c):KpM a c:=⟨Nat.le_trans h.1 k.1,fun r hr=>k.2 r (h.2 r hr)⟩
theorem ydO.kp{B:Nat}{ds:List Deferred}{W W':World}(h:ydO B ds W)(hk:KpM W W'):ydO B ds W':=by
  obtain ⟨h0,rs,h1,h2,h3⟩:=h
  exact ⟨Nat.le_trans h0 hk.1,rs,h1,h2,fun r hr=>⟨(h3 r hr).1,hk.2 r (h3 r hr).2⟩⟩
theorem New.kpm{w w':World}{g:Nat}{cs:Array Value}{e:TypeId}(h:New w g w' cs e):KpM w w':=⟨by rw [h.size,h.at_];omega,fun r hr=>by
  rw [h.to_,Below.heap_alloc _ _ _ (Array.getElem?_eq_some_iff.1 hr).1];exact hr⟩
theorem yfX{w:World}{p:Addr}{v:Value} : KpM w (w.setCell p v):=⟨by simp [World.setCell],fun r hr=>by
  by_cases e:r=p.block
  · subst e
    simp [World.setCell,Array.getElem?_modify,hr]
  · rw [Below.heap_setCell w p v r e];exact hr⟩
theorem Keeps.kpm{S:Nat→Prop}{w w':World}(h:Keeps S w w')(hS:∀ k,S k→∀ o:Obj,w.heap[k]? = some o→o.isCells=true):KpM w w':=⟨h.size,fun r hr=>by
  rw [h.block r (Array.getElem?_eq_some_iff.1 hr).1 (fun hs=>by have:=hS r hs _ hr;simp [Obj.isCells] at this)]
  exact hr⟩
theorem Keeps.kpm_pure{w w':World}(h:Pure w w'):KpM w w':=Keeps.kpm h fun k hk=>hk.elim
theorem KeepsOthers.kpm{w w':World}(h:KeepsOthers w w'):KpM w w':=⟨h.size,fun r hr=>h.same r _ hr rfl⟩
theorem ydO.push{B:Nat}{ds:List Deferred}{W0 W:World}{D:Nat}(h0:ydO B ds W0)(h:KpM W0 W)(hD:W0.heap.size≤D)(hK:W.heap[D]? = some (Obj.deferred (some []))):ydO B ({ target := .collected D,args:=#[] }::ds) W:=by
  obtain ⟨hB,rs,h1,h2,h3⟩:=h0
  refine ⟨Nat.le_trans hB h.1,D::rs,by rw [h1];rfl,List.nodup_cons.2 ⟨fun hm=>?_,h2⟩,fun r hr=>?_⟩
  · have:=(Array.getElem?_eq_some_iff.1 (h3 D hm).2).1;omega
  · rcases List.mem_cons.1 hr with rfl | hr
    · exact ⟨Nat.le_trans hB hD,hK⟩
    · exact ⟨(h3 r hr).1,h.2 r (h3 r hr).2⟩
structure After(B:Nat)(W W':World):Prop where
  os:W'.os=W.os
  tape:W'.tape=W.tape
  output:W'.output=W.output
  size:W'.heap.size=W.heap.size
  cells:∀ k:Nat,(∀ o:Obj,W.heap[k]? = some o→o.isCells=true)→W'.heap[k]? = W.heap[k]?
  old:∀ k:Nat,k<B→W'.heap[k]? = W.heap[k]?
theorem After.row{B:Nat}{W W':World}(h:After B W W'){g:Nat}{e:TypeId}{size:Nat}{xs:List Value}(hr:Row W g e size xs):Row W' g e size xs:=hr.keep (h.cells g (fun o ho=>by
  obtain ⟨cur,h1,_⟩:=hr
  rw [h1] at ho
  cases ho
  rfl))
theorem After.keeps{W0 W W':World}{S:Nat→Prop}(h:After W0.heap.size W W')(hk:Keeps S W0 W):Keeps S W0 W' :=
  ⟨h.os.trans hk.os,h.tape.trans hk.tape,h.output.trans hk.output,by rw [h.size];exact hk.size,fun k hk' hs=>(h.old k hk').trans (hk.block k hk' hs)⟩
theorem yho{F:Fence}{n:Nat}{P:Program}{fn:Func}{tmps:Array Value}{R:Ending→World→Prop}{B:Nat} : ∀ (ds:List Deferred) (W:World),ydO B ds W →
    (∀ W':World,After B W W'→LeavesIn F n P fn tmps R [] .returning W') →
    LeavesInM F n P fn tmps R ds .returning W:=by
  intro ds
  induction ds with
  | nil =>
    intro W _ h
    exact h W ⟨rfl,rfl,rfl,rfl,fun _ _=>rfl,fun _ _=>rfl⟩
  | cons d ds ih =>
    intro W hm h
    obtain ⟨hB,rs,h1,h2,h3⟩:=hm
    cases rs with
    | nil=>simp at h1
    | cons r rs =>
      simp only [List.map_cons,List.cons.injEq] at h1
      obtain ⟨rfl,rfl⟩:=h1
      have hr:=(h3 r (by simp)).2
      have hrB:=(h3 r (by simp)).1
      have hnr:=List.nodup_cons.1 h2
      refine ⟨by simp, .inl ⟨r,_,rfl,run_takeDeferred hr,?_⟩⟩
      refine ih (W.putObj r (.deferred none)) ⟨by simpa using hB,rs,rfl,hnr.2,fun q hq=>⟨(h3 q (by simp [hq])).1,?_⟩⟩ (fun W' ha=>?_)
      · rw [World.putObj_heap_other (by rintro rfl;exact hnr.1 hq)]
        exact (h3 q (by simp [hq])).2
      · refine h W' ⟨ha.os.trans rfl,ha.tape.trans rfl,ha.output.trans rfl,by rw [ha.size];simp,fun k hk=>?_,fun k hk=>?_⟩
        · have hkr:k≠r:=by rintro rfl;have:=hk _ hr;simp [Obj.isCells] at this
          rw [ha.cells k (fun o ho=>by rw [World.putObj_heap_other (by omega)] at ho;exact hk o ho),World.putObj_heap_other (by omega)]
        · rw [ha.old k hk,World.putObj_heap_other (by omega)]
theorem yes{P:Program}{f:FuncId}{fn:Func}{c:Code}{l:List Value}{w:World}{R:Ending→World→Prop}{N:Nat}(hf:P.funcs[f]? = some fn)(hb:fn.body=some c)(hN:fn.ntmps=N)(hl:l.length≤N)
    (h:WT Fence.wide 3 P N [.code c] (bodyPostM Fence.wide 3 P fn R) (lenv l) [] w):Calls P f l.toArray w R:=by
  refine (callsIn_wide (n:=3)).1 (callsIn_of_wp_marks hf hb trivial (WTa.code (h _ ⟨?_,lenv_eq l _,rfl⟩)) rfl)
  simp
  omega
section
variable {P : Program} {fn : Func} {N : Nat} {t : List Item} {R : Ending → World → Prop} {E : Env} {ds : List Deferred} {w : World} {B : Nat}
theorem wt_endm0(hM:ydO B ds w)(hr:fn.results = #[])(h:∀ w',After B w w'→R (.returned (.tuple #[])) w'):WT Fence.wide 3 P N [] (bodyPostM Fence.wide 3 P fn R) E ds w :=
  yer fun a r=>by
    have hd:=r.defers
    show LeavesInM _ _ _ _ _ _ a.defers _ _
    rw [hd]
    exact yho ds w hM fun W' ha=>⟨_,results_none hr _ _ _,h W' ha⟩
theorem wt_retm1{t1:Tmp}{v1:Value}(hM:ydO B ds w)(hr:fn.results = #[.tmp t1])(h1:E t1=v1)(h:∀ w',After B w w'→R (.returned v1) w'):WT Fence.wide 3 P N (.code .ret::t) (bodyPostM Fence.wide 3 P fn R) E ds w :=
  yd5 fun a r=>by
    have hd:=r.defers
    show LeavesInM _ _ _ _ _ _ a.defers _ _
    rw [hd]
    exact yho ds w hM fun W' ha=>⟨_,results_tmp hr _ _ _,by rw [r.get,h1];exact h W' ha⟩
end
end Go.Proofs.YtjepipbkiadcpaaGreat

/- Facts on this seat's types and functions. -/
namespace Go.Proofs.YtjepipbkiadcpaaGreat
open Go Go.RowKit Go.Shelf Go.Proofs.Tryz
theorem yab:(Tryz.prog.info? 3).map (fun i=>(i.zero,i.size,i.bytes))=some (some (Value.int .i64 0),1,8):=by kernel_rfl
theorem ybP:(Tryz.prog.info? 4).map (fun i=>(i.zero,i.size,i.bytes))=some (some (Value.bool (false)),1,1):=by kernel_rfl
theorem ydx:(Tryz.prog.info? 22).map (fun i=>(i.zero,i.size,i.bytes))=some (some (Value.slice none 0 0),1,24):=by kernel_rfl
theorem yat:(Tryz.prog.info? 24).map (fun i=>(i.zero,i.size,i.bytes))=some (some (Value.agg #[(Value.int .i64 0),(Value.slice none 0 0)]),2,32):=by kernel_rfl
theorem ycv:(Tryz.prog.info? 28).map (fun i=>(i.zero,i.size,i.bytes))=some (some (Value.slice none 0 0),1,24):=by kernel_rfl
theorem ycK:(Tryz.prog.info? 29).map (fun i=>(i.zero,i.size,i.bytes))=some (some (Value.int .i64 0),1,8):=by kernel_rfl
theorem ycf:(Tryz.prog.info? 33).map (fun i=>(i.zero,i.size,i.bytes))=some (some (Value.slice none 0 0),1,24):=by kernel_rfl
theorem yaY:(Tryz.prog.info? 34).map (fun i=>(i.zero,i.size,i.bytes))=some (some (Value.slice none 0 0),1,24):=by kernel_rfl
theorem ygp:(Tryz.prog.info? 43).map (fun i=>(i.zero,i.size,i.bytes))=some (some (Value.slice none 0 0),1,24):=by kernel_rfl
theorem yfO:(Tryz.prog.info? 56).map (fun i=>(i.zero,i.size,i.bytes))=some (some (Value.slice none 0 0),1,24):=by kernel_rfl
theorem ya0:(Tryz.prog.info? 67).map (fun i=>(i.zero,i.size,i.bytes))=some (some (Value.agg #[(Value.int .i64 0),(Value.int .i64 0),(Value.int .i64 0)]),3,24):=by kernel_rfl
theorem info_91:(Tryz.prog.info? 91).map (fun i=>(i.zero,i.size,i.bytes))=some (some (Value.slice none 0 0),1,24):=by kernel_rfl
theorem ydP:(Tryz.prog.info? 100).map (fun i=>(i.zero,i.size,i.bytes))=some (some (Value.agg #[(Value.int .i64 0),(Value.int .i64 0)]),2,16):=by kernel_rfl
theorem info_126:(Tryz.prog.info? 126).map (fun i=>(i.zero,i.size,i.bytes))=some (some Value.nilFunc,1,8):=by kernel_rfl
theorem yc0:(Tryz.prog.info? 148).map (fun i=>(i.zero,i.size,i.bytes))=some (some (Value.agg #[(Value.int .i64 0),(Value.int .i64 0)]),2,16):=by kernel_rfl
theorem yh3:(Tryz.prog.info? 168).map (fun i=>(i.zero,i.size,i.bytes))=some (some (Value.slice none 0 0),1,24):=by kernel_rfl
theorem yhY:(Tryz.prog.info? 194).map (fun i=>(i.zero,i.size,i.bytes))=some (some (Value.agg #[(Value.int .i64 0),(Value.int .i64 0),(Value.int .i64 0),(Value.int .i64 0),(Value.int .i64 0),(Value.int .i64 0),(Value.int .i64 0),(Value.int .i64 0),(Value.int .i64 0),(Value.int .i64 0),(Value.int .i64 0),(Value.int .i64 0)]),12,96):=by kernel_rfl
theorem yej:(Tryz.prog.info? 195).map (fun i=>(i.zero,i.size,i.bytes))=some (some (Value.agg #[(Value.int .i64 0),(Value.int .i64 0),(Value.int .i64 0),(Value.int .i64 0),(Value.int .i64 0),(Value.int .i64 0),(Value.int .i64 0),(Value.int .i64 0),(Value.int .i64 0),(Value.int .i64 0),(Value.int .i64 0),(Value.int .i64 0)]),12,96):=by kernel_rfl
theorem info_197:(Tryz.prog.info? 197).map (fun i=>(i.zero,i.size,i.bytes))=some (some (Value.map none),1,8):=by kernel_rfl
theorem yfm:(Tryz.prog.info? 236).map (fun i=>(i.zero,i.size,i.bytes))=some (some (Value.agg #[(Value.bool (false)),(Value.bool (false)),(Value.bool (false)),(Value.bool (false)),(Value.bool (false)),(Value.bool (false)),(Value.bool (false)),(Value.bool (false)),(Value.bool (false)),(Value.bool (false)),(Value.bool (false)),(Value.bool (false))]),12,12):=by kernel_rfl
theorem yf2:(Tryz.prog.info? 238).map (fun i=>(i.zero,i.size,i.bytes))=some (some (Value.agg #[(Value.slice none 0 0),(Value.int .i64 0),(Value.slice none 0 0),(Value.slice none 0 0),(Value.slice none 0 0),(Value.int .i64 0),(Value.bool (false)),(Value.bool (false)),(Value.bool (false)),(Value.bool (false)),(Value.bool (false)),(Value.bool (false)),(Value.bool (false)),(Value.bool (false)),(Value.bool (false)),(Value.bool (false)),(Value.bool (false)),(Value.bool (false))]),18,128):=by kernel_rfl
theorem enter_5:Enters Tryz.prog 5:=enters_of func5 (by kernel_rfl) rfl
theorem enter_6:Enters Tryz.prog 6:=enters_of func6 (by kernel_rfl) rfl
theorem enter_7:Enters Tryz.prog 7:=enters_of func7 (by kernel_rfl) rfl
theorem enter_8:Enters Tryz.prog 8:=enters_of func8 (by kernel_rfl) rfl
theorem enter_9:Enters Tryz.prog 9:=enters_of func9 (by kernel_rfl) rfl
theorem enter_10:Enters Tryz.prog 10:=enters_of func10 (by kernel_rfl) rfl
theorem enter_11:Enters Tryz.prog 11:=enters_of func11 (by kernel_rfl) rfl
theorem enter_12:Enters Tryz.prog 12:=enters_of func12 (by kernel_rfl) rfl
theorem enter_13:Enters Tryz.prog 13:=enters_of func13 (by kernel_rfl) rfl
theorem enter_14:Enters Tryz.prog 14:=enters_of func14 (by kernel_rfl) rfl
theorem enter_25:Enters Tryz.prog 25:=enters_of func25 (by kernel_rfl) rfl
theorem enter_26:Enters Tryz.prog 26:=enters_of func26 (by kernel_rfl) rfl
theorem enter_27:Enters Tryz.prog 27:=enters_of func27 (by kernel_rfl) rfl
theorem yhP:Enters Tryz.prog 28:=enters_of func28 (by kernel_rfl) rfl
theorem enter_29:Enters Tryz.prog 29:=enters_of func29 (by kernel_rfl) rfl
theorem enter_30:Enters Tryz.prog 30:=enters_of func30 (by kernel_rfl) rfl
theorem enter_31:Enters Tryz.prog 31:=enters_of func31 (by kernel_rfl) rfl
theorem enter_32:Enters Tryz.prog 32:=enters_of func32 (by kernel_rfl) rfl
theorem yf6:Enters Tryz.prog 33:=enters_of func33 (by kernel_rfl) rfl
theorem enter_34:Enters Tryz.prog 34:=enters_of func34 (by kernel_rfl) rfl
theorem enter_35:Enters Tryz.prog 35:=enters_of func35 (by kernel_rfl) rfl
theorem enter_37:Enters Tryz.prog 37:=enters_of func37 (by kernel_rfl) rfl
theorem enter_38:Enters Tryz.prog 38:=enters_of func38 (by kernel_rfl) rfl
theorem enter_39:Enters Tryz.prog 39:=enters_of func39 (by kernel_rfl) rfl
theorem enter_40:Enters Tryz.prog 40:=enters_of func40 (by kernel_rfl) rfl
theorem enter_41:Enters Tryz.prog 41:=enters_of func41 (by kernel_rfl) rfl
theorem enter_50:Enters Tryz.prog 50:=enters_of func50 (by kernel_rfl) rfl
theorem ygI:Enters Tryz.prog 51:=enters_of func51 (by kernel_rfl) rfl
theorem enter_62:Enters Tryz.prog 62:=enters_of func62 (by kernel_rfl) rfl
theorem enter_63:Enters Tryz.prog 63:=enters_of func63 (by kernel_rfl) rfl
theorem enter_64:Enters Tryz.prog 64:=enters_of func64 (by kernel_rfl) rfl
theorem enter_65:Enters Tryz.prog 65:=enters_of func65 (by kernel_rfl) rfl
theorem enter_66:Enters Tryz.prog 66:=enters_of func66 (by kernel_rfl) rfl
theorem enter_67:Enters Tryz.prog 67:=enters_of func67 (by kernel_rfl) rfl
theorem enter_68:Enters Tryz.prog 68:=enters_of func68 (by kernel_rfl) rfl
theorem enter_69:Enters Tryz.prog 69:=enters_of func69 (by kernel_rfl) rfl
theorem enter_70:Enters Tryz.prog 70:=enters_of func70 (by kernel_rfl) rfl
theorem enter_71:Enters Tryz.prog 71:=enters_of func71 (by kernel_rfl) rfl
theorem enter_72:Enters Tryz.prog 72:=enters_of func72 (by kernel_rfl) rfl
theorem enter_73:Enters Tryz.prog 73:=enters_of func73 (by kernel_rfl) rfl
theorem enter_74:Enters Tryz.prog 74:=enters_of func74 (by kernel_rfl) rfl
theorem enter_75:Enters Tryz.prog 75:=enters_of func75 (by kernel_rfl) rfl
theorem ygE:Enters Tryz.prog 76:=enters_of func76 (by kernel_rfl) rfl
theorem enter_77:Enters Tryz.prog 77:=enters_of func77 (by kernel_rfl) rfl
theorem enter_80:Enters Tryz.prog 80:=enters_of func80 (by kernel_rfl) rfl
theorem enter_81:Enters Tryz.prog 81:=enters_of func81 (by kernel_rfl) rfl
theorem enter_82:Enters Tryz.prog 82:=enters_of func82 (by kernel_rfl) rfl
theorem enter_83:Enters Tryz.prog 83:=enters_of func83 (by kernel_rfl) rfl
theorem enter_84:Enters Tryz.prog 84:=enters_of func84 (by kernel_rfl) rfl
theorem enter_85:Enters Tryz.prog 85:=enters_of func85 (by kernel_rfl) rfl
theorem enter_88:Enters Tryz.prog 88:=enters_of func88 (by kernel_rfl) rfl
theorem enter_90:Enters Tryz.prog 90:=enters_of func90 (by kernel_rfl) rfl
theorem enter_93:Enters Tryz.prog 93:=enters_of func93 (by kernel_rfl) rfl
theorem enter_94:Enters Tryz.prog 94:=enters_of func94 (by kernel_rfl) rfl
theorem enter_106:Enters Tryz.prog 106:=enters_of func106 (by kernel_rfl) rfl
theorem enter_107:Enters Tryz.prog 107:=enters_of func107 (by kernel_rfl) rfl
theorem enter_108:Enters Tryz.prog 108:=enters_of func108 (by kernel_rfl) rfl
theorem enter_109:Enters Tryz.prog 109:=enters_of func109 (by kernel_rfl) rfl
theorem enter_110:Enters Tryz.prog 110:=enters_of func110 (by kernel_rfl) rfl
theorem enter_111:Enters Tryz.prog 111:=enters_of func111 (by kernel_rfl) rfl
theorem enter_112:Enters Tryz.prog 112:=enters_of func112 (by kernel_rfl) rfl
theorem enter_113:Enters Tryz.prog 113:=enters_of func113 (by kernel_rfl) rfl
theorem enter_114:Enters Tryz.prog 114:=enters_of func114 (by kernel_rfl) rfl
theorem enter_115:Enters Tryz.prog 115:=enters_of func115 (by kernel_rfl) rfl
theorem enter_117:Enters Tryz.prog 117:=enters_of func117 (by kernel_rfl) rfl
theorem enter_118:Enters Tryz.prog 118:=enters_of func118 (by kernel_rfl) rfl
theorem yil:Enters Tryz.prog 119:=enters_of func119 (by kernel_rfl) rfl
theorem enter_120:Enters Tryz.prog 120:=enters_of func120 (by kernel_rfl) rfl
theorem enter_131:Enters Tryz.prog 131:=enters_of func131 (by kernel_rfl) rfl
theorem enter_132:Enters Tryz.prog 132:=enters_of func132 (by kernel_rfl) rfl
theorem enter_133:Enters Tryz.prog 133:=enters_of func133 (by kernel_rfl) rfl
theorem enter_134:Enters Tryz.prog 134:=enters_of func134 (by kernel_rfl) rfl
theorem enter_135:Enters Tryz.prog 135:=enters_of func135 (by kernel_rfl) rfl
theorem enter_136:Enters Tryz.prog 136:=enters_of func136 (by kernel_rfl) rfl
theorem enter_140:Enters Tryz.prog 140:=enters_of func140 (by kernel_rfl) rfl
theorem enter_144:Enters Tryz.prog 144:=enters_of func144 (by kernel_rfl) rfl
theorem enter_145:Enters Tryz.prog 145:=enters_of func145 (by kernel_rfl) rfl
theorem enter_146:Enters Tryz.prog 146:=enters_of func146 (by kernel_rfl) rfl
theorem enter_164:Enters Tryz.prog 164:=enters_of func164 (by kernel_rfl) rfl
theorem enter_165:Enters Tryz.prog 165:=enters_of func165 (by kernel_rfl) rfl
theorem enter_166:Enters Tryz.prog 166:=enters_of func166 (by kernel_rfl) rfl
theorem enter_168:Enters Tryz.prog 168:=enters_of func168 (by kernel_rfl) rfl
theorem enter_171:Enters Tryz.prog 171:=enters_of func171 (by kernel_rfl) rfl
theorem enter_172:Enters Tryz.prog 172:=enters_of func172 (by kernel_rfl) rfl
theorem enter_178:Enters Tryz.prog 178:=enters_of func178 (by kernel_rfl) rfl
theorem enter_179:Enters Tryz.prog 179:=enters_of func179 (by kernel_rfl) rfl
theorem enter_180:Enters Tryz.prog 180:=enters_of func180 (by kernel_rfl) rfl
theorem enter_181:Enters Tryz.prog 181:=enters_of func181 (by kernel_rfl) rfl
theorem enter_182:Enters Tryz.prog 182:=enters_of func182 (by kernel_rfl) rfl
theorem enter_191:Enters Tryz.prog 191:=enters_of func191 (by kernel_rfl) rfl
theorem enter_195:Enters Tryz.prog 195:=enters_of func195 (by kernel_rfl) rfl
theorem enter_203:Enters Tryz.prog 203:=enters_of func203 (by kernel_rfl) rfl
theorem enter_204:Enters Tryz.prog 204:=enters_of func204 (by kernel_rfl) rfl
theorem enter_208:Enters Tryz.prog 208:=enters_of func208 (by kernel_rfl) rfl
theorem enter_214:Enters Tryz.prog 214:=enters_of func214 (by kernel_rfl) rfl
theorem enter_215:Enters Tryz.prog 215:=enters_of func215 (by kernel_rfl) rfl
theorem enter_216:Enters Tryz.prog 216:=enters_of func216 (by kernel_rfl) rfl
theorem enter_217:Enters Tryz.prog 217:=enters_of func217 (by kernel_rfl) rfl
theorem enter_218:Enters Tryz.prog 218:=enters_of func218 (by kernel_rfl) rfl
theorem enter_222:Enters Tryz.prog 222:=enters_of func222 (by kernel_rfl) rfl
theorem enter_223:Enters Tryz.prog 223:=enters_of func223 (by kernel_rfl) rfl
theorem enter_224:Enters Tryz.prog 224:=enters_of func224 (by kernel_rfl) rfl
end Go.Proofs.YtjepipbkiadcpaaGreat

/- Memory kept out of sight: what a walk reads and owns, each thing by its number; one fact about the world says that all of them are there, apart from each other. No program in sight. -/
namespace Go.Proofs.YtjepipbkiadcpaaGreat
open Go Go.RowKit Go.Shelf Go.Proofs.Tryz
def no:Nat→Prop:=fun _=>False
theorem yaN(n:Nat):∀ k,no k→k<n:=fun _ h=>h.elim
structure Cod(τ:Type) where
  sz:Nat
  R:(Nat→Prop)→World→List Value→τ→Prop
  len:∀ {O w vs x},R O w vs x→vs.length=sz
  one:∀ {O w vs x},R O w vs x→∀ u∈vs,u.oneCell'=true
  keep:∀ {O w w' vs x},R O w vs x→Keeps O w w'→R O w' vs x
  sub:∀ {O O' w vs x},R O w vs x→(∀ k,k<w.heap.size→O' k→O k)→R O' w vs x
structure Fl(τ:Type) where
  sz:Nat
  enc:τ→List Value
  len:∀ x,(enc x).length=sz
  one:∀ x,∀ u∈enc x,u.oneCell'=true
def Fl.cod{τ:Type}(f:Fl τ):Cod τ where
  sz:=f.sz
  R:=fun _ _ vs x=>vs=f.enc x
  len:=fun h=>by rw [h,f.len]
  one:=fun h=>by rw [h];exact f.one _
  keep:=fun h _=>h
  sub:=fun h _=>h
def fI(k:IntKind):Fl Int:=⟨1,fun x=>[.int k x],fun _=>rfl,fun x u hu=>by rw [List.mem_singleton] at hu;subst hu;rfl⟩
def fB:Fl Bool:=⟨1,fun x=>[.bool x],fun _=>rfl,fun x u hu=>by rw [List.mem_singleton] at hu;subst hu;rfl⟩
def fP{α β:Type}(a:Fl α)(b:Fl β):Fl (α×β):=⟨a.sz+b.sz,fun x=>a.enc x.1++b.enc x.2,fun x=>by rw [List.length_append,a.len,b.len],fun x u hu=>by
  rcases List.mem_append.1 hu with h | h
  · exact a.one _ u h
  · exact b.one _ u h⟩
def cI:Cod Int:=(fI .i64).cod
def cB:Cod Bool:=fB.cod
def c2:Cod (Int×Int):=(fP (fI .i64) (fI .i64)).cod
def c3:Cod (Int×Int×Int):=(fP (fI .i64) (fP (fI .i64) (fI .i64))).cod
def Sl{τ:Type}(c:Cod τ)(O:Nat→Prop)(w:World)(A:Option Addr)(xs:List τ):Prop :=
  0<xs.length→∃ b off,A=some ⟨b,off,none⟩∧b<w.heap.size∧¬O b∧∀ (k:Nat) x,xs[k]? = some x→∃ vs,c.R O w vs x∧∀ (j:Nat) u,vs[j]? = some u→w.cell? ⟨b,off+k*c.sz+j,none⟩=some u
section
variable {τ : Type} {c : Cod τ} {O O' : Nat → Prop} {w w' : World} {A : Option Addr} {xs : List τ}
theorem Sl.nil(c:Cod τ)(O:Nat→Prop)(w:World)(A:Option Addr):Sl c O w A []:=fun h=>absurd h (by simp)
theorem Sl.keep(h:Sl c O w A xs)(hk:Keeps O w w'):Sl c O w' A xs:=fun hl=>by
  obtain ⟨b,off,e,hb,ho,hc⟩:=h hl
  refine ⟨b,off,e,Nat.lt_of_lt_of_le hb hk.size,ho,fun k x hx=>?_⟩
  obtain ⟨vs,h1,h2⟩:=hc k x hx
  exact ⟨vs,c.keep h1 hk,fun j u hj=>hk.cell ho (h2 j u hj)⟩
theorem Sl.sub(h:Sl c O w A xs)(hs:∀ k,k<w.heap.size→O' k→O k):Sl c O' w A xs:=fun hl=>by
  obtain ⟨b,off,e,hb,ho,hc⟩:=h hl
  refine ⟨b,off,e,hb,fun hb'=>ho (hs b hb hb'),fun k x hx=>?_⟩
  obtain ⟨vs,h1,h2⟩:=hc k x hx
  exact ⟨vs,c.sub h1 hs,h2⟩
end
def cL{τ:Type}(c:Cod τ):Cod (List τ) where
  sz:=1
  R:=fun O w vs xs=>∃ A l cap,vs=[.slice A l cap]∧l=xs.length∧l≤cap∧Sl c O w A xs
  len:=fun ⟨_,_,_,h,_⟩=>by rw [h];rfl
  one:=fun ⟨_,_,_,h,_⟩ u hu=>by rw [h,List.mem_singleton] at hu;subst hu;rfl
  keep:=fun ⟨A,l,cap,h,h1,h2,h3⟩ hk=>⟨A,l,cap,h,h1,h2,h3.keep hk⟩
  sub:=fun ⟨A,l,cap,h,h1,h2,h3⟩ hs=>⟨A,l,cap,h,h1,h2,h3.sub hs⟩
structure FP where
  P:(Nat→Prop)→World→Prop
  keep:∀ {O w w'},P O w→Keeps O w w'→P O w'
  sub:∀ {O O' w},P O w→(∀ k,k<w.heap.size→O' k→O k)→P O' w
def FP.sl{τ:Type}(c:Cod τ)(A:Option Addr)(l cap:Nat)(xs:List τ):FP :=
  ⟨fun O w=>l=xs.length∧l≤cap∧Sl c O w A xs,fun ⟨h1,h2,h3⟩ hk=>⟨h1,h2,h3.keep hk⟩,fun ⟨h1,h2,h3⟩ hs=>⟨h1,h2,h3.sub hs⟩⟩
def FP.bx(e:TypeId)(g:Nat)(cells:List Value):FP :=
  ⟨fun O w=>¬O g∧Row w g e cells.length cells,fun ⟨h1,h2⟩ hk=>⟨h1,h2.keep (hk.block _ h2.lt h1)⟩,fun ⟨h1,h2⟩ hs=>⟨fun h=>h1 (hs _ h2.lt h),h2⟩⟩
def FP.cl(p:Addr)(v:Value):FP :=
  ⟨fun O w=>¬O p.block∧w.cell? p=some v,fun ⟨h1,h2⟩ hk=>⟨h1,hk.cell h1 h2⟩,fun ⟨h1,h2⟩ hs=>⟨fun h=>h1 (hs _ (by
    rcases Nat.lt_or_ge p.block _ with h1 | h1
    · exact h1
    · rw [World.cell?,Array.getElem?_eq_none h1] at h2;cases h2) h),h2⟩⟩
def OwnC{τ:Type}(c:Cod τ)(B:Nat)(O:Nat→Prop)(w:World)(e:TypeId)(A:Option Addr)(l cap:Nat)(xs:List τ):Prop :=
  l=xs.length∧∃ cells,OwnS w B e c.sz A l cap cells∧∀ (k:Nat) x,xs[k]? = some x→∃ vs,c.R O w vs x∧∀ (j:Nat) u,vs[j]? = some u→cells[k*c.sz+j]? = some u
theorem OwnS.cellAt{w:World}{B:Nat}{e:TypeId}{sz:Nat}{A:Option Addr}{l c:Nat}{xs:List Value}(h:OwnS w B e sz A l c xs){i:Nat}{u:Value}(hu:xs[i]? = some u):∃ g o,A=some ⟨g,o,none⟩∧g<w.heap.size∧w.cell? ⟨g,o+i,none⟩=some u∧w.frozen? ⟨g,o+i,none⟩=false:=by
  rcases h.2 with ⟨rfl,rfl,rfl⟩ | ⟨g,o,cur,rfl,hb,hg,h1,h2,h3,h4⟩
  · have:=h.1
    simp at this
    subst this
    simp at hu
  · refine ⟨g,o,rfl,(Array.getElem?_eq_some_iff.1 hg).1,?_,by simp [World.frozen?,hg]⟩
    have hi:i<l*sz:=by
      rcases Nat.lt_or_ge i xs.length with q | q
      · rw [←h.1];exact q
      · rw [List.getElem?_eq_none q] at hu;cases hu
    rw [←h4,List.getElem?_take,if_pos hi,List.getElem?_drop] at hu
    rw [cell_of_row w g (o+i) cur e (0,0) hg]
    simpa using hu
theorem OwnS.set1{w:World}{B:Nat}{e:TypeId}{sz:Nat}{A:Option Addr}{l c:Nat}{xs:List Value}(h:OwnS w B e sz A l c xs){i:Nat}(hi:i<xs.length)(v:Value){g o:Nat}(hA:A=some ⟨g,o,none⟩):OwnS (w.setCell ⟨g,o+i,none⟩ v) B e sz A l c (xs.set i v):=by
  refine ⟨by rw [List.length_set];exact h.1,?_⟩
  rcases h.2 with ⟨rfl,rfl,rfl⟩ | ⟨g',o',cur,rfl,hb,hg,h1,h2,h3,h4⟩
  · cases hA
  · cases hA
    refine .inr ⟨g,o,cur.setIfInBounds (o+i) v,rfl,hb,?_,h1,h2,by simpa using h3,?_⟩
    · simp [World.setCell,Array.getElem?_modify,hg]
    · have hi':i<l*sz:=by rw [←h.1];exact hi
      rw [Array.toList_setIfInBounds,←h4,List.drop_set,if_neg (by omega),Nat.add_sub_cancel_left,List.take_set]
theorem OwnS.at_ {w:World}{B:Nat}{e:TypeId}{sz:Nat}{A:Option Addr}{l c:Nat}{xs:List Value}(h:OwnS w B e sz A l c xs){k:Nat}(hk:A.map (·.block)=some k):B≤k∧k<w.heap.size:=by
  rcases h.2 with ⟨rfl,rfl,rfl⟩ | ⟨g,o,cur,rfl,hb,hg,_⟩
  · cases hk
  · simp at hk;subst hk;exact ⟨hb,(Array.getElem?_eq_some_iff.1 hg).1⟩
theorem OwnS.keep_ {w w':World}{B:Nat}{e:TypeId}{sz:Nat}{A:Option Addr}{l c:Nat}{xs:List Value}(h:OwnS w B e sz A l c xs)(hk:∀ k,A.map (·.block)=some k→w'.heap[k]? = w.heap[k]?):OwnS w' B e sz A l c xs:=by
  refine ⟨h.1,?_⟩
  rcases h.2 with q | ⟨g,o,cur,rfl,hb,hg,q⟩
  · exact .inl q
  · exact .inr ⟨g,o,cur,rfl,hb,(hk g rfl).trans hg,q⟩
theorem OwnS.base{w:World}{B B':Nat}{e:TypeId}{sz:Nat}{A:Option Addr}{l c:Nat}{xs:List Value}(h:OwnS w B e sz A l c xs)(hB:B'≤B):OwnS w B' e sz A l c xs:=by
  refine ⟨h.1,?_⟩
  rcases h.2 with q | ⟨g,o,cur,rfl,hb,hg,q⟩
  · exact .inl q
  · exact .inr ⟨g,o,cur,rfl,Nat.le_trans hB hb,hg,q⟩
theorem OwnS.caps{w:World}{B:Nat}{e:TypeId}{sz:Nat}{A:Option Addr}{l c:Nat}{xs:List Value}(h:OwnS w B e sz A l c xs):l≤c:=by
  rcases h.2 with ⟨rfl,rfl,rfl⟩ | ⟨g,o,cur,rfl,hb,hg,q,_⟩
  · exact Nat.le_refl _
  · exact q
section
variable {τ : Type} {c : Cod τ} {B : Nat} {O O' : Nat → Prop} {w w' : World} {e : TypeId} {A : Option Addr} {l cap : Nat} {xs : List τ}
theorem OwnC.nil(c:Cod τ)(B:Nat)(O:Nat→Prop)(w:World)(e:TypeId):OwnC c B O w e none 0 0 []:=⟨rfl,[],OwnS.nil w B e c.sz,fun k x h=>by simp at h⟩
theorem OwnC.rd(h:OwnC c B O w e A l cap xs)(hs:∀ k,k<w.heap.size→O' k→O k)(hA:∀ k,A.map (·.block)=some k→¬O' k):(FP.sl c A l cap xs).P O' w:=by
  obtain ⟨hl,cells,ho,hc⟩:=h
  refine ⟨hl,ho.caps,fun h0=>?_⟩
  rcases ho.2 with ⟨rfl,rfl,rfl⟩ | ⟨g,o,cur,rfl,hb,hg,q⟩
  · omega
  · refine ⟨g,o,rfl,(Array.getElem?_eq_some_iff.1 hg).1,hA g rfl,fun k x hx=>?_⟩
    obtain ⟨vs,h1,h2⟩:=hc k x hx
    refine ⟨vs,c.sub h1 hs,fun j u hj=>?_⟩
    obtain ⟨g',o',e',_,hcell,_⟩:=ho.cellAt (h2 j u hj)
    cases e'
    rw [Nat.add_assoc];exact hcell
end
inductive Res:Type 1
  | own {τ:Type} (c:Cod τ) (e:TypeId) (A:Option Addr) (l cap:Nat) (xs:List τ)
  | box (e:TypeId) (g:Nat) (cells:List Value)
  | ro (Φ:FP)
  | obj (g:Nat) (o:Obj)
  | rows (e:TypeId) (G:List Nat) (T:List (List Int))
  | objs (G:List Nat) (o:Obj)
  | gone
@[reducible] def Res.has : Res → Nat → Prop
  | .rows _ G _,k=>k∈G
  | .objs G _,k=>k∈G
  | .own _ _ A _ _ _,k=>A.map (·.block)=some k
  | .box _ g _,k=>some g=some k
  | .obj g _,k=>some g=some k
  | .ro _,k=>(none:Option Nat)=some k
  | .gone,k=>(none:Option Nat)=some k
@[reducible] def Res.free : Res → Prop
  | .rows _ G _=>G=[]
  | .objs G _=>G=[]
  | .own _ _ A _ _ _=>A.map (·.block)=none
  | .box _ g _=>some g=none
  | .obj g _=>some g=none
  | .ro _=>(none:Option Nat)=none
  | .gone=>(none:Option Nat)=none
theorem Res.free.out{r:Res}(h:r.free)(k:Nat):¬r.has k:=fun hk=>by
  cases r with
  | rows e G T=>have h:G=[]:=h;subst h;cases hk
  | objs G o=>have h:G=[]:=h;subst h;cases hk
  | own c e A l cap xs=>have h:A.map (·.block)=none:=h;have hk:A.map (·.block)=some k:=hk;rw [h] at hk;cases hk
  | box e g cells=>cases h
  | obj g o=>cases h
  | ro Φ=>cases hk
  | gone=>cases hk
def Res.ok(B:Nat)(O:Nat→Prop)(w:World):Res→Prop
  | .own c e A l cap xs=>OwnC c B O w e A l cap xs
  | .box e g cells=>B≤g∧Row w g e cells.length cells
  | .ro Φ=>Φ.P O w
  | .obj g o=>B≤g∧w.heap[g]? = some o
  | .rows e G T=>G.Nodup∧G.length=T.length∧∀ (k g:Nat) (xs:List Int),G[k]? = some g→T[k]? = some xs→OwnC cI B O w e (some ⟨g,0,none⟩) xs.length xs.length xs
  | .objs G o=>G.Nodup∧∀ g∈G,B≤g∧w.heap[g]? = some o
  | .gone=>True
abbrev Hold:=Nat→Res
def Bl(O:Nat→Prop)(L:Hold)(k:Nat):Prop:=O k∨∃ i,(L i).has k
def stl(L:Hold)(i:Nat)(r:Res):Hold:=fun j=>bif Nat.beq j i then r else L j
def rl:List Res→Hold
  | [],_ => .gone
  | r::_,0=>r
  | _::t,n+1=>rl t n
theorem yaF(L:Hold)(i:Nat)(r:Res):stl L i r i=r:=by simp [stl]
theorem yas(L:Hold){i j:Nat}(r:Res)(h:j≠i):stl L i r j=L j:=by
  unfold stl
  cases hq:Nat.beq j i with
  | false=>rfl
  | true=>exact absurd (Nat.eq_of_beq_eq_true hq) h
theorem Res.ok.lt{B:Nat}{O:Nat→Prop}{w:World}{r:Res}(h:r.ok B O w){k:Nat}(hk:r.has k):B≤k∧k<w.heap.size:=by
  cases r with
  | own c e A l cap xs=>obtain ⟨_,cells,ho,_⟩:=h;exact ho.at_ hk
  | box e g cells=>cases hk;exact ⟨h.1,h.2.lt⟩
  | obj g o=>cases hk;exact ⟨h.1,(Array.getElem?_eq_some_iff.1 h.2).1⟩
  | rows e G T =>
    obtain ⟨j,hj⟩:=List.getElem?_of_mem (show k∈G from hk)
    have hlt:j<T.length:=by rw [←h.2.1];exact (List.getElem?_eq_some_iff.1 hj).1
    obtain ⟨_,cells,ho,_⟩:=h.2.2 j k _ hj (List.getElem?_eq_getElem hlt)
    exact ho.at_ rfl
  | objs G o=>have h2:=h.2 k hk;exact ⟨h2.1,(Array.getElem?_eq_some_iff.1 h2.2).1⟩
  | ro Φ=>cases hk
  | gone=>cases hk
theorem Res.ok.base{B B':Nat}{O:Nat→Prop}{w:World}{r:Res}(h:r.ok B O w)(hB:B'≤B):r.ok B' O w:=by
  cases r with
  | own c e A l cap xs=>obtain ⟨hl,cells,ho,hc⟩:=h;exact ⟨hl,cells,ho.base hB,hc⟩
  | box e g cells=>exact ⟨Nat.le_trans hB h.1,h.2⟩
  | obj g o=>exact ⟨Nat.le_trans hB h.1,h.2⟩
  | rows e G T=>exact ⟨h.1,h.2.1,fun k g xs hg hx=>by obtain ⟨hl,cells,ho,hc⟩:=h.2.2 k g xs hg hx;exact ⟨hl,cells,ho.base hB,hc⟩⟩
  | objs G o=>exact ⟨h.1,fun g hg=>⟨Nat.le_trans hB (h.2 g hg).1,(h.2 g hg).2⟩⟩
  | ro Φ=>exact h
  | gone=>trivial
theorem Res.ok.keep{B:Nat}{O O' S:Nat→Prop}{w w':World}{r:Res}(h:r.ok B O w)(hK:Keeps S w w')(hb:∀ k,r.has k→¬S k)(hS:∀ k,k<w.heap.size→S k→O k)(hO:∀ k,k<w.heap.size→O' k→O k):r.ok B O' w':=by
  have hK2:Keeps (fun k=>O' k∨S k) w w':=hK.mono fun k _ h => .inr h
  have hsub:∀ k,k<w.heap.size→(O' k∨S k)→O k:=fun k hk h=>h.elim (hO k hk) (hS k hk)
  cases r with
  | own c e A l cap xs =>
    obtain ⟨hl,cells,ho,hc⟩:=h
    refine ⟨hl,cells,ho.keep_ fun k hk=>hK.block k (ho.at_ hk).2 (hb k hk),fun k x hx=>?_⟩
    obtain ⟨vs,h1,h2⟩:=hc k x hx
    exact ⟨vs,c.sub (c.keep (c.sub h1 hsub) hK2) fun k _ h => .inl h,h2⟩
  | box e g cells=>exact ⟨h.1,h.2.keep (hK.block g h.2.lt (hb g rfl))⟩
  | obj g o=>exact ⟨h.1,(hK.block g (Array.getElem?_eq_some_iff.1 h.2).1 (hb g rfl)).trans h.2⟩
  | objs G o=>exact ⟨h.1,fun g hg=>⟨(h.2 g hg).1,(hK.block g (Array.getElem?_eq_some_iff.1 (h.2 g hg).2).1 (hb g hg)).trans (h.2 g hg).2⟩⟩
  | rows e G T =>
    refine ⟨h.1,h.2.1,fun k g xs hg hx=>?_⟩
    obtain ⟨hl,cells,ho,hc⟩:=h.2.2 k g xs hg hx
    refine ⟨hl,cells,ho.keep_ fun k' hk=>?_,fun k x hx=>?_⟩
    · cases hk
      exact hK.block g (ho.at_ rfl).2 (hb g (List.mem_of_getElem? hg))
    · obtain ⟨vs,h1,h2⟩:=hc k x hx
      exact ⟨vs,cI.sub (cI.keep (cI.sub h1 hsub) hK2) fun k _ h => .inl h,h2⟩
  | ro Φ=>exact Φ.sub (Φ.keep (Φ.sub h hsub) hK2) fun k _ h => .inl h
  | gone=>trivial
structure Sep(w0:World)(S O:Nat→Prop)(w:World)(L:Hold):Prop where
  pure:Keeps S w0 w
  lt:∀ k,O k→k<w0.heap.size∧¬S k
  ok:∀ i,(L i).ok 0 (Bl O L) w
  bd:∀ i k,(L i).has k→w0.heap.size≤k∨S k
  nd:∀ i j k,(L i).has k→(L j).has k→i=j
section
variable {w0 w w' : World} {S O : Nat → Prop} {L L' : Hold}
theorem Sep.start(w:World)(hO:∀ k,O k→k<w.heap.size):Sep w no O w (rl []):=⟨Keeps.refl _ _,fun k hk=>⟨hO k hk,id⟩,fun i=>by cases i <;> trivial,fun i k h=>(by cases i <;> cases h),fun i j k h=>by cases i <;> cases h⟩
theorem Sep.blt(h:Sep w0 S O w L):∀ k,Bl O L k→k<w.heap.size:=fun k hk=>by
  rcases hk with hk | ⟨i,hi⟩
  · exact Nat.lt_of_lt_of_le (h.lt k hk).1 h.pure.size
  · exact ((h.ok i).lt hi).2
theorem Sep.step(h:Sep w0 S O w L){T:Nat→Prop}(hK:Keeps T w w')(hS:∀ k,k<w.heap.size→T k→∃ i,(L i).has k)
    (hb:∀ j k,(L' j).has k→(∃ i,(L i).has k)∨w.heap.size≤k) (hok:∀ j,(∃ i,L' j=L i∧∀ k,(L i).has k→¬T k)∨(L' j).ok 0 (Bl O L') w')
    (nd:∀ i j k,(L' i).has k→(L' j).has k→i=j):Sep w0 S O w' L':=by
  refine ⟨⟨hK.os.trans h.pure.os,hK.tape.trans h.pure.tape,hK.output.trans h.pure.output,Nat.le_trans h.pure.size hK.size,fun k hk hn=>?_⟩,h.lt,fun j=>?_,fun j k hk=>?_,nd⟩
  · have hk2:=Nat.lt_of_lt_of_le hk h.pure.size
    refine (hK.block k hk2 fun hs=>?_).trans (h.pure.block k hk hn)
    obtain ⟨i,hi⟩:=hS k hk2 hs
    rcases h.bd i k hi with q | q
    · omega
    · exact hn q
  · rcases hok j with ⟨i,e,hi⟩ | hj
    · rw [e]
      refine (h.ok i).keep hK hi (fun k hk hs => .inr (hS k hk hs)) fun k hk hO=>?_
      rcases hO with hO | ⟨j',hj'⟩
      · exact .inl hO
      · rcases hb j' k hj' with q | q
        · exact .inr q
        · omega
    · exact hj
  · rcases hb j k hk with ⟨i,q⟩ | q
    · exact h.bd i k q
    · exact .inl (Nat.le_trans h.pure.size q)
theorem Sep.pur(h:Sep w0 S O w L)(hK:Pure w w'):Sep w0 S O w' L :=
  h.step (T:=no) hK (fun _ _ h=>h.elim) (fun j k hk => .inl ⟨j,hk⟩) (fun j => .inl ⟨j,rfl,fun _ _=>id⟩) h.nd
theorem Sep.drew(h:Sep w0 S O w L):Sep w0 S O w.drew L:=h.pur (Keeps.refl _ _).drew
theorem Sep.upd(h:Sep w0 S O w L)(i:Nat)(r':Res){T:Nat→Prop}(hK:Keeps T w w')(hS:∀ k,k<w.heap.size→T k→(L i).has k)(hb:∀ k,r'.has k→(L i).has k∨w.heap.size≤k)
    (hok:r'.ok 0 (Bl O (stl L i r')) w'):Sep w0 S O w' (stl L i r'):=by
  refine h.step hK (fun k hk hs=>⟨i,hS k hk hs⟩) (fun j k hk=>?_) (fun j=>?_) (fun a b k ha hb'=>?_)
  · by_cases e:j=i
    · subst e
      rw [yaF] at hk
      rcases hb k hk with q | q
      · exact .inl ⟨j,q⟩
      · exact .inr q
    · rw [yas _ _ e] at hk;exact .inl ⟨j,hk⟩
  · by_cases e:j=i
    · subst e;rw [yaF];exact .inr hok
    · rw [yas _ _ e]
      refine .inl ⟨j,rfl,fun k hk hs=>?_⟩
      have:=hS k ((h.ok j).lt hk).2 hs
      exact e (h.nd j i k hk this)
  · have key:∀ a b,a≠i→b=i→(stl L i r' a).has k→(stl L i r' b).has k→False:=fun a b h1 h2 ha hb'=>by
      subst h2
      rw [yas _ _ h1] at ha
      rw [yaF] at hb'
      rcases hb k hb' with q | q
      · exact h1 (h.nd _ _ k ha q)
      · have:=((h.ok a).lt ha).2;omega
    by_cases e1:a=i
    · by_cases e2:b=i
      · omega
      · exact (key b a e2 e1 hb' ha).elim
    · by_cases e2:b=i
      · exact (key a b e1 e2 ha hb').elim
      · rw [yas _ _ e1] at ha;rw [yas _ _ e2] at hb';exact h.nd _ _ k ha hb'
theorem Sep.add(h:Sep w0 S O w L)(i:Nat)(hi:L i = .gone)(r':Res)(hK:Pure w w')(hb:∀ k,r'.has k→w.heap.size≤k)(hok:r'.ok 0 (Bl O (stl L i r')) w'):Sep w0 S O w' (stl L i r') :=
  h.upd i r' (T:=no) hK (fun _ _ h=>h.elim) (fun k hk => .inr (hb k hk)) hok
theorem Bl.add_ro{i:Nat}(hi:L i = .gone){r:Res}(hr:r.free):∀ k,Bl O (stl L i r) k→Bl O L k:=by
  rintro k (h | ⟨j,hj⟩)
  · exact .inl h
  · by_cases e:j=i
    · subst e;rw [yaF] at hj;exact absurd hj (hr.out k)
    · rw [yas _ _ e] at hj;exact .inr ⟨j,hj⟩
theorem Bl.sub_ro{i:Nat}{r:Res}(hr:∀ k,r.has k→(L i).has k):∀ k,Bl O (stl L i r) k→Bl O L k:=by
  rintro k (h | ⟨j,hj⟩)
  · exact .inl h
  · by_cases e:j=i
    · subst e;rw [yaF] at hj;exact .inr ⟨j,hr k hj⟩
    · rw [yas _ _ e] at hj;exact .inr ⟨j,hj⟩
theorem Sep.addro(h:Sep w0 S O w L)(i:Nat)(hi:L i = .gone)(Φ:FP)(hp:Φ.P (Bl O L) w):Sep w0 S O w (stl L i (.ro Φ)) :=
  h.add i hi _ (Keeps.refl _ _) (fun k hk=>by cases hk) (Φ.sub hp fun k _ hk=>Bl.add_ro hi rfl k hk)
theorem Sep.sel(h:Sep w0 S O w L)(js:List Nat)(hj:js.Nodup:=by decide):Sep w0 S O w (rl (js.map L)):=by
  have hrl:∀ (js:List Nat) (i:Nat),rl (js.map L) i=match js[i]? with | some j=>L j | none => .gone:=by
    intro js
    induction js with
    | nil=>intro i;cases i <;> rfl
    | cons a t ih => intro i; cases i with
                     | zero=>rfl
                     | succ i=>rw [List.map_cons,rl,ih i];simp
  refine h.step (T:=no) (Keeps.refl _ _) (fun _ _ h=>h.elim) (fun i k hk=>?_) (fun i=>?_) (fun a b k ha hb=>?_)
  · rw [hrl] at hk
    cases hq:js[i]? with
    | none=>rw [hq] at hk;cases hk
    | some j=>rw [hq] at hk;exact .inl ⟨j,hk⟩
  · rw [hrl]
    cases hq:js[i]? with
    | none=>exact .inr trivial
    | some j=>exact .inl ⟨j,rfl,fun _ _=>id⟩
  · rw [hrl] at ha hb
    cases hq:js[a]? with
    | none=>rw [hq] at ha;cases ha
    | some x =>
      cases hq2:js[b]? with
      | none=>rw [hq2] at hb;cases hb
      | some y =>
        rw [hq] at ha;rw [hq2] at hb
        have e:=h.nd x y k ha hb
        subst e
        have h1:=List.getElem?_eq_some_iff.1 hq
        have h2:=List.getElem?_eq_some_iff.1 hq2
        obtain ⟨l1,e1⟩:=h1
        obtain ⟨l2,e2⟩:=h2
        exact (List.getElem_inj hj).1 (e1.trans e2.symm)
theorem Sep.frz{τ:Type}(h:Sep w0 S O w L)(i:Nat){c:Cod τ}{e:TypeId}{A:Option Addr}{l cap:Nat}{xs:List τ}(hi:L i = .own c e A l cap xs):Sep w0 S O w (stl L i (.ro (FP.sl c A l cap xs))):=by
  have ho:OwnC c 0 (Bl O L) w e A l cap xs:=by have:=h.ok i;rw [hi] at this;exact this
  have hs:=Bl.sub_ro (L:=L) (O:=O) (i:=i) (r := .ro (FP.sl c A l cap xs)) (fun k hk=>by cases hk)
  refine h.upd i _ (T:=no) (Keeps.refl _ _) (fun _ _ h=>h.elim) (fun k hk=>by cases hk) (ho.rd (fun k _ hk=>hs k hk) fun k hk hk2=>?_)
  rcases hk2 with q | ⟨j,q⟩
  · have h1:=h.lt k q
    rcases h.bd i k (by rw [hi];exact hk) with h2 | h2
    · omega
    · exact h1.2 h2
  · by_cases e:j=i
    · subst e;rw [yaF] at q;cases q
    · rw [yas _ _ e] at q
      exact e (h.nd j i k q (by rw [hi];exact hk))
theorem Sep.frzb(h:Sep w0 S O w L)(i:Nat){e:TypeId}{g:Nat}{cells:List Value}(hi:L i = .box e g cells):Sep w0 S O w (stl L i (.ro (FP.bx e g cells))):=by
  have ho:0≤g∧Row w g e cells.length cells:=by have:=h.ok i;rw [hi] at this;exact this
  have hs:=Bl.sub_ro (L:=L) (O:=O) (i:=i) (r := .ro (FP.bx e g cells)) (fun k hk=>by cases hk)
  refine h.upd i _ (T:=no) (Keeps.refl _ _) (fun _ _ h=>h.elim) (fun k hk=>by cases hk) ⟨fun hk2=>?_,ho.2⟩
  rcases hk2 with q | ⟨j,q⟩
  · have h1:=h.lt g q
    rcases h.bd i g (by rw [hi]) with h2 | h2
    · omega
    · exact h1.2 h2
  · by_cases e:j=i
    · subst e;rw [yaF] at q;cases q
    · rw [yas _ _ e] at q
      exact e (h.nd j i g q (by rw [hi]))
theorem Sep.own{τ:Type}(h:Sep w0 S O w L)(i:Nat){c:Cod τ}{e:TypeId}{A:Option Addr}{l cap:Nat}{xs:List τ}(hi:L i = .own c e A l cap xs):OwnC c 0 (Bl O L) w e A l cap xs:=by
  have:=h.ok i;rw [hi] at this;exact this
theorem Sep.ro(h:Sep w0 S O w L)(i:Nat){Φ:FP}(hi:L i = .ro Φ):Φ.P (Bl O L) w:=by
  have:=h.ok i;rw [hi] at this;exact this
theorem Sep.bx(h:Sep w0 S O w L)(i:Nat){e:TypeId}{g:Nat}{cells:List Value}(hi:L i = .box e g cells):Row w g e cells.length cells:=by
  have:=h.ok i;rw [hi] at this;exact this.2
theorem Sep.bxr(h:Sep w0 S O w L)(i:Nat){e:TypeId}{g:Nat}{cells:List Value}(hi:L i = .ro (FP.bx e g cells)):Row w g e cells.length cells:=(h.ro i hi).2
theorem Sep.rdo{τ:Type}(h:Sep w0 S O w L)(i:Nat){c:Cod τ}{e:TypeId}{A:Option Addr}{l cap:Nat}{xs:List τ}(hi:L i = .own c e A l cap xs):(FP.sl c A l cap xs).P no w :=
  (h.own i hi).rd (fun _ _ h=>h.elim) fun _ _=>id
theorem Sep.rdr{τ:Type}(h:Sep w0 S O w L)(i:Nat){c:Cod τ}{A:Option Addr}{l cap:Nat}{xs:List τ}(hi:L i = .ro (FP.sl c A l cap xs)):(FP.sl c A l cap xs).P no w :=
  (FP.sl c A l cap xs).sub (h.ro i hi) fun _ _ h=>h.elim
end
section
variable {τ : Type} {c : Cod τ} {O : Nat → Prop} {w : World} {A : Option Addr} {l cap : Nat} {xs : List τ}
theorem ybh(h:(FP.sl c A l cap xs).P O w):l=xs.length:=h.1
theorem yaU(h:(FP.sl c A l cap xs).P O w){i:Int}(hx:0≤i∧i<(xs.length:Int)):Ix A l i:=by
  obtain ⟨h1,h2,h3⟩:=h
  obtain ⟨b,off,rfl,_⟩:=h3 (by omega)
  exact ⟨rfl,hx.1,by omega⟩
theorem yf7(g o:Nat)(i:Int)(sz:Nat):ixA (some ⟨g,o,none⟩) i sz=⟨g,o+i.toNat*sz,none⟩:=by simp [ixA,Addr.add_mid]
theorem rd_cell(h:(FP.sl c A l cap xs).P O w){i:Int}(hx:0≤i∧i<(xs.length:Int)){x:τ}(he:i.toNat<xs.length→xs[i.toNat]? = some x):∃ vs,c.R O w vs x∧¬O (ixA A i c.sz).block∧∀ (j:Nat) u,vs[j]? = some u→w.cell? ((ixA A i c.sz).add j)=some u:=by
  obtain ⟨h1,h2,h3⟩:=h
  obtain ⟨b,off,rfl,hb,ho,hc⟩:=h3 (by omega)
  obtain ⟨vs,hv,hu⟩:=hc _ _ (he (by omega))
  rw [yf7]
  exact ⟨vs,hv,ho,fun j u hj=>by rw [Addr.add_mid];exact hu j u hj⟩
theorem rd_f{f:Fl τ}(h:(FP.sl f.cod A l cap xs).P O w){i:Int}(hx:0≤i∧i<(xs.length:Int)){x:τ}(he:i.toNat<xs.length→xs[i.toNat]? = some x)(j:Nat){u:Value}(hj:(f.enc x)[j]? = some u):w.cell? ((ixA A i f.sz).add j)=some u:=by
  obtain ⟨vs,hv,ho,hu⟩:=rd_cell h hx he
  have hv:vs=f.enc x:=hv
  subst hv
  exact hu j u hj
theorem rd_1{f:Fl τ}(h:(FP.sl f.cod A l cap xs).P O w){i:Int}(hx:0≤i∧i<(xs.length:Int)){x:τ}(he:i.toNat<xs.length→xs[i.toNat]? = some x){u:Value}(hj:(f.enc x)[0]? = some u):w.cell? (ixA A i f.sz)=some u:=rd_f h hx he 0 hj
theorem rd_fs{f:Fl τ}(h:(FP.sl f.cod A l cap xs).P O w){i:Int}(hx:0≤i∧i<(xs.length:Int)){x:τ}(he:i.toNat<xs.length→xs[i.toNat]? = some x):Cells w (ixA A i f.sz) 0 (f.enc x):=by
  have H:∀ (vs pre:List Value),f.enc x=pre++vs→Cells w (ixA A i f.sz) pre.length vs:=by
    intro vs
    induction vs with
    | nil=>intro pre _;trivial
    | cons v t ih =>
      intro pre hp
      refine ⟨rd_f h hx he _ (by rw [hp];simp),?_⟩
      have:=ih (pre++[v]) (by rw [hp];simp)
      simpa using this
  exact H _ [] rfl
theorem rd_l{c:Cod τ}{xs:List (List τ)}(h:(FP.sl (cL c) A l cap xs).P O w){i:Int}(hx:0≤i∧i<(xs.length:Int)){x:List τ}(he:i.toNat<xs.length→xs[i.toNat]? = some x) :
    ∃ A' l' cap',w.cell? (ixA A i 1)=some (.slice A' l' cap')∧(FP.sl c A' l' cap' x).P O w∧¬O (ixA A i 1).block:=by
  obtain ⟨vs,⟨A',l',cap',rfl,h1,h2,h3⟩,ho,hu⟩:=rd_cell h hx he
  exact ⟨A',l',cap',hu 0 _ rfl,⟨h1,h2,h3⟩,ho⟩
end
theorem ybe{l:List Int}{k:Nat}(h:k<l.length):l[k]? = some (gi l k):=by rw [ybk h];exact List.getElem?_eq_getElem h
theorem gb_some{l:List Bool}{k:Nat}(h:k<l.length):l[k]? = some (gb l k):=by rw [yb2 h];exact List.getElem?_eq_getElem h
theorem ydI{l:List E3}{k:Nat}(h:k<l.length):l[k]? = some (ge l k):=by rw [yed h];exact List.getElem?_eq_getElem h
def gx{τ:Type} [Inhabited τ](l:List τ)(k:Nat):τ:=l.getD k default
theorem ygA{τ:Type} [Inhabited τ]{l:List τ}{k:Nat}(h:k<l.length):gx l k=l[k]:=by simp [gx,h]
theorem ycu{τ:Type} [Inhabited τ]{l:List τ}{k:Nat}(h:k<l.length):l[k]? = some (gx l k):=by rw [ygA h];exact List.getElem?_eq_getElem h
section
variable {w0 w w' : World} {S O : Nat → Prop} {L : Hold}
theorem Sep.new(h:Sep w0 S O w L)(i:Nat)(hi:L i = .gone){g:Nat}{cs:Array Value}{e:TypeId}(hN:New w g w' cs e):Sep w0 S O w' (stl L i (.box e g cs.toList)) :=
  h.add i hi _ (hN.keeps _) (fun k hk=>by cases hk;rw [hN.at_];exact Nat.le_refl _) ⟨Nat.zero_le _,by simpa using hN.row⟩
theorem New.ownS{g:Nat}{cs:Array Value}{e:TypeId}(hN:New w g w' cs e){B n sz:Nat}(hB:B≤w.heap.size)(hs:cs.size=n*sz)(hn:n≤maxLen):OwnS w' B e sz (some ⟨g,0,none⟩) n n cs.toList:=by
  obtain ⟨rfl,rfl⟩:=hN
  refine ⟨by simpa using hs, .inr ⟨_,0,cs,rfl,hB,heap_alloc_new w _,Nat.le_refl _,hn,by omega,?_⟩⟩
  rw [List.drop_zero,List.take_of_length_le (by simp [hs])]
def El{τ:Type}(c:Cod τ)(O:Nat→Prop)(w:World):List Value→List τ→Prop
  | cells,[]=>cells=[]
  | cells,x::t=>∃ vs rest,cells=vs++rest∧c.R O w vs x∧El c O w rest t
theorem El.len{τ:Type}{c:Cod τ}{O:Nat→Prop}{w:World} : ∀ {xs:List τ} {cells:List Value},El c O w cells xs→cells.length=xs.length*c.sz
  | [],_,h=>by rw [h];simp
  | x::t,_,⟨vs,rest,e,hR,ht⟩=>by rw [e,List.length_append,c.len hR,ht.len,List.length_cons,Nat.add_mul];omega
theorem El.at_ {τ:Type}{c:Cod τ}{O:Nat→Prop}{w:World} : ∀ {xs:List τ} {cells:List Value},El c O w cells xs→∀ (k:Nat) x,xs[k]? = some x→∃ vs,c.R O w vs x∧∀ (j:Nat) u,vs[j]? = some u→cells[k*c.sz+j]? = some u
  | [],_,_,k,x,hx=>by simp at hx
  | y::t,_,⟨vs,rest,e,hR,ht⟩,0,x,hx=>by
    simp at hx;subst hx
    refine ⟨vs,hR,fun j u hj=>?_⟩
    rw [e,Nat.zero_mul,Nat.zero_add,List.getElem?_append_left (List.getElem?_eq_some_iff.1 hj).1];exact hj
  | y::t,_,⟨vs,rest,e,hR,ht⟩,k+1,x,hx=>by
    obtain ⟨vs',h1,h2⟩:=ht.at_ k x (by simpa using hx)
    refine ⟨vs',h1,fun j u hj=>?_⟩
    have:=h2 j u hj
    have hl:=c.len hR
    rw [e,List.getElem?_append_right (by rw [hl,Nat.add_mul];omega),hl,Nat.add_mul]
    rw [show k*c.sz+1*c.sz+j-c.sz=k*c.sz+j by omega];exact this
theorem El.keep{τ:Type}{c:Cod τ}{O O':Nat→Prop}{w w':World}(hK:∀ vs x,c.R O w vs x→c.R O' w' vs x):∀ {xs:List τ} {cells:List Value},El c O w cells xs→El c O' w' cells xs
  | [],_,h=>h
  | x::t,_,⟨vs,rest,e,hR,ht⟩=>⟨vs,rest,e,hK _ _ hR,El.keep hK ht⟩
theorem El.flat{τ:Type}(f:Fl τ)(O:Nat→Prop)(w:World):∀ (xs:List τ),El f.cod O w (xs.flatMap f.enc) xs
  | []=>rfl
  | x::t=>⟨f.enc x,t.flatMap f.enc,rfl,rfl,El.flat f O w t⟩
theorem Sep.lit{τ:Type}(h:Sep w0 S O w L)(i:Nat)(hi:L i = .gone){c:Cod τ}{g:Nat}{cs:Array Value}{e:TypeId}(hN:New w g w' cs e)(xs:List τ){n:Nat}(hn:n=xs.length)(hm:n≤1000000)(hE:El c (Bl O L) w cs.toList xs):Sep w0 S O w' (stl L i (.own c e (some ⟨g,0,none⟩) n n xs)):=by
  have ht:∀ k,Bl O (stl L i (.own c e (some ⟨g,0,none⟩) n n xs)) k→k<w.heap.size→Bl O L k:=by
    rintro k (q | ⟨j,hj⟩) hk
    · exact .inl q
    · by_cases e:j=i
      · subst e;rw [yaF] at hj;cases hj;rw [hN.at_] at hk;exact absurd hk (Nat.lt_irrefl _)
      · rw [yas _ _ e] at hj;exact .inr ⟨j,hj⟩
  refine h.add i hi _ (hN.keeps _) (fun k hk=>by cases hk;rw [hN.at_];exact Nat.le_refl _) ⟨hn,cs.toList,hN.ownS (Nat.zero_le _) ?_ (by unfold maxLen;omega),?_⟩
  · have:=hE.len;rw [hn];simpa using this
  · refine (El.keep (fun vs x hR=>?_) hE).at_
    exact c.keep (c.sub hR fun k hk hb=>ht k hb hk) (hN.keeps _)
theorem Sep.litf{τ:Type}(h:Sep w0 S O w L)(i:Nat)(hi:L i = .gone)(f:Fl τ){g:Nat}{cs:Array Value}{e:TypeId}(hN:New w g w' cs e)(xs:List τ){n:Nat}(hn:n=xs.length)(hm:n≤1000000)(hE:cs.toList=xs.flatMap f.enc):Sep w0 S O w' (stl L i (.own f.cod e (some ⟨g,0,none⟩) n n xs)) :=
  h.lit i hi hN xs hn hm (by rw [hE];exact El.flat f _ _ _)
theorem Sep.made{τ:Type}(h:Sep w0 S O w L)(i:Nat)(hi:L i = .gone)(c:Cod τ)(z:Value)(x:τ)(hz:∀ O w,c.R O w [z] x){g n:Nat}{e:TypeId}(hN:New w g w' (Array.replicate n z) e)(hm:n≤1000000):Sep w0 S O w' (stl L i (.own c e (some ⟨g,0,none⟩) n n (List.replicate n x))):=by
  refine h.lit i hi hN _ (by simp) hm ?_
  have H:∀ n,El c (Bl O L) w (List.replicate n z) (List.replicate n x):=fun n=>by
    induction n with
    | zero=>rfl
    | succ n ih=>exact ⟨[z],List.replicate n z,rfl,hz _ _,ih⟩
  simpa using H n
theorem Sep.nil{τ:Type}(h:Sep w0 S O w L)(i:Nat)(hi:L i = .gone)(c:Cod τ)(e:TypeId):Sep w0 S O w (stl L i (.own c e none 0 0 [])) :=
  h.add i hi _ (Keeps.refl _ _) (fun k hk=>by cases hk) (OwnC.nil c _ _ _ e)
theorem Sep.wr{τ:Type}(h:Sep w0 S O w L)(i:Nat){c:Cod τ}{e:TypeId}{A:Option Addr}{l cap:Nat}{xs:List τ}(hi:L i = .own c e A l cap xs)(hc:c.sz=1){k:Int}(hx:0≤k∧k<(xs.length:Int)):Wr w (ixA A k 1):=by
  obtain ⟨hl,cells,ho,hE⟩:=h.own i hi
  obtain ⟨vs,hR,hu⟩:=hE k.toNat xs[k.toNat] (List.getElem?_eq_getElem (by omega))
  have hv:=c.len hR
  obtain ⟨v,rfl⟩:=List.length_eq_one_iff.1 (hv.trans hc)
  obtain ⟨g,o,rfl,_,h1,h2⟩:=ho.cellAt (hu 0 v rfl)
  rw [yf7]
  rw [hc,Nat.add_zero] at h1 h2
  exact ⟨by rw [h1];rfl,h2⟩
theorem Sep.st{τ:Type}(h:Sep w0 S O w L)(i:Nat){c:Cod τ}{e:TypeId}{A:Option Addr}{l cap:Nat}{xs:List τ}(hi:L i = .own c e A l cap xs)(hc:c.sz=1){k:Int}(hx:0≤k∧k<(xs.length:Int)){v:Value}{x:τ}(hR:c.R (Bl O L) w [v] x)(e1:w'=w.setCell (ixA A k 1) v):Sep w0 S O w' (stl L i (.own c e A l cap (xs.set k.toNat x))):=by
  obtain ⟨hl,cells,ho,hE⟩:=h.own i hi
  have hk:k.toNat<xs.length:=by omega
  have hcl:cells.length=xs.length:=by rw [ho.1,hc,hl];omega
  obtain ⟨g,o,rfl,hg,h1,h2⟩:=ho.cellAt (i:=k.toNat) (List.getElem?_eq_getElem (by omega))
  rw [yf7,Nat.mul_one] at e1
  have hblk:(L i).has g:=by rw [hi];rfl
  have hK:Keeps (fun j=>j=g) w w':=by rw [e1];exact (Keeps.refl (fun j=>j=g) w).setCell (p:=⟨g,o+k.toNat,none⟩) (fun _=>rfl) v
  have hbl:∀ j,Bl O (stl L i (.own c e (some ⟨g,o,none⟩) l cap (xs.set k.toNat x))) j→Bl O L j:=Bl.sub_ro fun j hj=>by rw [hi];exact hj
  have hKB:Keeps (Bl O L) w w':=hK.mono fun j _ hj => .inr ⟨i,by rw [hj];exact hblk⟩
  refine h.upd i _ hK (fun j _ hj=>by rw [hj];exact hblk) (fun j hj => .inl (by rw [hi];exact hj)) ⟨by rw [List.length_set];exact hl,cells.set k.toNat v,by rw [e1];exact ho.set1 (by omega) v rfl,fun j y hy=>?_⟩
  rw [List.getElem?_set] at hy
  by_cases q:k.toNat=j
  · subst q
    rw [if_pos rfl,if_pos hk] at hy
    cases hy
    refine ⟨[v],c.sub (c.keep hR hKB) fun j _ hj=>hbl j hj,fun t u ht=>?_⟩
    have ht0:t=0:=by
      have:=(List.getElem?_eq_some_iff.1 ht).1
      simp at this;exact this
    subst ht0
    simp at ht
    subst ht
    rw [hc,Nat.mul_one,Nat.add_zero,List.getElem?_set,if_pos rfl,if_pos (by omega)]
  · rw [if_neg q] at hy
    obtain ⟨vs,hR',hu⟩:=hE j y hy
    refine ⟨vs,c.sub (c.keep hR' hKB) fun j _ hj=>hbl j hj,fun t u ht=>?_⟩
    have ht0:t=0:=by
      have:=(List.getElem?_eq_some_iff.1 ht).1
      rw [c.len hR',hc] at this;omega
    have:=hu t u ht
    rw [List.getElem?_set,if_neg (by rw [hc,ht0];omega)]
    exact this
theorem Sep.bwr(h:Sep w0 S O w L)(i:Nat){e:TypeId}{g:Nat}{cells:List Value}(hi:L i = .box e g cells){j:Nat}{v:Value}(hv:cells[j]? = some v):Wr w ((⟨g,0,none⟩:Addr).add j):=wr_row (h.bx i hi) hv
theorem Sep.bst(h:Sep w0 S O w L)(i:Nat){e:TypeId}{g:Nat}{cells:List Value}(hi:L i = .box e g cells)(j:Nat)(v:Value)(e1:w'=w.setCell ((⟨g,0,none⟩:Addr).add j) v):Sep w0 S O w' (stl L i (.box e g (cells.set j v))):=by
  have hr:=h.bx i hi
  have hb:=(h.ok i).lt (k:=g) (by rw [hi])
  have e2:(⟨g,0,none⟩:Addr).add j=⟨g,j,none⟩:=by rw [Addr.add_mid,Nat.zero_add]
  refine h.upd i _ (T:=fun k=>k=g) (by rw [e1,e2];exact (Keeps.refl (fun j=>j=g) w).setCell (p:=⟨g,j,none⟩) (fun _=>rfl) v) (fun k _ hk=>by rw [hi,hk]) (fun k hk => .inl (by rw [hi];exact hk)) ⟨hb.1,?_⟩
  rw [List.length_set,e1,e2];exact hr.set_ j v
theorem Sep.bstn(h:Sep w0 S O w L)(i:Nat){e:TypeId}{g:Nat}{cells:List Value}(hi:L i = .box e g cells)(j:Nat)(vs:List Value)(e1:w'=w.setCells g j vs):Sep w0 S O w' (stl L i (.box e g (setL cells j vs))):=by
  have hr:=h.bx i hi
  have hb:=(h.ok i).lt (k:=g) (by rw [hi])
  have hK:∀ (vs:List Value) (o:Nat) {a w:World},Keeps (fun k=>k=g) a w→Keeps (fun k=>k=g) a (w.setCells g o vs):=by
    intro vs
    induction vs with
    | nil=>intro o a w h;exact h
    | cons v t ih=>intro o a w h;exact ih (o+1) (h.setCell (p:=⟨g,o,none⟩) (fun _=>rfl) v)
  refine h.upd i _ (T:=fun k=>k=g) (by rw [e1];exact hK _ _ (Keeps.refl _ _)) (fun k _ hk=>by rw [hi,hk]) (fun k hk => .inl (by rw [hi];exact hk)) ⟨hb.1,?_⟩
  rw [setL_length_,e1];exact yhX vs j hr
where setL_length_ : ∀ {vs : List Value} {o : Nat} {xs : List Value}, (setL xs o vs).length = xs.length := by
        intro vs
        induction vs with
        | nil=>intro o xs;rfl
        | cons v t ih=>intro o xs;rw [setL,ih,List.length_set]
end
end Go.Proofs.YtjepipbkiadcpaaGreat

/- Memory out of sight, more: append, calls, slices of slices, elements that are slices, functions as values. No program in sight. -/
namespace Go.Proofs.YtjepipbkiadcpaaGreat
open Go Go.RowKit Go.Shelf Go.Proofs.Tryz
def Yl{τ:Type}(c:Cod τ)(O:Nat→Prop)(w:World)(C:Option Addr)(m:Nat)(ys:List τ):Prop :=
  m=ys.length∧(0<m→∃ b off,C=some ⟨b,off,none⟩∧b<w.heap.size∧∀ (k:Nat) x,ys[k]? = some x→∃ vs,c.R O w vs x∧∀ (j:Nat) u,vs[j]? = some u→w.cell? ⟨b,off+k*c.sz+j,none⟩=some u)
theorem Yl.nil{τ:Type}(c:Cod τ)(O:Nat→Prop)(w:World)(C:Option Addr):Yl c O w C 0 []:=⟨rfl,fun h=>absurd h (by omega)⟩
section
variable {w0 w w' : World} {S O : Nat → Prop} {L : Hold}
theorem Sep.yr{τ:Type}(h:Sep w0 S O w L)(i:Nat){c:Cod τ}{A:Option Addr}{l cap:Nat}{xs:List τ}(hi:L i = .ro (FP.sl c A l cap xs)):Yl c (Bl O L) w A l xs:=by
  obtain ⟨h1,h2,h3⟩:=h.ro i hi
  refine ⟨h1,fun h0=>?_⟩
  obtain ⟨b,off,e,hb,ho,hc⟩:=h3 (by omega)
  exact ⟨b,off,e,hb,hc⟩
theorem Sep.yo{τ:Type}(h:Sep w0 S O w L)(i:Nat){c:Cod τ}{e:TypeId}{A:Option Addr}{l cap:Nat}{xs:List τ}(hi:L i = .own c e A l cap xs):Yl c (Bl O L) w A l xs:=by
  obtain ⟨hl,cells,ho,hE⟩:=h.own i hi
  refine ⟨hl,fun h0=>?_⟩
  rcases ho.2 with ⟨rfl,rfl,rfl⟩ | ⟨g,o,cur,rfl,hb,hg,q⟩
  · omega
  · refine ⟨g,o,rfl,(Array.getElem?_eq_some_iff.1 hg).1,fun k x hx=>?_⟩
    obtain ⟨vs,h1,h2⟩:=hE k x hx
    refine ⟨vs,h1,fun j u hj=>?_⟩
    obtain ⟨g',o',e',_,hc,_⟩:=ho.cellAt (h2 j u hj)
    cases e'
    rw [Nat.add_assoc];exact hc
theorem Yl.cells{τ:Type}{c:Cod τ}{C:Option Addr}{m:Nat}{ys:List τ}(h:Yl c O w C m ys)(hm:0<m) :
    ∃ (a:Addr) (news:List Value),C=some a∧news.length=m*c.sz∧(∀ j u,news[j]? = some u→w.cell? (a.add j)=some u)∧(∀ u∈news,u.oneCell'=true)∧∀ (k:Nat) x,ys[k]? = some x→∃ vs,c.R O w vs x∧∀ (j:Nat) u,vs[j]? = some u→news[k*c.sz+j]? = some u:=by
  obtain ⟨hl,hc⟩:=h
  obtain ⟨b,off,rfl,_,hc⟩:=hc hm
  have H:∀ (ys:List τ) (off:Nat),(∀ (k:Nat) x,ys[k]? = some x→∃ vs,c.R O w vs x∧∀ (j:Nat) u,vs[j]? = some u→w.cell? ⟨b,off+k*c.sz+j,none⟩=some u) →
      ∃ news:List Value,El c O w news ys∧(∀ j u,news[j]? = some u→w.cell? ⟨b,off+j,none⟩=some u)∧∀ u∈news,u.oneCell'=true:=by
    intro ys
    induction ys with
    | nil=>intro off _;exact ⟨[],rfl,fun j u hj=>by simp at hj,fun u hu=>by simp at hu⟩
    | cons y t ih =>
      intro off h
      obtain ⟨vs,hR,hu⟩:=h 0 y rfl
      obtain ⟨rest,h1,h2,h3⟩:=ih (off+c.sz) (fun k x hx=>by
        obtain ⟨vs',hR',hu'⟩:=h (k+1) x (by simpa using hx)
        refine ⟨vs',hR',fun j u hj=>?_⟩
        have:=hu' j u hj
        rw [Nat.add_mul,Nat.one_mul] at this
        rw [show off+c.sz+k*c.sz+j=off+(k*c.sz+c.sz)+j by omega];exact this)
      refine ⟨vs++rest,⟨vs,rest,rfl,hR,h1⟩,fun j u hj=>?_,fun u hm=>?_⟩
      · rcases Nat.lt_or_ge j vs.length with q | q
        · rw [List.getElem?_append_left q] at hj
          have:=hu j u hj
          rw [Nat.zero_mul,Nat.add_zero] at this;exact this
        · rw [List.getElem?_append_right q] at hj
          have:=h2 _ u hj
          rw [c.len hR] at this q
          rw [show off+c.sz+(j-c.sz)=off+j by omega] at this;exact this
      · rcases List.mem_append.1 hm with q | q
        · exact c.one hR u q
        · exact h3 u q
  obtain ⟨news,h1,h2,h3⟩:=H ys off hc
  exact ⟨_,news,rfl,by rw [hl];exact h1.len,fun j u hj=>by rw [Addr.add_mid];exact h2 j u hj,h3,h1.at_⟩
theorem Sep.app{τ:Type}(h:Sep w0 S O w L)(i:Nat){c:Cod τ}{e:TypeId}{A:Option Addr}{l cap:Nat}{xs:List τ}(hi:L i = .own c e A l cap xs){ys:List τ}{m:Nat}(hm:m=ys.length){cells news:List Value}
    (hE:∀ (k:Nat) x,xs[k]? = some x→∃ vs,c.R (Bl O L) w vs x∧∀ (j:Nat) u,vs[j]? = some u→cells[k*c.sz+j]? = some u) (hY:∀ (k:Nat) x,ys[k]? = some x→∃ vs,c.R (Bl O L) w vs x∧∀ (j:Nat) u,vs[j]? = some u→news[k*c.sz+j]? = some u)
    (hl:l=xs.length) (hcl:cells.length=l*c.sz) {A':Option Addr} {cap':Nat} (ho:OwnS w' 0 e c.sz A' (l+m) cap' (cells++news)) (hg:w.grownBy w' (A.map (·.block))) (hb:A'.map (·.block)=A.map (·.block)∨A'.map (·.block)=some w.heap.size) :
    Sep w0 S O w' (stl L i (.own c e A' (l+m) cap' (xs++ys))):=by
  have hblk:∀ k,(L i).has k=(A.map (·.block)=some k):=fun k=>by rw [hi]
  have hK:Keeps (fun k=>A.map (·.block)=some k) w w':=⟨hg.os,hg.tape,hg.output,hg.size,fun k hk hn=>hg.block k hk fun q=>hn q.symm⟩
  have hKB:Keeps (Bl O L) w w':=hK.mono fun k _ hk => .inr ⟨i,by rw [hblk];exact hk⟩
  have hbl:∀ k,k<w.heap.size→Bl O (stl L i (.own c e A' (l+m) cap' (xs++ys))) k→Bl O L k:=by
    rintro k hk (q | ⟨j,hj⟩)
    · exact .inl q
    · by_cases e:j=i
      · subst e
        rw [yaF] at hj
        have hj:A'.map (·.block)=some k:=hj
        rcases hb with q | q
        · exact .inr ⟨j,by rw [hblk,←q];exact hj⟩
        · rw [q] at hj;cases hj;omega
      · rw [yas _ _ e] at hj;exact .inr ⟨j,hj⟩
  have hmv:∀ vs x,c.R (Bl O L) w vs x→c.R (Bl O (stl L i (.own c e A' (l+m) cap' (xs++ys)))) w' vs x:=fun vs x hR=>by
    have h2:Keeps (fun k=>Bl O (stl L i (.own c e A' (l+m) cap' (xs++ys))) k∨Bl O L k) w w':=hKB.mono fun k _ hk => .inr hk
    exact c.sub (c.keep (c.sub hR fun k hk hq=>hq.elim (hbl k hk) id) h2) fun k _ hk => .inl hk
  refine h.upd i _ hK (fun k _ hk=>by rw [hblk];exact hk) (fun k hk=>?_) ⟨by rw [List.length_append,hl,hm],cells++news,ho,fun k x hx=>?_⟩
  · have hk:A'.map (·.block)=some k:=hk
    rcases hb with q | q
    · exact .inl (by rw [hblk,←q];exact hk)
    · rw [q] at hk;cases hk;exact .inr (Nat.le_refl _)
  · rcases Nat.lt_or_ge k xs.length with q | q
    · rw [List.getElem?_append_left q] at hx
      obtain ⟨vs,h1,h2⟩:=hE k x hx
      refine ⟨vs,hmv _ _ h1,fun j u hj=>?_⟩
      have:=h2 j u hj
      rw [List.getElem?_append_left (List.getElem?_eq_some_iff.1 this).1];exact this
    · rw [List.getElem?_append_right q] at hx
      obtain ⟨vs,h1,h2⟩:=hY _ x hx
      refine ⟨vs,hmv _ _ h1,fun j u hj=>?_⟩
      have:=h2 j u hj
      have e1:k*c.sz=(k-xs.length)*c.sz+l*c.sz:=by rw [←Nat.add_mul];congr 1;omega
      rw [List.getElem?_append_right (by rw [hcl];omega),hcl,e1]
      rw [show (k-xs.length)*c.sz+l*c.sz+j-l*c.sz=(k-xs.length)*c.sz+j by omega];exact this
section
variable {P : Program} {E : Env} {d : Option Tmp} {x y : Operand} {ty xt yt : TypeId} {ps : String} {af : Array Edge} {g : Option (Nat × Bool)} {K : Value → World → Prop}
theorem n_app0{e:TypeId}{zo:Option Value}{n b:Nat}{A C:Option Addr}{l c c':Nat}(hx:evE E x = .slice A l c)(hy:evE E y = .slice C 0 c')(hu:P.underlying xt=some (.slice e))(hu2:P.underlying yt=some (.slice e))(hi:(P.info? e).map (fun i=>(i.zero,i.size,i.bytes))=some (zo,n,b))
    (hlc:l≤c) (h:K (.slice A l c) w):ybd P ⟨d, .call ⟨.builtin .append,#[x,y],#[xt,yt]⟩,ty,ps,af,g⟩ (evE E) w K:=by
  have hf:(Builtin.firstCells n 0 (.slice C 0 c')).run P w = .ok #[] w:=by
    cases C with
    | none=>rfl
    | some a=>simp [Builtin.firstCells,loadCells,loadCellsFrom,go_sem]
  have hr:(Builtin.append_ #[xt,yt] ty #[.slice A l c, .slice C 0 c']).run P w = .ok (.slice A l c) w:=by
    cases A <;> cases C <;> simp [Builtin.append_,run_underlying hu,run_underlying hu2,ybN hi,Builtin.lenOf,hlc,Builtin.firstCells,loadCells,loadCellsFrom,storeCells,go_sem]
  unfold ybd execOp
  simp only [resolve,hx,hy,List.map_toArray,List.map_cons,List.map_nil,Sem.run_bind,Sem.run_pure,Result.andThen,invoke,builtin,hr]
  exact h
theorem yiF{τ:Type}{c:Cod τ}{e:TypeId}{z:Value}{n b:Nat}{A C:Option Addr}{l cap m c':Nat}{xs ys:List τ}(hx:evE E x = .slice A l cap)(hy:evE E y = .slice C m c')(hu:P.underlying xt=some (.slice e))(hu2:P.underlying yt=some (.slice e))(hi:(P.info? e).map (fun i=>(i.zero,i.size,i.bytes))=some (some z,n+1,b))(hz:z.cells.size=n+1)
    (hn:c.sz=n+1) (hb:b≤128) (hS:Sep w0 S O w L) (i:Nat) (hL:L i = .own c e A l cap xs) (hY:Yl c (Bl O L) w C m ys) (hm:xs.length+ys.length≤1000000000)
    (h:∀ A' cap' w',Sep w0 S O w' (stl L i (.own c e A' (l+m) cap' (xs++ys)))→K (.slice A' (l+m) cap') w'):ybd P ⟨d, .call ⟨.builtin .append,#[x,y],#[xt,yt]⟩,ty,ps,af,g⟩ (evE E) w K:=by
  obtain ⟨hl,cells,ho,hE⟩:=hS.own i hL
  have hml:=hY.1
  rcases Nat.eq_zero_or_pos m with h0 | h0
  · subst h0
    refine n_app0 hx hy hu hu2 hi ho.caps ?_
    have:=h A cap w (hS.app i hL hml hE (fun k x hx=>by rw [List.length_eq_zero_iff.1 hml.symm] at hx;simp at hx) hl ho.1 (news:=[]) (by simpa using ho) ⟨rfl,rfl,rfl,Nat.le_refl _,fun _ _ _=>rfl⟩ (.inl rfl))
    exact this
  · obtain ⟨a,news,hC,hnl,hcell,h1,hN⟩:=hY.cells h0
    have hby:(l+m)*b≤140737488355328:=by
      have:(l+m)*b≤1000000000*128:=Nat.mul_le_mul (by omega) hb
      omega
    rw [hn] at ho hnl
    exact n_append2 hx hy hu hu2 hi hz ⟨_,cells,news,a,ho,hC,hnl,hcell,h1,by unfold maxLen;omega,hby,Nat.zero_le _,fun A' c'' w' ho' hg hb'=>h _ _ _ (hS.app i hL hml hE hN hl (by rw [hn];exact ho.1) (by rw [hn];exact ho') hg hb')⟩
end
theorem Res.ok.sub{B:Nat}{O O':Nat→Prop}{w:World}{r:Res}(h:r.ok B O w)(hO:∀ k,k<w.heap.size→O' k→O k):r.ok B O' w :=
  h.keep (S:=no) (Keeps.refl _ _) (fun _ _=>id) (fun _ _ h=>h.elim) hO
def pick(L Lr:Hold)(f:Nat→Option Nat):Hold:=fun j=>match f j with | none=>L j | some a=>Lr a
theorem Sep.callf{Lr:Hold}(h:Sep w0 S O w L)(hC:Sep w no (Bl O L) w' Lr)(f:Nat→Option Nat)(hf:∀ j a,f j=some a→L j = .gone)(inj:∀ i j a,f i=some a→f j=some a→i=j):Sep w0 S O w' (pick L Lr f):=by
  have hs:∀ k,Bl O (pick L Lr f) k→Bl (Bl O L) Lr k:=by
    rintro k (q | ⟨j,hj⟩)
    · exact .inl (.inl q)
    · unfold pick at hj
      cases hq:f j with
      | none=>rw [hq] at hj;exact .inl (.inr ⟨j,hj⟩)
      | some a=>rw [hq] at hj;exact .inr ⟨a,hj⟩
  have hn:∀ j,f j=none→pick L Lr f j=L j:=fun j hq=>by unfold pick;rw [hq]
  have hsm:∀ j a,f j=some a→pick L Lr f j=Lr a:=fun j a hq=>by unfold pick;rw [hq]
  refine h.step (T:=no) hC.pure (fun _ _ h=>h.elim) (fun j k hk=>?_) (fun j=>?_) (fun x y k hx hy=>?_)
  · cases hq:f j with
    | none=>rw [hn j hq] at hk;exact .inl ⟨j,hk⟩
    | some a=>rw [hsm j a hq] at hk;exact .inr ((hC.bd a k hk).elim id fun q=>q.elim)
  · cases hq:f j with
    | none=>exact .inl ⟨j,hn j hq,fun _ _=>id⟩
    | some a=>rw [hsm j a hq];exact .inr ((hC.ok a).sub fun k _ hk=>hs k hk)
  · cases hq:f x with
    | none =>
      rw [hn x hq] at hx
      cases hq2:f y with
      | none=>rw [hn y hq2] at hy;exact h.nd x y k hx hy
      | some a=>rw [hsm y a hq2] at hy;have h1:=((hC.bd a k hy).elim id fun q=>q.elim);have:=((h.ok x).lt hx).2;omega
    | some a =>
      rw [hsm x a hq] at hx
      cases hq2:f y with
      | none=>rw [hn y hq2] at hy;have h1:=((hC.bd a k hx).elim id fun q=>q.elim);have:=((h.ok y).lt hy).2;omega
      | some b=>rw [hsm y b hq2] at hy;have:=hC.nd a b k hx hy;subst this;exact inj x y a hq hq2
theorem Sep.call1{Lr:Hold}(h:Sep w0 S O w L)(hC:Sep w no (Bl O L) w' Lr)(i a:Nat)(hi:L i = .gone):Sep w0 S O w' (stl L i (Lr a)):=by
  have:=h.callf hC (fun j=>if j=i then some a else none) (fun j b hj=>by split at hj;(rename_i e;rw [e];exact hi);cases hj) (fun x y b hx hy=>by split at hx <;> split at hy <;> simp_all)
  have e:pick L Lr (fun j=>if j=i then some a else none)=stl L i (Lr a):=by
    funext j
    unfold pick
    by_cases q:j=i
    · subst q;rw [yaF];simp
    · rw [yas _ _ q];simp [q]
  rw [←e];exact this
theorem Sep.call2{Lr:Hold}(h:Sep w0 S O w L)(hC:Sep w no (Bl O L) w' Lr)(i a i2 a2:Nat)(hi:L i = .gone)(hi2:L i2 = .gone)(ha:a2≠a)(hne:i2≠i):Sep w0 S O w' (stl (stl L i (Lr a)) i2 (Lr a2)):=by
  have:=h.callf hC (fun j=>if j=i2 then some a2 else if j=i then some a else none) (fun j b hj=>by
    split at hj
    · rename_i e;rw [e];exact hi2
    · split at hj
      · rename_i e;rw [e];exact hi
      · cases hj) (fun x y b hx hy=>by
    split at hx <;> split at hy <;> (try split at hx) <;> (try split at hy) <;> simp_all
    all_goals omega)
  have e:pick L Lr (fun j=>if j=i2 then some a2 else if j=i then some a else none)=stl (stl L i (Lr a)) i2 (Lr a2):=by
    funext j
    unfold pick
    by_cases q:j=i2
    · subst q;rw [yaF];simp
    · rw [yas _ _ q]
      by_cases q2:j=i
      · subst q2;rw [yaF];simp [q]
      · rw [yas _ _ q2];simp [q,q2]
  rw [←e];exact this
def Res.Flat(r:Res):Prop:=∀ B O O' w,r.ok B O w→r.ok B O' w
theorem ya3{τ:Type}(f:Fl τ)(e:TypeId)(A:Option Addr)(l cap:Nat)(xs:List τ):(Res.own f.cod e A l cap xs).Flat:=fun B O O' w ⟨hl,cells,ho,hE⟩=>⟨hl,cells,ho,hE⟩
theorem yea:∀ j,(rl [] j).Flat:=fun j=>by cases j <;> exact fun _ _ _ _ _=>trivial
theorem ydi{r:Res}{t:List Res}(h:r.Flat)(ht:∀ j,(rl t j).Flat):∀ j,(rl (r::t) j).Flat
  | 0=>h
  | j+1=>ht j
theorem Sep.widen{Lr:Hold}(hC:Sep w no no w' Lr)(hf:∀ j,(Lr j).Flat){O':Nat→Prop}(hlt:∀ k,O' k→k<w.heap.size):Sep w no O' w' Lr:=⟨hC.pure,fun k hk=>⟨hlt k hk,id⟩,fun i=>hf i _ _ _ _ (hC.ok i),hC.bd,hC.nd⟩
theorem Sep.el{τ:Type}(h:Sep w0 S O w L)(i:Nat){c:Cod τ}{A:Option Addr}{l cap:Nat}{xs:List (List τ)}(hi:L i = .ro (FP.sl (cL c) A l cap xs)){k:Int}(hx:0≤k∧k<(xs.length:Int))(j j2:Nat)(hj:L j = .gone)(hj2:L j2 = .gone)(hne:j2≠j) :
    ∃ A' l' cap',w.cell? (ixA A k 1)=some (.slice A' l' cap')∧Sep w0 S O w (stl (stl L j (.ro (FP.sl c A' l' cap' (gx xs k.toNat)))) j2 (.ro (FP.cl (ixA A k 1) (.slice A' l' cap')))):=by
  obtain ⟨A',l',cap',h1,h2,h3⟩:=rd_l (h.ro i hi) hx (fun q=>ycu q)
  refine ⟨A',l',cap',h1,?_⟩
  have s1:=h.addro j hj _ h2
  exact s1.addro j2 (by rw [yas _ _ hne];exact hj2) _ ((FP.cl _ _).sub (O:=Bl O L) ⟨h3,h1⟩ fun k _ hk=>Bl.add_ro hj rfl k hk)
theorem Sep.elo{τ:Type}(h:Sep w0 S O w L)(i:Nat){c:Cod τ}{e:TypeId}{A:Option Addr}{l cap:Nat}{xs:List (List τ)}(hi:L i = .own (cL c) e A l cap xs){k:Int}(hx:0≤k∧k<(xs.length:Int))(j:Nat)(hj:L j = .gone) :
    ∃ A' l' cap',w.cell? (ixA A k 1)=some (.slice A' l' cap')∧Sep w0 S O w (stl L j (.ro (FP.sl c A' l' cap' (gx xs k.toNat)))):=by
  obtain ⟨hl,cells,ho,hE⟩:=h.own i hi
  obtain ⟨vs,⟨A',l',cap',rfl,q1,q2,q3⟩,hu⟩:=hE _ _ (ycu (show k.toNat<xs.length by omega))
  obtain ⟨g,o,rfl,_,h1,_⟩:=ho.cellAt (hu 0 _ rfl)
  refine ⟨A',l',cap',?_,h.addro j hj _ ⟨q1,q2,q3⟩⟩
  rw [yf7];exact h1
theorem Sep.clr(h:Sep w0 S O w L)(i:Nat){p:Addr}{v:Value}(hi:L i = .ro (FP.cl p v)):w.cell? p=some v:=(h.ro i hi).2
theorem sl_drop{τ:Type}{c:Cod τ}{A:Option Addr}{l cap:Nat}{xs:List τ}(h:(FP.sl c A l cap xs).P O w){k:Int}(hk:0≤k∧k≤(xs.length:Int)):(FP.sl c (slA A cap k.toNat c.sz) (l-k.toNat) (cap-k.toNat) (xs.drop k.toNat)).P O w:=by
  obtain ⟨h1,h2,h3⟩:=h
  refine ⟨by rw [List.length_drop,h1],by omega,fun h0=>?_⟩
  rw [List.length_drop] at h0
  obtain ⟨b,off,rfl,hb,ho,hc⟩:=h3 (by omega)
  refine ⟨b,off+k.toNat*c.sz,by unfold slA;rw [if_neg (by omega)];simp [Addr.add_mid],hb,ho,fun j x hx=>?_⟩
  rw [List.getElem?_drop] at hx
  obtain ⟨vs,q1,q2⟩:=hc _ x hx
  refine ⟨vs,q1,fun t u ht=>?_⟩
  have:=q2 t u ht
  rw [Nat.add_mul] at this
  rw [show off+k.toNat*c.sz+j*c.sz+t=off+(k.toNat*c.sz+j*c.sz)+t by omega];exact this
end
end Go.Proofs.YtjepipbkiadcpaaGreat

/- Words for walks whose shallow forms speak of what is read and owned alone (pf.py). No program in sight. -/
namespace Go.Proofs.YtjepipbkiadcpaaGreat
open Go Go.RowKit Go.Shelf Go.Proofs.Tryz
def allP(O:Nat→Prop)(w:World):List FP→Prop
  | []=>True
  | Φ::t=>Φ.P O w∧allP O w t
theorem Sep.startl{w:World}{O:Nat→Prop}(hO:∀ k,O k→k<w.heap.size)(Φs:List FP)(h:allP O w Φs):Sep w no O w (rl (Φs.map .ro)):=by
  have hr:∀ (Φs:List FP) (i:Nat),(rl (Φs.map .ro) i = .gone)∨∃ Φ,rl (Φs.map .ro) i = .ro Φ∧(allP O w Φs→Φ.P O w):=by
    intro Φs
    induction Φs with
    | nil=>intro i;cases i <;> exact .inl rfl
    | cons a t ih =>
      intro i
      cases i with
      | zero=>exact .inr ⟨a,rfl,fun h=>h.1⟩
      | succ i =>
        rcases ih i with q | ⟨Φ,q,hq⟩
        · exact .inl q
        · exact .inr ⟨Φ,q,fun h=>hq h.2⟩
  have hb:∀ i,(rl (Φs.map .ro) i).free:=fun i=>by
    rcases hr Φs i with q | ⟨Φ,q,_⟩ <;> rw [q] <;> rfl
  have hB:∀ k,Bl O (rl (Φs.map .ro)) k→O k:=by
    rintro k (q | ⟨j,hj⟩)
    · exact q
    · exact absurd hj ((hb j).out _)
  refine ⟨Keeps.refl _ _,fun k hk=>⟨hO k hk,id⟩,fun i=>?_,fun i k hi=>absurd hi ((hb i).out _),fun i j k hi=>absurd hi ((hb i).out _)⟩
  rcases hr Φs i with q | ⟨Φ,q,hq⟩
  · rw [q];trivial
  · rw [q];exact Φ.sub (hq h) fun k _ hk=>hB k hk
section
variable {P : Program} {E : Env} {w : World} {d : Option Tmp} {x y z : Operand} {ty xt yt : TypeId} {ps : String} {af : Array Edge} {g : Option (Nat × Bool)}
theorem ybw{A:Option Addr}{l c n:Nat}{e:TypeId}(hx:evE E x = .slice A l c)(hu:P.underlying xt=some (.slice e))(hl:l=n):(execOp (evE E) ⟨d, .call ⟨.builtin .len,#[x],#[xt]⟩,ty,ps,af,g⟩).run P w = .ok (.value (.int .i64 (n:Int))) w:=by
  subst hl;exact yhE hx hu
end
section
variable {P : Program} {E : Env} {w : World} {d : Option Tmp} {x y z : Operand} {ty xt yt : TypeId} {ps : String} {af : Array Edge} {g : Option (Nat × Bool)}
theorem v_seqlx{A:Option Addr}{l c l2 c2:Nat}{e:TypeId}{b:Bool}(hx:evE E x = .slice A l c)(hy:evE E y = .slice none l2 c2)(hu:P.underlying xt=some (.slice e))(hb:Option.isNone A=b):(execOp (evE E) ⟨d, .binOp .eql xt x y yt,ty,ps,af,g⟩).run P w = .ok (.value (.bool b)) w:=by
  subst hb;exact v_seql hx hy hu
end
def asc:List (Nat×Nat)→Nat→Option Nat
  | [],_=>none
  | (i,a)::t,j=>bif Nat.beq j i then some a else asc t j
theorem asc_mem:∀ {l:List (Nat×Nat)} {j a:Nat},asc l j=some a→(j,a)∈l
  | [],_,_,h=>by cases h
  | (i,b)::t,j,a,h=>by
    unfold asc at h
    cases hq:Nat.beq j i with
    | true =>
      rw [hq] at h
      simp at h
      have:=Nat.eq_of_beq_eq_true hq
      subst this;subst h
      exact List.mem_cons_self
    | false=>rw [hq] at h;simp at h;exact List.mem_cons_of_mem _ (asc_mem h)
theorem ydy:∀ {l:List (Nat×Nat)},(l.map (·.2)).Nodup→∀ i j a,asc l i=some a→asc l j=some a→i=j:=by
  intro l hn i j a hi hj
  have h1:=asc_mem hi
  have h2:=asc_mem hj
  clear hi hj
  induction l with
  | nil=>cases h1
  | cons x t ih =>
    rw [List.map_cons,List.nodup_cons] at hn
    rcases List.mem_cons.1 h1 with q | q <;> rcases List.mem_cons.1 h2 with r | r
    · rw [←q] at r;exact (Prod.mk.inj r).1.symm
    · exact absurd (List.mem_map.2 ⟨_,r,by rw [←q]⟩) hn.1
    · exact absurd (List.mem_map.2 ⟨_,q,by rw [←r]⟩) hn.1
    · exact ih hn.2 q r
theorem ya4{o:Option Nat}{a:Nat}(h:o=some a):o≠none:=by rw [h];exact nofun
def LentS(L:Hold)(f:Nat→Option Nat)(k:Nat):Prop:=∃ j,f j≠none∧(L j).has k
def LentO(O:Nat→Prop)(L:Hold)(f:Nat→Option Nat)(k:Nat):Prop:=O k∨∃ j,f j=none∧(L j).has k
def allJ(p:Nat→Prop):List Nat→Prop
  | []=>True
  | a::t=>p a∧allJ p t
theorem allJ.out{p:Nat→Prop} : ∀ {l:List Nat},allJ p l→∀ j∈l,p j
  | a::t,h,j,hj=>by
    rcases List.mem_cons.1 hj with rfl | q
    · exact h.1
    · exact allJ.out h.2 j q
theorem rl_map(L:Hold):∀ (js:List Nat) (i:Nat),rl (js.map L) i=match js[i]? with | some j=>L j | none => .gone
  | [],i=>by cases i <;> rfl
  | a::t,0=>rfl
  | a::t,i+1=>by rw [List.map_cons,rl,rl_map L t i];simp
section
variable {w0 w w' : World} {S O : Nat → Prop} {L : Hold}
theorem Sep.lend(h:Sep w0 S O w L)(f:Nat→Option Nat)(js:List Nat)(hj:js.Nodup)(hf:allJ (fun j=>f j≠none∨(L j).free) js):Sep w (LentS L f) (LentO O L f) w (rl (js.map L)):=by
  have hm:∀ i k,(rl (js.map L) i).has k→∃ j,j∈js∧js[i]? = some j∧(L j).has k:=fun i k hk=>by
    rw [rl_map] at hk
    cases hq:js[i]? with
    | none=>rw [hq] at hk;cases hk
    | some j=>rw [hq] at hk;exact ⟨j,List.mem_of_getElem? hq,rfl,hk⟩
  refine ⟨Keeps.refl _ _,fun k hk=>?_,fun i=>?_,fun i k hk=>?_,fun a b k ha hb=>?_⟩
  · rcases hk with hk | ⟨j,hj,hb⟩
    · refine ⟨Nat.lt_of_lt_of_le (h.lt k hk).1 h.pure.size,?_⟩
      rintro ⟨j,_,hb⟩
      have:=h.lt k hk
      rcases h.bd j k hb with q | q
      · omega
      · exact this.2 q
    · refine ⟨((h.ok j).lt hb).2,?_⟩
      rintro ⟨j2,hj2,hb2⟩
      have:=h.nd j j2 k hb hb2
      subst this
      exact hj2 hj
  · rw [rl_map]
    cases hq:js[i]? with
    | none=>trivial
    | some j =>
      refine (h.ok j).sub fun k _ hk=>?_
      rcases hk with (q | ⟨j2,_,q⟩) | ⟨i2,q⟩
      · exact .inl q
      · exact .inr ⟨j2,q⟩
      · obtain ⟨j3,_,_,q3⟩:=hm i2 k q
        exact .inr ⟨j3,q3⟩
  · obtain ⟨j,hj1,_,hb⟩:=hm i k hk
    refine .inr ⟨j,?_,hb⟩
    rcases hf.out j hj1 with q | q
    · exact q
    · exact absurd hb (q.out _)
  · obtain ⟨j1,_,h1,b1⟩:=hm a k ha
    obtain ⟨j2,_,h2,b2⟩:=hm b k hb
    have:=h.nd j1 j2 k b1 b2
    subst this
    obtain ⟨l1,e1⟩:=List.getElem?_eq_some_iff.1 h1
    obtain ⟨l2,e2⟩:=List.getElem?_eq_some_iff.1 h2
    exact (List.getElem_inj hj).1 (e1.trans e2.symm)
theorem Sep.back(h:Sep w0 S O w L)(f:Nat→Option Nat)(inj:∀ i j a,f i=some a→f j=some a→i=j){Lr:Hold}(hC:Sep w (LentS L f) (LentO O L f) w' Lr):Sep w0 S O w' (pick L Lr f):=by
  have hn:∀ j,f j=none→pick L Lr f j=L j:=fun j hq=>by unfold pick;rw [hq]
  have hsm:∀ j a,f j=some a→pick L Lr f j=Lr a:=fun j a hq=>by unfold pick;rw [hq]
  have hs:∀ k,Bl O (pick L Lr f) k→Bl (LentO O L f) Lr k:=by
    rintro k (q | ⟨j,hj⟩)
    · exact .inl (.inl q)
    · cases hq:f j with
      | none=>rw [hn j hq] at hj;exact .inl (.inr ⟨j,hq,hj⟩)
      | some a=>rw [hsm j a hq] at hj;exact .inr ⟨a,hj⟩
  refine h.step (T:=LentS L f) hC.pure (fun k _ ⟨j,_,hj⟩=>⟨j,hj⟩) (fun j k hk=>?_) (fun j=>?_) (fun x y k hx hy=>?_)
  · cases hq:f j with
    | none=>rw [hn j hq] at hk;exact .inl ⟨j,hk⟩
    | some a =>
      rw [hsm j a hq] at hk
      rcases hC.bd a k hk with q | ⟨j2,_,q⟩
      · exact .inr q
      · exact .inl ⟨j2,q⟩
  · cases hq:f j with
    | none =>
      refine .inl ⟨j,hn j hq,fun k hk=>?_⟩
      rintro ⟨j2,h2,hb⟩
      have:=h.nd j j2 k hk hb
      subst this
      exact h2 hq
    | some a=>rw [hsm j a hq];exact .inr ((hC.ok a).sub fun k _ hk=>hs k hk)
  · have cross:∀ x y b,f x=none→f y=some b→(L x).has k→(Lr b).has k→False:=fun x y b hx hy h1 h2=>by
      rcases hC.bd b k h2 with q | ⟨j2,q2,q⟩
      · have:=((h.ok x).lt h1).2;omega
      · have:=h.nd x j2 k h1 q
        subst this
        exact q2 hx
    cases hq:f x with
    | none =>
      rw [hn x hq] at hx
      cases hq2:f y with
      | none=>rw [hn y hq2] at hy;exact h.nd x y k hx hy
      | some b=>rw [hsm y b hq2] at hy;exact (cross x y b hq hq2 hx hy).elim
    | some a =>
      rw [hsm x a hq] at hx
      cases hq2:f y with
      | none=>rw [hn y hq2] at hy;exact (cross y x a hq2 hq hy hx).elim
      | some b=>rw [hsm y b hq2] at hy;have:=hC.nd a b k hx hy;subst this;exact inj x y a hq hq2
end
def FP.st(Φ:World→Prop):FP:=⟨fun O w=>∀ w',Keeps O w w'→Φ w',fun h hk w' hk'=>h w' (hk.trans hk'),fun h hs w' hk=>h w' (hk.mono hs)⟩
theorem nil_sl{τ:Type}(c:Cod τ)(O:Nat→Prop)(w:World):(FP.sl c none 0 0 []).P O w:=⟨rfl,Nat.le_refl _,Sl.nil _ _ _ _⟩
theorem ro_R{τ:Type}{c:Cod τ}{O:Nat→Prop}{w:World}{A:Option Addr}{l cap:Nat}{xs:List τ}(h:(FP.sl c A l cap xs).P O w):(cL c).R O w [.slice A l cap] xs:=⟨A,l,cap,rfl,h⟩
theorem rd_nil{τ:Type}{c:Cod τ}{O:Nat→Prop}{w:World}{A:Option Addr}{l cap:Nat}{xs:List τ}(h:(FP.sl c A l cap xs).P O w):A.isNone=true→xs=[]:=fun hA=>by
  rcases Nat.eq_zero_or_pos xs.length with h0 | h0
  · exact List.length_eq_zero_iff.1 h0
  · obtain ⟨b,off,e,_⟩:=h.2.2 h0
    rw [e] at hA;cases hA
theorem ya8{P:Program}{f:FuncId}{vs vs':Array Value}{w:World}{R:Ending→World→Prop}(e:vs=vs')(h:Calls P f vs w R):Calls P f vs' w R:=by subst e;exact h
end Go.Proofs.YtjepipbkiadcpaaGreat

/- Maps of one's own, keyed by arrays of numbers: what they hold as a list of pairs. No program in sight. -/
namespace Go.Proofs.YtjepipbkiadcpaaGreat
open Go Go.RowKit Go.Shelf Go.Proofs.Tryz
def kE(l:List Int):Value := .agg (l.map (Value.int .i64)).toArray
theorem kE_inj{a b:List Int}(h:kE a=kE b):a=b:=by
  unfold kE at h
  simp only [Value.agg.injEq] at h
  have h2:a.map (Value.int .i64)=b.map (Value.int .i64):=by simpa using congrArg Array.toList h
  exact (List.map_inj_right (fun x y hxy=>by simpa using hxy)).1 h2
section
variable {τ : Type}
def mEs(vE:τ→Value):Nat→List (List Int×τ)→List MapEntry
  | _,[]=>[]
  | i,p::t=>⟨kE p.1,vE p.2,i⟩::mEs vE (i+1) t
def mapO(vE:τ→Value)(m:List (List Int×τ)):Obj := .map (mEs vE 0 m).toArray m.length
def mget:List (List Int×τ)→List Int→Option τ
  | [],_=>none
  | p::t,k=>if p.1=k then some p.2 else mget t k
def mput:List (List Int×τ)→List Int→τ→List (List Int×τ)
  | [],k,v=>[(k,v)]
  | p::t,k,v=>if p.1=k then (k,v)::t else p::mput t k v
def yhl(n:Nat)(k:List Int):Prop:=k.length=n∧∀ x∈k,In64 x
def KOk(n:Nat)(m:List (List Int×τ)):Prop:=m.Pairwise (fun p q=>p.1≠q.1)∧∀ p∈m,yhl n p.1
theorem KOk.nil(n:Nat):KOk n ([]:List (List Int×τ)):=⟨.nil,fun p h=>by simp at h⟩
theorem mput_mem{m:List (List Int×τ)}{k:List Int}{v:τ}{p:List Int×τ}(h:p∈mput m k v):p.1=k∨p∈m:=by
  induction m with
  | nil=>simp [mput] at h;left;rw [h]
  | cons a t ih =>
    unfold mput at h
    split at h
    · rcases List.mem_cons.1 h with h | h
      · left;rw [h]
      · right;exact List.mem_cons_of_mem _ h
    · rcases List.mem_cons.1 h with h | h
      · right;rw [h];exact List.mem_cons_self
      · rcases ih h with h | h
        · exact .inl h
        · exact .inr (List.mem_cons_of_mem _ h)
theorem KOk.put{n:Nat}{m:List (List Int×τ)}(h:KOk n m){k:List Int}(hk:yhl n k)(v:τ):KOk n (mput m k v):=by
  refine ⟨?_,fun p hp=>?_⟩
  · obtain ⟨h1, -⟩:=h
    induction m with
    | nil=>exact .cons (fun _ h=>by simp at h) .nil
    | cons a t ih =>
      unfold mput
      rw [List.pairwise_cons] at h1
      split
      · rename_i e
        rw [List.pairwise_cons]
        exact ⟨fun q hq=>by have:=h1.1 q hq;rw [e] at this;exact this,h1.2⟩
      · rename_i e
        rw [List.pairwise_cons]
        refine ⟨fun q hq=>?_,ih h1.2⟩
        rcases mput_mem hq with h | h
        · rw [h];exact e
        · exact h1.1 q h
  · rcases mput_mem hp with h1 | h1
    · rw [h1];exact hk
    · exact h.2 p h1
theorem mget_put{m:List (List Int×τ)}{k k':List Int}{v:τ} : mget (mput m k v) k'=if k=k' then some v else mget m k':=by
  induction m with
  | nil=>rfl
  | cons a t ih =>
    unfold mput
    by_cases e:a.1=k
    · rw [if_pos e]
      show (if k=k' then some v else mget t k')=_
      by_cases e2:k=k'
      · rw [if_pos e2,if_pos e2]
      · rw [if_neg e2,if_neg e2]
        show _=if a.1=k' then some a.2 else mget t k'
        rw [if_neg (by rw [e];exact e2)]
    · rw [if_neg e]
      show (if a.1=k' then some a.2 else mget (mput t k v) k')=_
      rw [ih]
      by_cases e2:k=k'
      · subst e2;simp [e]
      · rw [if_neg e2,if_neg e2];rfl
theorem mget_mem{m:List (List Int×τ)}{k:List Int}{v:τ}(h:mget m k=some v):(k,v)∈m:=by
  induction m with
  | nil=>cases h
  | cons a t ih =>
    unfold mget at h
    split at h
    · rename_i e
      cases h
      rw [←e];exact List.mem_cons_self
    · exact List.mem_cons_of_mem _ (ih h)
theorem yhb(vE:τ→Value):∀ (m:List (List Int×τ)) (i j:Nat),(mEs vE i m)[j]? = m[j]?.map fun p=>⟨kE p.1,vE p.2,i+j⟩
  | [],_,_=>by simp [mEs]
  | p::t,i,0=>by simp [mEs]
  | p::t,i,j+1=>by
    rw [mEs,List.getElem?_cons_succ,List.getElem?_cons_succ,yhb vE t (i+1) j]
    congr 1
    funext p
    rw [Nat.add_assoc,Nat.add_comm 1 j]
theorem mget_none{m:List (List Int×τ)}{k:List Int}(h:∀ p∈m,p.1≠k):mget m k=none:=by
  induction m with
  | nil=>rfl
  | cons a t ih =>
    unfold mget
    rw [if_neg (h a List.mem_cons_self)]
    exact ih fun p hp=>h p (List.mem_cons_of_mem _ hp)
theorem mget_at{m:List (List Int×τ)}(hd:m.Pairwise (fun p q=>p.1≠q.1)){k:List Int}{v:τ}{j:Nat}(h:m[j]? = some (k,v)):mget m k=some v:=by
  induction m generalizing j with
  | nil=>simp at h
  | cons a t ih =>
    rw [List.pairwise_cons] at hd
    unfold mget
    cases j with
    | zero=>simp at h;subst h;rw [if_pos rfl]
    | succ j =>
      rw [List.getElem?_cons_succ] at h
      rw [if_neg (hd.1 _ (List.mem_of_getElem? h))]
      exact ih hd.2 h
theorem mput_at{m:List (List Int×τ)}(hd:m.Pairwise (fun p q=>p.1≠q.1)){k:List Int}{v v':τ}{j:Nat}(h:m[j]? = some (k,v)):mput m k v'=m.set j (k,v'):=by
  induction m generalizing j with
  | nil=>simp at h
  | cons a t ih =>
    rw [List.pairwise_cons] at hd
    unfold mput
    cases j with
    | zero=>simp at h;subst h;rw [if_pos rfl];rfl
    | succ j =>
      rw [List.getElem?_cons_succ] at h
      rw [if_neg (hd.1 _ (List.mem_of_getElem? h)),List.set_cons_succ,ih hd.2 h]
theorem mput_none{m:List (List Int×τ)}{k:List Int}{v:τ}(h:∀ p∈m,p.1≠k):mput m k v=m++[(k,v)]:=by
  induction m with
  | nil=>rfl
  | cons a t ih =>
    unfold mput
    rw [if_neg (h a List.mem_cons_self),ih fun p hp=>h p (List.mem_cons_of_mem _ hp)]
    rfl
end
section
variable {τ : Type} {P : Program} {w : World} {k e mt : TypeId} {n : Nat} {vE : τ → Value} {m : List (List Int × τ)} {b : Nat} {key : List Int}
structure KeyT(P:Program)(k:TypeId)(n:Nat):Prop where
  law:Maps.Keyed P k
  of:∀ l,yhl n l→∃ t,keyOf P k (kE l)=some t
theorem find_m(T:KeyT P k n)(hm:KOk n m)(hk:yhl n key) :
    ((Instr.findKey k (kE key) (mEs vE 0 m)).run P w = .ok none w∧∀ p∈m,p.1≠key)∨∃ j v,(Instr.findKey k (kE key) (mEs vE 0 m)).run P w = .ok (some (j,vE v)) w∧m[j]? = some (key,v):=by
  obtain ⟨t,ht⟩:=T.of key hk
  have hes:∀ x∈mEs vE 0 m,∃ p∈m,x.key=kE p.1:=fun x hx=>by
    obtain ⟨j,hj⟩:=List.getElem?_of_mem hx
    rw [yhb] at hj
    cases hq:m[j]? with
    | none=>rw [hq] at hj;cases hj
    | some p=>rw [hq] at hj;cases hj;exact ⟨p,List.mem_of_getElem? hq,rfl⟩
  rcases T.law.find w ht (mEs vE 0 m) (fun x hx=>by obtain ⟨p,hp,e⟩:=hes x hx;rw [e];exact T.of _ (hm.2 p hp)) with ⟨h1,h2⟩ | ⟨j,x,h1,h2,h3⟩
  · refine .inl ⟨h1,fun p hp e=>?_⟩
    obtain ⟨j,hj⟩:=List.getElem?_of_mem hp
    have:(mEs vE 0 m)[j]? = some ⟨kE p.1,vE p.2,0+j⟩:=by rw [yhb,hj];rfl
    exact h2 _ (List.mem_of_getElem? this) (by rw [e])
  · rw [yhb] at h2
    cases hq:m[j]? with
    | none=>rw [hq] at h2;cases h2
    | some p =>
      rw [hq] at h2
      cases h2
      have e:=kE_inj h3
      refine .inr ⟨j,p.2,h1,?_⟩
      rw [←e];exact hq
theorem run_mget1(T:KeyT P k n)(hm:KOk n m)(hk:yhl n key)(hu:P.underlying mt=some (.map k e)){x0:τ}{by_:Nat}(hz:(P.info? e).map (fun i=>(i.zero,i.size,i.bytes))=some (some (vE x0),1,by_))(hb:w.heap[b]? = some (mapO vE m)) :
    (Instr.lookup mt (.map (some b)) (kE key) false).run P w = .ok (vE ((mget m key).getD x0)) w:=by
  obtain ⟨t,ht⟩:=T.of key hk
  rcases find_m (vE:=vE) (w:=w) T hm hk with ⟨h1,h2⟩ | ⟨j,v,h1,h2⟩
  · rw [mget_none h2]
    simp [Instr.lookup,run_underlying hu,MapKept.run_getObj_map hb,T.law.check w _ ht,h1,ydB hz,Result.andThen]
  · rw [mget_at hm.1 h2]
    simp [Instr.lookup,run_underlying hu,MapKept.run_getObj_map hb,T.law.check w _ ht,h1,Result.andThen]
theorem mEs_set(vE:τ→Value){m:List (List Int×τ)}{j:Nat}{v v':τ}(h:m[j]? = some (key,v)):(mEs vE 0 m).toArray.modify j (fun x=>{ x with key:=kE key,val:=vE v' })=(mEs vE 0 (m.set j (key,v'))).toArray:=by
  apply Array.ext_getElem?
  intro i
  rw [Array.getElem?_modify]
  simp only [List.getElem?_toArray,yhb,List.getElem?_set]
  by_cases e:j=i
  · subst e
    rw [if_pos rfl,if_pos rfl,h,if_pos (List.getElem?_eq_some_iff.1 h).1]
    rfl
  · rw [if_neg e,if_neg e]
theorem mEs_push(vE:τ→Value)(m:List (List Int×τ))(v:τ):(mEs vE 0 m).toArray.push ⟨kE key,vE v,m.length⟩=(mEs vE 0 (m++[(key,v)])).toArray:=by
  have H:∀ (m:List (List Int×τ)) (i:Nat),mEs vE i (m++[(key,v)])=mEs vE i m++[⟨kE key,vE v,i+m.length⟩]:=by
    intro m
    induction m with
    | nil=>intro i;rfl
    | cons a t ih=>intro i;simp only [List.cons_append,mEs,ih,List.length_cons];rw [Nat.add_assoc,Nat.add_comm 1]
  rw [H];simp
theorem run_mput(T:KeyT P k n)(hm:KOk n m)(hk:yhl n key)(hu:P.underlying mt=some (.map k e))(hb:w.heap[b]? = some (mapO vE m))(v:τ) :
    ∃ w',(Instr.mapUpdate mt (.map (some b)) (kE key) (vE v)).run P w = .ok () w'∧w'.heap[b]? = some (mapO vE (mput m key v))∧Keeps (fun j=>j=b) w w':=by
  obtain ⟨t,ht⟩:=T.of key hk
  have hKp:∀ o:Obj,Keeps (fun j=>j=b) w { w with heap:=w.heap.setIfInBounds b o }:=fun o=>⟨rfl,rfl,rfl,by simp,fun j _ hj=>(MapKept.heap_set hb).2 j hj⟩
  have hb':w.heap[b]? = some (.map (mEs vE 0 m).toArray m.length):=hb
  rcases find_m (vE:=vE) (w:=w) T hm hk with ⟨h1,h2⟩ | ⟨j,v0,h1,h2⟩
  · refine ⟨{ w with heap:=w.heap.setIfInBounds b (.map ((mEs vE 0 m).toArray.push ⟨kE key,vE v,m.length⟩) (m.length+1)) },?_,?_,hKp _⟩
    · simp [Instr.mapUpdate,run_underlying hu,MapKept.run_getObj_map hb',T.law.check w _ ht,h1,MapKept.run_setObj_map _ hb',Result.andThen]
    · rw [(MapKept.heap_set hb').1,mput_none h2,mEs_push]
      simp [mapO]
  · have hj:(mEs vE 0 m)[j]? = some ⟨kE key,vE v0,0+j⟩:=by rw [yhb,h2];rfl
    refine ⟨{ w with heap:=w.heap.setIfInBounds b (.map ((mEs vE 0 m).toArray.modify j (fun x=>{ x with key:=kE key,val:=vE v })) m.length) },?_,?_,hKp _⟩
    · simp [Instr.mapUpdate,run_underlying hu,MapKept.run_getObj_map hb',T.law.check w _ ht,h1,hj,T.law.stays w ht,MapKept.run_setObj_map _ hb',Result.andThen]
    · rw [(MapKept.heap_set hb').1,mput_at hm.1 h2,mEs_set vE h2]
      simp [mapO]
end
theorem n_val{P:Program}{o:Oper}{ρ:Operand→Value}{w:World}{K:Value→World→Prop}{v:Value}(h:(execOp ρ o).run P w = .ok (.value v) w)(hk:K v w):ybd P o ρ w K:=by
  unfold ybd;rw [h];exact hk
section
variable {τ : Type} {P : Program} {E : Env} {w : World} {d : Option Tmp} {x y z : Operand} {ty xt k e : TypeId} {ps : String} {af : Array Edge} {g : Option (Nat × Bool)} {K : Value → World → Prop} {n b : Nat} {vE : τ → Value} {m : List (List Int × τ)} {key : List Int}
theorem n_mkmap{o:Option Operand}(hx:o=none)(h:∀ g' w',g'=w.heap.size→w'=w.alloc (mapO vE ([]:List (List Int×τ)))→K (.map (some g')) w'):ybd P ⟨d, .makeMap xt o,ty,ps,af,g⟩ (evE E) w K:=by
  subst hx
  unfold ybd execOp
  simp only [Instr.makeMap,newObj,Option.map_none,Sem.run_bind,Sem.run_pure,Result.andThen,Sem.run]
  exact h _ _ rfl rfl
theorem v_mget1(T:KeyT P k n)(hm:KOk n m)(hk:yhl n key)(hx:evE E x = .map (some b))(hy:evE E y=kE key)(hu:P.underlying xt=some (.map k e)){x0:τ}{by_:Nat}(hz:(P.info? e).map (fun i=>(i.zero,i.size,i.bytes))=some (some (vE x0),1,by_))(hb:w.heap[b]? = some (mapO vE m)) :
    (execOp (evE E) ⟨d, .lookup xt x y false,ty,ps,af,g⟩).run P w = .ok (.value (vE ((mget m key).getD x0))) w:=by
  have:=run_mget1 (w:=w) T hm hk hu hz hb
  unfold execOp
  simp only [hx,hy,this,Sem.run_bind,Sem.run_pure,Result.andThen]
theorem n_mput(T:KeyT P k n)(hm:KOk n m)(hk:yhl n key){v:τ}(hx:evE E x = .map (some b))(hy:evE E y=kE key)(hz:evE E z=vE v)(hu:P.underlying xt=some (.map k e))(hb:w.heap[b]? = some (mapO vE m))
    (h:∀ w',w'.heap[b]? = some (mapO vE (mput m key v))→Keeps (fun j=>j=b) w w'→K undef w'):ybd P ⟨d, .mapUpdate xt x y z,ty,ps,af,g⟩ (evE E) w K:=by
  obtain ⟨w',h1,h2,h3⟩:=run_mput T hm hk hu hb v
  unfold ybd execOp
  simp only [hx,hy,hz,h1,Sem.run_bind,Sem.run_pure,Result.andThen]
  exact h w' h2 h3
theorem n_minsert(T:KeyT P k n)(hm:KOk n m)(hk:yhl n key){v:τ}(hx:evE E x = .map (some b))(hy:evE E y=kE key)(hz:evE E z=vE v)(hu:P.underlying xt=some (.map k e))(hb:w.heap[b]? = some (mapO vE m))
    (h:∀ w',w'.heap[b]? = some (mapO vE (mput m key v))→Keeps (fun j=>j=b) w w'→K undef w'):ybd P ⟨d, .insert xt x y z,ty,ps,af,g⟩ (evE E) w K:=by
  obtain ⟨w',h1,h2,h3⟩:=run_mput T hm hk hu hb v
  unfold ybd execOp
  simp only [hx,hy,hz,h1,Sem.run_bind,Sem.run_pure,Result.andThen]
  exact h w' h2 h3
end
section
variable {τ : Type} {w0 w w' : World} {S O : Nat → Prop} {L : Hold} {vE : τ → Value} {m : List (List Int × τ)} {b : Nat}
theorem Sep.newm(h:Sep w0 S O w L)(i:Nat)(hi:L i = .gone){g:Nat}{o:Obj}(h1:g=w.heap.size)(h2:w'=w.alloc o):Sep w0 S O w' (stl L i (.obj g o)):=by
  subst h1
  refine h.add i hi _ (w':=w') (by rw [h2];exact (Keeps.refl _ _).alloc _) (fun k hk=>by cases hk;exact Nat.le_refl _) ⟨Nat.zero_le _,?_⟩
  rw [h2];exact heap_alloc_new w _
theorem Sep.mp(h:Sep w0 S O w L)(i:Nat){g:Nat}{o:Obj}(hi:L i = .obj g o):w.heap[g]? = some o:=by
  have:=h.ok i;rw [hi] at this;exact this.2
theorem Sep.mst(h:Sep w0 S O w L)(i:Nat){g:Nat}{o o':Obj}(hi:L i = .obj g o)(h1:w'.heap[g]? = some o')(h2:Keeps (fun j=>j=g) w w'):Sep w0 S O w' (stl L i (.obj g o')) :=
  h.upd i _ h2 (fun k _ e=>by rw [hi,e]) (fun k hk=>by cases hk;rw [hi];exact .inl rfl) ⟨Nat.zero_le _,h1⟩
end
section
variable {τ : Type} {c : Cod τ} {O : Nat → Prop} {w : World} {A : Option Addr} {l cap : Nat} {xs : List τ}
theorem yhZ{P:Program}{xt:TypeId}{zo:Option Value}{b:Nat}{xs:List Int}(hi:(P.info? xt).map (fun i=>(i.zero,i.size,i.bytes))=some (zo,l,b))(h:(FP.sl cI A l cap xs).P O w) :
    (P.info? xt).map (fun i=>(i.zero,i.size,i.bytes))=some (zo,(xs.map (Value.int .i64)).length,b):=by rw [hi,List.length_map,ybh h]
theorem ygR{g:Nat}{xs:List Int}(h:(FP.sl cI (some ⟨g,0,none⟩) l cap xs).P O w):Cells w ⟨g,0,none⟩ 0 (xs.map (Value.int .i64)):=by
  have H:∀ (ys:List Int) (k:Nat),(∀ j,j<ys.length→xs[k+j]? = ys[j]?)→Cells w ⟨g,0,none⟩ k (ys.map (Value.int .i64)):=by
    intro ys
    induction ys with
    | nil=>intro k _;trivial
    | cons y t ih =>
      intro k hk
      have h0:=hk 0 (by simp)
      simp only [Nat.add_zero,List.getElem?_cons_zero] at h0
      have hlt:=(List.getElem?_eq_some_iff.1 h0).1
      have hc:=rd_1 (f:=fI .i64) h (i:=(k:Int)) (x:=y) ⟨by omega,by omega⟩ (fun _=>by simpa using h0) (u := .int .i64 y) rfl
      refine ⟨?_,ih (k+1) fun j hj=>?_⟩
      · have e:ixA (some (⟨g,0,none⟩:Addr)) (k:Int) (fI .i64).sz=(⟨g,0,none⟩:Addr).add k:=by
          show (⟨g,0,none⟩:Addr).add ((k:Int).toNat*1)=_
          rw [Int.toNat_natCast,Nat.mul_one]
        rwa [e] at hc
      · have:=hk (j+1) (by simpa using hj)
        rw [List.getElem?_cons_succ] at this
        rw [←this];congr 1;omega
  exact H xs 0 fun j _=>by rw [Nat.zero_add]
end
section
variable {P : Program} {E : Env} {w : World} {d : Option Tmp} {x y z : Operand} {ty xt yt : TypeId} {ps : String} {af : Array Edge} {g : Option (Nat × Bool)} {K : Value → World → Prop}
theorem v_slice_a{gb:Nat}{l:Nat}{e:TypeId}{zo:Option Value}{n b:Nat}(hx:evE E x = .pointer (some ⟨gb,0,none⟩))(hu:P.underlying xt=some (.array l e))
    (hi:(P.info? e).map (fun i=>(i.zero,i.size,i.bytes))=some (zo,n,b)):(execOp (evE E) ⟨d, .slice xt x none none none,ty,ps,af,g⟩).run P w = .ok (.value (.slice (some ⟨gb,0,none⟩) l l)) w:=by
  have e1:(⟨gb,0,none⟩:Addr).add (0*n)=⟨gb,0,none⟩:=by rw [Addr.add_mid];simp
  unfold execOp
  simp only [hx,Instr.sliceAt,Instr.sureAddr,Instr.sliceBounds,Option.map_none,Sem.run_bind,Sem.run_pure,Result.andThen,run_underlying hu,ybN hi,e1,ite_self,Nat.sub_zero]
def cpy(xs ys:List Int):List Int:=ys.take xs.length++xs.drop ys.length
theorem cpy_length(xs ys:List Int):(cpy xs ys).length=xs.length:=by unfold cpy;simp;omega
theorem gi_cpy{xs ys:List Int}{i:Nat}(hi:i<xs.length):gi (cpy xs ys) i=if i<ys.length then gi ys i else gi xs i:=by
  have hg:∀ (l:List Int) k,gi l k=(l[k]?).getD 0:=fun l k=>by unfold gi;simp
  rw [hg,hg,hg]
  unfold cpy
  rw [List.getElem?_append,List.length_take,List.getElem?_take,List.getElem?_drop]
  by_cases h:i<ys.length
  · rw [if_pos (by omega),if_pos hi,if_pos h]
  · rw [if_neg (by omega),if_neg h]
    congr 2;omega
theorem OwnS.setN{B:Nat}{e:TypeId}{l c g:Nat} : ∀ (vs:List Value) (k:Nat) {w:World} {xs:List Value},OwnS w B e 1 (some ⟨g,0,none⟩) l c xs→k+vs.length≤xs.length→OwnS (w.setCells g k vs) B e 1 (some ⟨g,0,none⟩) l c (xs.take k++vs++xs.drop (k+vs.length))
  | [],k,w,xs,h,hk=>by
    have e:w.setCells g k []=w:=rfl
    rw [e];simpa using h
  | v::t,k,w,xs,h,hk=>by
    simp only [List.length_cons] at hk
    have h1:=h.set1 (i:=k) (by omega) v rfl
    rw [Nat.zero_add] at h1
    have h2:=OwnS.setN t (k+1) h1 (by rw [List.length_set];omega)
    have e1:(xs.set k v).take (k+1)=xs.take k++[v]:=by
      rw [List.take_add_one,List.take_set_of_le (Nat.le_refl k),List.getElem?_set_self (by omega)];rfl
    have e2:(xs.set k v).drop (k+1+t.length)=xs.drop (k+(t.length+1)):=by
      rw [List.drop_set_of_lt (by omega),show k+1+t.length=k+(t.length+1) by omega]
    rw [e1,e2,List.append_assoc (xs.take k)] at h2
    exact h2
theorem Sep.copied{w0 w':World}{S O:Nat→Prop}{L:Hold}(h:Sep w0 S O w L)(i:Nat){t:TypeId}{gb l cp:Nat}{xs ys:List Int}(hi:L i = .own cI t (some ⟨gb,0,none⟩) l cp xs)(hw:w'=w.setCells gb 0 ((ys.take l).map (Value.int .i64))) :
    Sep w0 S O w' (stl L i (.own cI t (some ⟨gb,0,none⟩) l cp (cpy xs ys))):=by
  obtain ⟨hl,cells,ho,hE⟩:=h.own i hi
  have hcl:cells=xs.map (Value.int .i64):=by
    refine List.ext_getElem? fun j=>?_
    rw [List.getElem?_map]
    cases hq:xs[j]? with
    | none =>
      have:=List.getElem?_eq_none_iff.1 hq
      rw [List.getElem?_eq_none (by rw [ho.1];show l*1≤j;omega)];rfl
    | some q =>
      obtain ⟨vs,hv,hc⟩:=hE j q hq
      have hv:vs=[.int .i64 q]:=hv
      subst hv
      have:=hc 0 _ rfl
      have e3:j*cI.sz+0=j:=by show j*1+0=j;omega
      rw [e3] at this
      exact this
  subst hcl
  have hn:=OwnS.setN ((ys.take l).map (Value.int .i64)) 0 ho (by simp;omega)
  have ecp:(xs.map (Value.int .i64)).take 0++(ys.take l).map (Value.int .i64)++(xs.map (Value.int .i64)).drop (0+((ys.take l).map (Value.int .i64)).length)=(cpy xs ys).map (Value.int .i64):=by
    have e4:((ys.take l).map (Value.int .i64)).length=min l ys.length:=by simp
    unfold cpy
    rw [List.take_zero,List.nil_append,Nat.zero_add,e4,List.map_append,hl,←List.map_drop]
    congr 2
    by_cases c:ys.length≤xs.length
    · rw [Nat.min_eq_right c]
    · rw [List.drop_eq_nil_of_le (by omega),List.drop_eq_nil_of_le (by omega)]
  rw [ecp] at hn
  have hblk:(L i).has gb:=by rw [hi];rfl
  have hK:∀ (vs:List Value) (o:Nat) {a w:World},Keeps (fun k=>k=gb) a w→Keeps (fun k=>k=gb) a (w.setCells gb o vs):=by
    intro vs
    induction vs with
    | nil=>intro o a w h;exact h
    | cons v t ih=>intro o a w h;exact ih (o+1) (h.setCell (p:=⟨gb,o,none⟩) (fun _=>rfl) v)
  refine h.upd i _ (T:=fun k=>k=gb) (by rw [hw];exact hK _ _ (Keeps.refl _ _)) (fun k _ e=>by rw [e];exact hblk) (fun k hk => .inl (by rw [hi];exact hk)) ⟨by rw [cpy_length];exact hl,_,by rw [hw];exact hn,fun j q hj=>⟨[.int .i64 q],rfl,fun u v hu=>?_⟩⟩
  have hu0:u=0:=by
    have:=(List.getElem?_eq_some_iff.1 hu).1
    simp at this;exact this
  subst hu0
  simp at hu
  subst hu
  have e3:j*cI.sz+0=j:=by show j*1+0=j;omega
  rw [e3,List.getElem?_map,hj];rfl
theorem n_cpy{w0:World}{S O:Nat→Prop}{L:Hold}{e t:TypeId}{zo:Option Value}{b gb l cp m c':Nat}{C:Option Addr}{xs ys:List Int}(hx:evE E x = .slice (some ⟨gb,0,none⟩) l cp)(hy:evE E y = .slice C m c')(hu:P.underlying xt=some (.slice e))(hi:(P.info? e).map (fun i=>(i.zero,i.size,i.bytes))=some (zo,1,b))
    (hS:Sep w0 S O w L) (i:Nat) (hi':L i = .own cI t (some ⟨gb,0,none⟩) l cp xs) (hr:(FP.sl cI C m c' ys).P no w) (h0:0<ys.length)
    (h:∀ w',Sep w0 S O w' (stl L i (.own cI t (some ⟨gb,0,none⟩) l cp (cpy xs ys)))→K (.int .i64 ((min ys.length l:Nat):Int)) w'):ybd P ⟨d, .call ⟨.builtin .copy,#[x,y],#[xt,yt]⟩,ty,ps,af,g⟩ (evE E) w K:=by
  have hlx:=ybh (hS.rdo i hi')
  obtain ⟨hly,hmc,hsl⟩:=hr
  obtain ⟨yb,yo,rfl, -, -,hyc⟩:=hsl h0
  refine n_copy hx hy hu hi ⟨gb,0,⟨yb,yo,none⟩,(ys.take l).map (Value.int .i64),rfl,rfl,by simp;omega,fun j u hj=>?_,fun u hu=>?_,?_,fun w' hw'=>?_⟩
  · rw [List.getElem?_map,List.getElem?_take] at hj
    split at hj
    · cases hq:ys[j]? with
      | none=>rw [hq] at hj;cases hj
      | some q =>
        rw [hq] at hj
        cases hj
        obtain ⟨vs,hv,hc⟩:=hyc j q hq
        have hv:vs=[.int .i64 q]:=hv
        subst hv
        have:=hc 0 _ rfl
        rw [Addr.add_mid]
        simpa [cI,Fl.cod,fI] using this
    · cases hj
  · obtain ⟨q,_,rfl⟩:=List.mem_map.1 hu;rfl
  · obtain ⟨hl,cells,ho,hE⟩:=hS.own i hi'
    intro j hj
    rw [List.length_map,List.length_take] at hj
    obtain ⟨vs,hv,hc⟩:=hE j xs[j] (List.getElem?_eq_getElem (by omega))
    have hv:vs=[.int .i64 xs[j]]:=hv
    subst hv
    obtain ⟨g',o',e',_,h1,h2⟩:=ho.cellAt (hc 0 _ rfl)
    cases e'
    have e3:j*cI.sz+0=j:=by show j*1+0=j;omega
    rw [e3] at h1 h2
    exact ⟨by rw [h1];rfl,h2⟩
  · have hK:=h w' (hS.copied i hi' hw')
    rw [←hly] at hK
    exact hK
end
theorem mapM_opt{α β:Type}{f:α→Option β} : ∀ {L:List α},(∀ a∈L,∃ b,f a=some b)→∃ bs,L.mapM f=some bs
  | [],_=>⟨[],rfl⟩
  | a::t,h=>by
    obtain ⟨b,hb⟩:=h a (by simp)
    obtain ⟨bs,hbs⟩:=mapM_opt (L:=t) fun c hc=>h c (by simp [hc])
    exact ⟨b::bs,by simp [List.mapM_cons,hb,hbs]⟩
theorem keyT_arr{P:Program}{k e:TypeId}{n m:Nat}(hl:laidOutB P=true)(hm:m+1≤10000)(hrow:k<P.types.size)(hkt:P.keyTypeAt m k=true)(hkt2:P.keyType k=true)(hu:P.underlying k=some (.array n e))(he:P.underlying e=some (.int .i64))(hce:P.cellsOf e=1)(hck:P.cellsOf k=n)(h2:2≤P.types.size):KeyT P k n where
  law:=Maps.Keyed.of_law (deep_law_laid hl hm hrow hkt (by rw [hu]))
  of:=fun l ⟨hll,hin⟩=>by
    obtain ⟨d,hd⟩:∃ d,P.types.size+1=d+1+1+1:=⟨P.types.size-2,by omega⟩
    have hcells:(kE l).cells.toList=l.map (Value.int .i64):=by simp [kE,Value.cells]
    have hform:(kE l).formed P k=true:=by
      unfold kE Value.formed
      simp [hu,hck,hll]
    have helt:∀ i∈List.range n,∃ b,P.keyLits (d+1+1) e (((l.map (Value.int .i64)).drop (i*P.cellsOf e)).take (P.cellsOf e))=some b:=fun i hi=>by
      rw [List.mem_range] at hi
      have hi2:i<l.length:=by omega
      have hx:=hin l[i] (List.getElem_mem hi2)
      have e1:((l.map (Value.int .i64)).drop (i*P.cellsOf e)).take (P.cellsOf e)=[.int .i64 l[i]]:=by
        rw [hce,Nat.mul_one,List.drop_eq_getElem_cons (by simpa using hi2)]
        simp
      rw [e1]
      refine ⟨[.int .i64 l[i]],?_⟩
      have hw:(Lit.int .i64 l[i]).wf=true:=by
        simp only [Lit.wf,Bool.and_eq_true,decide_eq_true_eq]
        exact ⟨hx.1,by have:=hx.2;show l[i]≤9223372036854775807;omega⟩
      simp [Program.keyLits,he,hw]
    obtain ⟨bs,hbs⟩:=mapM_opt helt
    unfold keyOf
    simp only [hu,hkt2,hform,Bool.and_self,if_true,hcells,hd]
    unfold Program.keyLits
    simp only [hu]
    rw [if_pos (by simp [hck,hll]),hbs]
    exact ⟨_,rfl⟩
end Go.Proofs.YtjepipbkiadcpaaGreat

/- A function's end whose results lie partly in memory; pointers that may be nil; products as elements. No program in sight. -/
namespace Go.Proofs.YtjepipbkiadcpaaGreat
open Go Go.RowKit Go.Shelf Go.Proofs.Tryz
def RvE(P:Program)(E:Env)(w:World):ResultVar→Value→Prop
  | .tmp t,v=>E t=v
  | .cell t y,v=>∃ a,E t = .pointer (some a)∧(loadVar y a).run P w = .ok v w
section
variable {P : Program} {E : Env} {w : World} {t : Tmp} {y : TypeId}
theorem rv_n{p:Addr}{u:TypeDesc}{vs:List Value}{zo:Option Value}{b:Nat}(h:E t = .pointer (some p))(hu:P.underlying y=some u)(hn:aggD u=true)(hi:(P.info? y).map (fun i=>(i.zero,i.size,i.bytes))=some (zo,vs.length,b))(hc:Cells w p 0 vs):RvE P E w (.cell t y) (.agg vs.toArray):=by
  refine ⟨p,h,?_⟩
  have:=yfa (P:=P) vs 0 #[] hc
  simp only [loadVar,Sem.run_bind,Result.andThen,ygM hu hn,ybN hi,if_true]
  simp only [loadCells,this,Sem.run_bind,Result.andThen,Sem.run_pure]
  simp
def rv1(tmps:Array Value):ResultVar→Sem Value
  | .tmp t=>pure (tmps.getD t undef)
  | .cell a t=>do loadVar t (←asAddr (tmps.getD a undef))
theorem rv1_run{rv:ResultVar}{v:Value}{N:Nat}{ds:List Deferred}{a:Act}(r:Rep N E ds a)(h:RvE P E w rv v):(rv1 a.tmps rv).run P w = .ok v w:=by
  cases rv with
  | tmp t =>
    show (Sem.run P (pure (a.tmps.getD t undef)) w)=_
    rw [r.get]
    rw [show E t=v from h];rfl
  | cell t y =>
    obtain ⟨p,h1,h2⟩:=h
    show Sem.run P (do loadVar y (←asAddr (a.tmps.getD t undef))) w=_
    rw [r.get,h1]
    simp only [asAddr,Sem.run_bind,Sem.run_pure,Result.andThen,h2]
end
section
variable {P : Program} {fn : Func} {F : Fence} {n : Nat} {N : Nat} {t : List Item} {R : Ending → World → Prop} {E : Env} {w : World} {q1 q2 q3 : ResultVar} {v1 v2 v3 : Value}
theorem results_eq(fn:Func)(tmps:Array Value):results fn tmps=(do let vs ←fn.results.mapM (rv1 tmps);pure (if h:vs.size=1 then vs[0] else .tuple vs)):=rfl
theorem wt_retx1(hr:fn.results = #[q1])(h1:RvE P E w q1 v1)(h:R (.returned v1) w):WT F n P N (.code .ret::t) (bodyPost P fn R) E [] w :=
  yd5 fun a r=>⟨r.defers,_,by
    rw [results_eq,hr]
    simp [Sem.run_bind,Result.andThen,rv1_run r h1],h⟩
end
end Go.Proofs.YtjepipbkiadcpaaGreat

/- Arrays of numbers as values: stored whole, handed back whole. -/
namespace Go.Proofs.YtjepipbkiadcpaaGreat
open Go Go.RowKit Go.Shelf Go.Proofs.Tryz
theorem there_own{w0 w:World}{S O:Nat→Prop}{L:Hold}(h:Sep w0 S O w L)(i:Nat){t:TypeId}{gb l cp:Nat}{xs:List Int}(hi:L i = .own cI t (some ⟨gb,0,none⟩) l cp xs):w.there gb 0 l:=fun j hj=>by
  obtain ⟨hl,cells,ho,hE⟩:=h.own i hi
  have hcl:cells.length=l:=by rw [ho.1];show l*1=l;omega
  obtain ⟨g,o,e,hlt,hcell,hfr⟩:=ho.cellAt (i:=j) (List.getElem?_eq_getElem (by omega))
  cases e
  exact ⟨by rw [hcell];rfl,hfr⟩
theorem Sep.stored{w0 w w':World}{S O:Nat→Prop}{L:Hold}(h:Sep w0 S O w L)(i:Nat){t:TypeId}{gb l cp:Nat}{xs ys:List Int}(hi:L i = .own cI t (some ⟨gb,0,none⟩) l cp xs)(hy:ys.length=l)(hw:w'=w.setCells gb 0 (ys.map (Value.int .i64))) :
    Sep w0 S O w' (stl L i (.own cI t (some ⟨gb,0,none⟩) l cp ys)):=by
  have hl:=(h.own i hi).1
  have e:cpy xs ys=ys:=by unfold cpy;rw [List.take_of_length_le (by omega),List.drop_eq_nil_of_le (by omega),List.append_nil]
  have:=h.copied (w':=w') i hi (ys:=ys) (by rw [hw,List.take_of_length_le (by omega)])
  rwa [e] at this
theorem n_starr{P:Program}{E:Env}{w:World}{d:Option Tmp}{x y:Operand}{ty xt:TypeId}{ps:String}{af:Array Edge}{g:Option (Nat×Bool)}{K:Value→World→Prop}{w0:World}{S O:Nat→Prop}{L:Hold}{t:TypeId}{zo:Option Value}{b gb l cp:Nat}{xs ys:List Int}
    (hx:evE E x = .pointer (some ⟨gb,0,none⟩)) (hy:evE E y=kE ys) (hi:(P.info? xt).map (fun i=>(i.zero,i.size,i.bytes))=some (zo,l,b)) (hS:Sep w0 S O w L) (i:Nat) (hi':L i = .own cI t (some ⟨gb,0,none⟩) l cp xs) (hl:ys.length=l)
    (h:∀ w',Sep w0 S O w' (stl L i (.own cI t (some ⟨gb,0,none⟩) l cp ys))→K undef w'):ybd P ⟨d, .store xt x y,ty,ps,af,g⟩ (evE E) w K :=
  ycP (n:=l) hx hy hi (by simpa using hl) (by simp [Value.oneCell']) (there_own hS i hi') fun w' hw=>h w' (hS.stored i hi' hl (by simpa using hw))
theorem rv_a{P:Program}{E:Env}{w w0:World}{S O:Nat→Prop}{L:Hold}{t:Tmp}{y:TypeId}{u:TypeDesc}{zo:Option Value}{b gb l cp:Nat}{xs:List Int}{a:TypeId}(h:E t = .pointer (some ⟨gb,0,none⟩))(hu:P.underlying y=some u)(hn:aggD u=true)(hi:(P.info? y).map (fun i=>(i.zero,i.size,i.bytes))=some (zo,l,b))
    (hS:Sep w0 S O w L) (i:Nat) (hi':L i = .own cI a (some ⟨gb,0,none⟩) l cp xs):RvE P E w (.cell t y) (kE xs) :=
  rv_n (vs:=xs.map (Value.int .i64)) h hu hn (yhZ hi (hS.rdo i hi')) (ygR (hS.rdo i hi'))
end Go.Proofs.YtjepipbkiadcpaaGreat

/- Entries of maps that are changed in place (m[k]++). No program in sight. -/
namespace Go.Proofs.YtjepipbkiadcpaaGreat
open Go Go.RowKit Go.Shelf Go.Proofs.Tryz
section
variable {τ : Type}
end
section
variable {τ : Type} {P : Program} {w : World} {k e mt : TypeId} {n : Nat} {vE : τ → Value} {m : List (List Int × τ)} {b : Nat} {key : List Int}
end
section
variable {τ : Type} {P : Program} {E : Env} {w : World} {d : Option Tmp} {x y z : Operand} {ty xt k e : TypeId} {ps : String} {af : Array Edge} {g : Option (Nat × Bool)} {K : Value → World → Prop} {n b : Nat} {vE : τ → Value} {m : List (List Int × τ)} {key : List Int}
end
end Go.Proofs.YtjepipbkiadcpaaGreat

/- Maps of one's own, keyed by numbers (as XMap for arrays of numbers; made from it). No program in sight. -/
namespace Go.Proofs.YtjepipbkiadcpaaGreat
open Go Go.RowKit Go.Shelf Go.Proofs.Tryz
def kEI:List Int→Value
  | [x] => .int .i64 x
  | l => .agg (l.map (Value.int .i64)).toArray
section
variable {τ : Type}
end
section
variable {τ : Type} {P : Program} {w : World} {k e mt : TypeId} {n : Nat} {vE : τ → Value} {m : List (List Int × τ)} {b : Nat} {key : List Int}
structure KeyTI(P:Program)(k:TypeId)(n:Nat):Prop where
  law:Maps.Keyed P k
  of:∀ l,yhl n l→∃ t,keyOf P k (kEI l)=some t
end
section
variable {τ : Type} {P : Program} {E : Env} {w : World} {d : Option Tmp} {x y z : Operand} {ty xt k e : TypeId} {ps : String} {af : Array Edge} {g : Option (Nat × Bool)} {K : Value → World → Prop} {n b : Nat} {vE : τ → Value} {m : List (List Int × τ)} {key : List Int}
end
end Go.Proofs.YtjepipbkiadcpaaGreat

/- Maps' key types that are arrays of numbers. -/
namespace Go.Proofs.YtjepipbkiadcpaaGreat
open Go Go.RowKit Go.Shelf Go.Proofs.Tryz
theorem keyt_195:KeyT Tryz.prog 195 12:=keyT_arr (m:=3) (by kernel_rfl) (by decide) (of_decide_eq_true (by kernel_rfl)) (by kernel_rfl) (by kernel_rfl) underlying195 underlying3 (by kernel_rfl) (by kernel_rfl) (of_decide_eq_true (by kernel_rfl))
end Go.Proofs.YtjepipbkiadcpaaGreat

/- The walks of package chips and of the small library functions that the checks use: what each returns, for all arguments. -/
namespace Go.Proofs.YtjepipbkiadcpaaGreat
open Go.RowKit Go.Proofs.Tryz
set_option maxRecDepth 100000
set_option maxHeartbeats 400000
theorem int_info:(Tryz.prog.info? 3).map (fun i=>(i.zero,i.size,i.bytes))=some (some (.int .i64 0),1,8):=by kernel_rfl
def inF(k:Int):Bool:=decide (-1048576≤k∧k≤1048576)
def ygL(n:Int):Int:=if 1≤n∧n≤12 then 0 else 2
def ya6(d:List Int)(n:Int):Int :=
  if ygL n=0 then (if (d.length:Int)=n then (if d.all inF then 0 else 2) else 8) else 2
theorem within_any(k:Int)(w:World) :
    Calls Tryz.prog 77 #[.int .i64 k] w fun e w'=>e = .returned (.bool (inF k))∧w=w':=by
  go_enter func77,ntmps77
  go_wp2
  all_goals go_ret
  all_goals exact ⟨by simp [inF];try omega,rfl⟩
theorem yfZ(n:Int)(w:World) :
    Calls Tryz.prog 37 #[.int .i64 n] w fun e w'=>e = .returned (.int .i64 (ygL n))∧w=w':=by
  go_enter func37,ntmps37
  go_wp2
  all_goals go_ret
  all_goals exact ⟨by simp [ygL];try omega,rfl⟩
theorem yek(p:Int→Bool)(d:List Int):d.all p=true↔∀ j,j<d.length→p (gi d j)=true:=by
  rw [List.all_eq_true]
  constructor
  · intro h j hj;exact h _ (gi_mem hj)
  · intro h x hx
    obtain ⟨j,hj,rfl⟩:=List.getElem_of_mem hx
    rw [←ybk hj];exact h j hj
theorem yir(A:Option Addr)(d:List Int)(cap:Nat)(n:Int)(w:World)(hd:Ints w A d)(hlen:d.length≤1000000000) :
    Calls Tryz.prog 33 #[.slice A d.length cap, .int .i64 n] w fun e w'=>e = .returned (.int .i64 (ya6 d n))∧w=w':=by
  have HD:=Lib.hid hd
  clear hd
  by_cases h1:ygL n=0
  case neg =>
    have b1:=neT h1
    go_enter func33,ntmps33
    go_wp2_with (first | (go_at_call 37;refine (yfZ _ _).mono ?_;rintro e w' ⟨rfl,rfl⟩))
    go_ret
    refine ⟨yc1 (yeW ?_),rfl⟩
    rw [ya6,if_neg h1]
    unfold ygL at *;split <;> simp_all
  have b1:=neF h1
  have Hv:=Lib.hid h1
  clear h1
  by_cases h2:(d.length:Int)=n
  case neg =>
    have b2:=neT h2
    go_enter func33,ntmps33
    go_wp2_with (first | (go_at_call 37;refine (yfZ _ _).mono ?_;rintro e w' ⟨rfl,rfl⟩))
    go_ret
    refine ⟨yc1 (yeW ?_),rfl⟩
    rw [ya6,if_pos Hv.out,if_neg h2]
  have b2:=neF h2
  have Hn:=Lib.hid h2
  clear h2
  go_enter func33,ntmps33
  go_wp2_with (first | (go_at_call 37;refine (yfZ _ _).mono ?_;rintro e w' ⟨rfl,rfl⟩))
  go_loopw [19] (fun i wr=>∃ k:Nat,k≤d.length∧i = .int .i64 k∧Hid (∀ j,j<k→inF (gi d j)=true)∧Same wr w) (fun i _=>d.length-(intOf i).toNat)
  case atStart=>exact ⟨0,Nat.zero_le _,rfl,fun j hj=>absurd hj (by omega), .refl _⟩
  case round =>
    obtain ⟨k,hk,rfl,Hall,hw⟩:=hrel
    obtain rfl:wr=w:=hw.out
    clear hw
    by_cases hlt:k<d.length
    · obtain ⟨b,off,rfl,hb,hc⟩:=HD.out (by omega)
      have hck:=hc k hlt
      clear hc
      go_wp2_with (first | (go_at_call 77;refine (within_any _ _).mono ?_;rintro e w' ⟨rfl,rfl⟩))
      · go_ret
        have h3:(!inF (gi d k))=true:=by assumption
        refine ⟨yc1 (yeW ?_),rfl⟩
        rw [ya6,if_pos Hv.out,if_pos Hn.out,if_neg]
        rw [yek]
        intro h4
        rw [h4 k hlt] at h3
        simp at h3
      · have h3:(!inF (gi d k))=false:=by assumption
        go_roundw
        case rel =>
          refine ⟨k+1,by omega,by go_num,?_, .refl _⟩
          intro j hj
          by_cases e:j=k
          · subst e;simpa using h3
          · exact Hall.out j (by omega)
        case measure=>simp [intOf];omega
    · go_wp2
      go_ret
      refine ⟨yc1 (yeW ?_),rfl⟩
      rw [ya6,if_pos Hv.out,if_pos Hn.out,if_pos]
      rw [yek]
      intro j hj
      exact Hall.out j (by omega)
def cmpF(a b:Int):Int:=if a<b then -1 else if b<a then 1 else 0
theorem isNaN_any(a:Int)(w:World):Calls Tryz.prog 131 #[.int .i64 a] w fun e w'=>e = .returned (.bool false)∧w=w':=by
  go_enter func131,ntmps131
  go_wp2
  go_ret
  exact ⟨by simp,rfl⟩
theorem ygr(a b:Int)(w:World):Calls Tryz.prog 80 #[.int .i64 a, .int .i64 b] w fun e w'=>e = .returned (.int .i64 (cmpF a b))∧w=w':=by
  go_enter func80,ntmps80
  go_wp2_with (first | (go_at_call 131;refine (isNaN_any _ _).mono ?_;rintro e w' ⟨rfl,rfl⟩))
  all_goals go_ret
  all_goals refine ⟨yc1 (yeW ?_),rfl⟩
  all_goals unfold cmpF
  all_goals (split <;> try split)
  all_goals omega
theorem vertex_any(n v:Int)(w:World):Calls Tryz.prog 144 #[.int .i64 n, .int .i64 v] w fun e w'=>e = .returned (.bool (decide (0≤v∧v<n)))∧w=w':=by
  go_enter func144,ntmps144
  go_wp2
  all_goals go_ret
  all_goals exact ⟨by simp;try omega,rfl⟩
def orF(x y:Int):Int:=if x≠0 then x else y
theorem or_two(b off:Nat)(x y:Int)(w:World)(h0:w.cell? ⟨b,off,none⟩=some (.int .i64 x))(h1:w.cell? ⟨b,off+1,none⟩=some (.int .i64 y)) :
    Calls Tryz.prog 195 #[.slice (some ⟨b,off,none⟩) 2 2] w fun e w'=>e = .returned (.int .i64 (orF x y))∧w=w':=by
  go_enter func195,ntmps195
  go_wp2
  refine wp_loop_rounds 3 ?_
  repeat any_goals (rw [rounds_succ];go_wp2)
  all_goals go_ret
  all_goals refine ⟨yc1 (yeW ?_),rfl⟩
  all_goals (unfold orF;simp_all)
end Go.Proofs.YtjepipbkiadcpaaGreat
