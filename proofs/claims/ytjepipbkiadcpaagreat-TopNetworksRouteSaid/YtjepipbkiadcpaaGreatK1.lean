/- Texts laid together: W, Mem, Ops, Mo, Range, Ty, Sep, App, Pf, It. -/
import Derived.OrdersIn
import Derived.TacticsIn
import Derived.RegionIn
import Derived.RangeFuncCalls
import Derived.IntWalk
import Derived.WalkKit
import Derived.WalkSpells
import Derived.WalkLawsBesides
import Derived.Lib.Hide
import Derived.Deep.MidRow
import Derived.Deep.WholeRow
import Derived.Laws.OwnMore
import Derived.Shelf.Abstract
import Derived.RangeFuncNested
import Derived.RangeFuncBound
import Derived.RangeFuncLeaves
import Derived.RangeFuncFrom
import Derived.Test.YtjepipbkiadcpaaGreatProg
set_option linter.unusedVariables false
set_option linter.unusedSimpArgs false
set_option linter.unusedSectionVars false
/- The walk of a function's code over an environment: flat, a step a lemma. No program in sight. -/
namespace Go.Proofs.YtjepipbkiadcpaaGreat
open Go Go.Proofs.Tryz
abbrev Env:=Nat→Value
def upd(E:Env)(d:Nat)(v:Value):Env:=fun t=>bif Nat.beq t d then v else E t
def updO(E:Env)(d:Option Nat)(v:Value):Env:=match d with | some d=>upd E d v | none=>E
def evE(E:Env):Operand→Value
  | .tmp t=>E t
  | .const v=>v
  | .global g => .pointer (some ⟨g,0,none⟩)
  | .func f => .func (.func f) #[] #[]
structure Rep(N:Nat)(E:Env)(ds:List Deferred)(a:Act):Prop where
  size:a.tmps.size=N
  get:∀ t,a.tmps.getD t undef=E t
  defers:a.defers=ds
theorem Rep.eval{N:Nat}{E:Env}{ds:List Deferred}{a:Act}(h:Rep N E ds a):a.eval=evE E:=by
  funext x
  cases x <;> simp [Act.eval,evE,h.get]
theorem Rep.put{N:Nat}{E:Env}{ds:List Deferred}{a:Act}(h:Rep N E ds a){d:Option Nat}(hd:∀ k,d=some k→k<N)(v:Value):Rep N (updO E d v) ds (a.put d v):=by
  cases d with
  | none=>exact h
  | some d =>
    have hd:=hd d rfl
    refine ⟨by simp [Act.put,h.size],fun t=>?_,h.defers⟩
    simp only [Act.put,updO,upd]
    have hs:=h.size
    have hg:=h.get t
    by_cases e:t=d
    · subst e
      have hb:Nat.beq t t=true:=Nat.beq_refl t
      rw [hb]
      simp [Array.getD_eq_getD_getElem?,Array.getElem?_setIfInBounds,hs,hd]
    · have hb:Nat.beq t d=false:=by
        cases hq:Nat.beq t d with
        | false=>rfl
        | true=>exact absurd (Nat.eq_of_beq_eq_true hq) e
      rw [hb]
      simp only [cond_false]
      rw [←hg]
      simp [Array.getD_eq_getD_getElem?,Array.getElem?_setIfInBounds,Ne.symm e]
def yE(ops:Array Oper)(E:Env)(j:Nat):Option Bool :=
  match (ops[j]?).bind (·.dst) with
  | none=>none
  | some d=>match E d with
    | .bool b=>some b
    | _=>none
theorem Rep.yielded{N:Nat}{E:Env}{ds:List Deferred}{a:Act}(h:Rep N E ds a)(ops:Array Oper):yielded ops a.tmps=yE ops E:=by
  funext j
  unfold Go.yielded yE
  cases (ops[j]?).bind (·.dst) with
  | none=>rfl
  | some d =>
    have hg:=h.get d
    simp only [Option.bind_some]
    rw [Array.getD_eq_getD_getElem?] at hg
    cases hq:a.tmps[d]? with
    | none =>
      rw [hq] at hg
      simp only [Option.getD_none] at hg
      rw [←hg]
      rfl
    | some v =>
      rw [hq] at hg
      simp only [Option.getD_some] at hg
      rw [←hg]
      cases v <;> rfl
def WTa(F:Fence)(n:Nat)(P:Program)(todo:List Item)(Q:Exit→Act→World→Prop)(a:Act)(w:World):Prop :=
  ∀ (b:Frame) (k:List Item) (cs:List Frame),b.roundOf=F.round→F.fn b.fn→F.room (cs.length+1+n) →
    ∃ e a' w',Q e a' w'∧ArrivesIn (Machine.fenced P F) P (lone (b.atR a (todo++k)) cs w) b k cs e a' w'
section
variable {F : Fence} {n : Nat} {P : Program} {Q : Exit → Act → World → Prop} {a : Act} {w : World} {t : List Item}
theorem WTa.code{c:Code}(h:WTa F n P [.code c] Q a w):c.wpIn F n P Q a w:=h
theorem WTa.of{c:Code}(h:c.wpIn F n P (fun e a' w'=>e = .normal∧WTa F n P t Q a' w') a w):WTa F n P (.code c::t) Q a w:=by
  intro b k cs hro hb hr
  obtain ⟨e,a',w',⟨he,hw⟩,harr⟩:=h b (t++k) cs hro hb hr
  subst he
  obtain ⟨e2,a2,w2,hq,harr2⟩:=hw b k cs hro hb hr
  exact ⟨e2,a2,w2,hq, .of_steps harr harr2⟩
theorem WTa.nil(h:Q .normal a w):WTa F n P [] Q a w:=fun b k cs _ _ _=>⟨.normal,a,w,h, .refl _⟩
theorem WTa.skip(h:WTa F n P t Q a w):WTa F n P (.code .skip::t) Q a w:=WTa.of (wpIn_skip ⟨rfl,h⟩)
theorem WTa.seq{x y:Code}(h:WTa F n P (.code x :: .code y::t) Q a w):WTa F n P (.code (.seq x y)::t) Q a w:=by
  intro b k cs hro hb hr
  obtain ⟨e,a',w',hq,harr⟩:=h b k cs hro hb hr
  exact ⟨e,a',w',hq, .of_steps (.one (fenced_calm hb hr rfl) stepR_seq) harr⟩
theorem WTa.block{id:Nat}{c:Code}(h:WTa F n P (.code c :: .inBlock id::t) Q a w):WTa F n P (.code (.block id c)::t) Q a w:=by
  intro b k cs hro hb hr
  obtain ⟨e,a',w',hq,harr⟩:=h b k cs hro hb hr
  exact ⟨e,a',w',hq, .of_steps (.one (fenced_calm hb hr rfl) stepR_block) harr⟩
theorem WTa.inBlock{id:Nat}(h:WTa F n P t Q a w):WTa F n P (.inBlock id::t) Q a w:=by
  intro b k cs hro hb hr
  obtain ⟨e,a',w',hq,harr⟩:=h b k cs hro hb hr
  exact ⟨e,a',w',hq, .of_steps (.one (fenced_calm hb hr rfl) stepR_inBlock) harr⟩
theorem yei{id:Nat}{k':List Item}(k:List Item):∀ {t:List Item},exitTo id t=some k'→exitTo id (t++k)=some (k'++k)
  | [],h=>by simp [exitTo] at h
  | x::t,h=>by
    cases x <;> simp only [exitTo,List.cons_append] at h ⊢
    case inBlock id' =>
      split at h
      · rename_i hc;rw [if_pos hc];simp only [Option.some.injEq] at h;rw [h]
      · rename_i hc;rw [if_neg hc];exact yei k h
    all_goals exact yei k h
theorem WTa.exit{id:Nat}{k':List Item}(he:exitTo id t=some k')(h:WTa F n P k' Q a w):WTa F n P (.code (.exit id)::t) Q a w:=by
  intro b k cs hro hb hr
  obtain ⟨e,a',w',hq,harr⟩:=h b k cs hro hb hr
  exact ⟨e,a',w',hq, .of_steps (.one (fenced_calm hb hr rfl) (stepR_exit (yei k he))) harr⟩
theorem yeC{id:Nat}(k:List Item):∀ {t:List Item},exitTo id t=none→exitTo id (t++k)=exitTo id k
  | [],_=>rfl
  | x::t,h=>by
    cases x <;> simp only [exitTo,List.cons_append] at h ⊢
    case inBlock id' =>
      split at h
      · cases h
      · rename_i hc;rw [if_neg hc];exact yeC k h
    all_goals exact yeC k h
theorem WTa.leave{id:Nat}(he:exitTo id t=none)(h:Q (.exit id) a w):WTa F n P (.code (.exit id)::t) Q a w:=by
  intro b k cs hro hb hr
  refine ⟨.exit id,a,w,h,⟨fun k' hk => .one (fenced_calm hb hr rfl) (stepR_exit (show exitTo id (t++k)=some k' by rw [yeC k he];exact hk)),fun _ hk=>⟨t++k,by rw [yeC k he];exact hk, .refl _⟩⟩⟩
theorem WTa.ret(h:Q .ret a w):WTa F n P (.code .ret::t) Q a w :=
  fun _ k _ _ hb hr=>⟨.ret,a,w,h,fun hn=>⟨_, .one (fenced_calm hb hr rfl) (stepR_ret hn)⟩,fun _=>⟨t++k, .refl _⟩⟩
theorem WTa.cond{c:Operand}{x y:Code}{d:Bool}(hc:a.eval c = .bool d)(h:WTa F n P (.code (if d then x else y)::t) Q a w):WTa F n P (.code (.cond c x y)::t) Q a w:=by
  intro b k cs hro hb hr
  obtain ⟨e,a',w',hq,harr⟩:=h b k cs hro hb hr
  exact ⟨e,a',w',hq, .of_steps (.one (fenced_calm hb hr rfl) (stepR_cond hc)) harr⟩
theorem WTa.loop{c:Code}(I:Act→World→Prop)(μ:Act→World→Nat)(h₀:I a w)
    (round:∀ a w,I a w→(∀ a' w',I a' w'→μ a' w'<μ a w→WTa F n P (.inLoop c::t) Q a' w')→WTa F n P (.code c :: .inLoop c::t) Q a w):WTa F n P (.code (.loop c)::t) Q a w:=by
  have key:∀ j a w,μ a w=j→I a w→WTa F n P (.code c :: .inLoop c::t) Q a w:=by
    intro j
    induction j using Nat.strongRecOn with
    | _ j ih =>
      intro a w hj hI
      refine round a w hI fun a' w' hI' hlt=>?_
      intro b k cs hro hb hr
      obtain ⟨e,a2,w2,hq,harr⟩:=ih (μ a' w') (hj▸hlt) a' w' rfl hI' b k cs hro hb hr
      exact ⟨e,a2,w2,hq, .of_steps (.one (fenced_calm hb hr rfl) stepR_inLoop) harr⟩
  intro b k cs hro hb hr
  obtain ⟨e,a2,w2,hq,harr⟩:=key _ a w rfl h₀ b k cs hro hb hr
  exact ⟨e,a2,w2,hq, .of_steps (.one (fenced_calm hb hr rfl) stepR_loop) harr⟩
end
def ya2:Op→Bool
  | .load .. | .nilCheck .. | .fieldAddr .. | .indexAddr .. | .move .. | .assign .. | .binOp .. | .unOp .. | .pick .. | .index .. | .field .. | .extract .. | .convert .. | .makeFunc .. | .slice .. | .entry ..=>true
  | .call c=>match c.callee with
    | .builtin .len | .builtin .cap | .builtin .max | .builtin .min=>true
    | _=>false
  | _=>false
def ybG:Op→Bool
  | .select .. | .defer .. | .go ..=>false
  | _=>true
theorem ya2.select{o:Op}(h:ya2 o=true):∀ cs b,o ≠ .select cs b:=fun cs b e=>by rw [e] at h;cases h
theorem ya2.defer{o:Op}(h:ya2 o=true):∀ c,o ≠ .defer c:=fun c e=>by rw [e] at h;cases h
theorem ybG.select{o:Op}(h:ybG o=true):∀ cs b,o ≠ .select cs b:=fun cs b e=>by rw [e] at h;cases h
theorem ybG.defer{o:Op}(h:ybG o=true):∀ c,o ≠ .defer c:=fun c e=>by rw [e] at h;cases h
def ybO(P:Program)(o:Oper)(ρ:Operand→Value)(w:World)(K:Value→World→Prop):Prop :=
  match (execOp ρ o).run P w with
  | .ok (.value v) w'=>K v w'
  | .ok .skip w'=>K undef w'
  | .ok (.enter f args) w'=>Calls P f args w' fun e w''=>∃ v,e = .returned v∧K v w''
  | .ok (.round l f tmps assign body) w'=>RoundIn Fence.wide 0 P l f tmps assign body w' fun e w''=>∃ v,e = .returned v∧K v w''
  | _=>False
theorem ybO.mono{P:Program}{o:Oper}{ρ:Operand→Value}{w:World}{K K':Value→World→Prop}(h:ybO P o ρ w K)(hk:∀ v w',K v w'→K' v w'):ybO P o ρ w K':=by
  unfold ybO at h ⊢
  split at h
  · exact hk _ _ h
  · exact hk _ _ h
  · intro cs
    obtain ⟨e,w',fr,⟨v,rfl,hK⟩,r⟩:=h cs
    exact ⟨_,w',fr,⟨v,rfl,hk _ _ hK⟩,r⟩
  · exact h.mono fun e w'' ⟨v,hv,hK⟩=>⟨v,hv,hk _ _ hK⟩
  · exact h.elim
section
variable (P : Program) (ops : Array Oper) (st : Nat → List Nat) (Q : Act → World → Prop)
def seqS:List Nat→List (Nat×Sem Next×Value)→Act→World→Prop
  | [],_,a,w=>Q a w
  | i::rest,pend,a,w=>match ops[i]? with
    | none=>seqS rest pend a w
    | some o=>if Region.wanted o (yielded ops a.tmps)=true then
        (if ya2 o.op=true then ∃ v,(execOp a.eval o).run P w = .ok (.value v) w∧seqS rest ((i,execOp a.eval o,v)::pend) (a.put o.dst v) w
         else ybG o.op=true∧ybO P o a.eval w fun v w'=>(∀ p∈pend,p.1∈st i→p.2.1.run P w' = .ok (.value p.2.2) w')∧seqS rest pend (a.put o.dst v) w')
      else seqS rest pend (a.put o.dst undef) w
end
def dep(ops:Array Oper):Nat→Nat→Nat→Bool
  | 0,_,_=>false
  | fuel+1,i,j=>match ops[j]? with
    | none=>false
    | some o=>o.after.any fun e=>Region.binds .any e&&(e.on==i || (Nat.blt i e.on&&dep ops fuel i e.on))
def yff(ops:Array Oper)(st:Nat→List Nat)(i j:Nat):Bool :=
  match ops[i]?,ops[j]? with
  | some oi,some oj=>(oi.after.all fun e=>!Region.binds .any e || !(e.on==j))&&((ya2 oi.op&&oi.apart ops oj&&(ya2 oj.op || (ybG oj.op&&(st j).contains i))) || dep ops ops.size i j)
  | _,_=>false
def ygo(f:Nat→Nat→Bool):List Nat→Bool
  | []=>true
  | i::t=>t.all (f i)&&ygo f t
def yhI(ops:Array Oper)(st:Nat→List Nat)(R:List Nat):Bool :=
  (R.all fun j=>match ops[j]? with
    | none=>false
    | some oj=>oj.after.all fun e=>!Region.binds .any e || (decide (e.on<ops.size) && !(e.on==j)))&&(List.range ops.size).all (R.contains ·)&&decide (R.length≤ops.size)&&ygo (fun i j=>!(i==j)&&yff ops st i j) R
section
variable {P : Program} {ops : Array Oper} {st : Nat → List Nat} {Q : Act → World → Prop} {i j : Nat}
theorem yfU:∀ (R:List Nat) (pend pend':List (Nat×Sem Next×Value)) (a:Act) (w:World),(∀ p,p∈pend'→p∈pend)→seqS P ops st Q R pend a w→seqS P ops st Q R pend' a w
  | [],_,_,_,_,_,h=>h
  | i::R,pend,pend',a,w,hp,h=>by
    simp only [seqS] at h ⊢
    cases ho:ops[i]? with
    | none=>simp only [ho] at h ⊢;exact yfU R _ _ _ _ hp h
    | some o =>
      simp only [ho] at h ⊢
      split
      · rename_i c
        rw [if_pos c] at h
        split
        · rename_i q
          rw [if_pos q] at h
          obtain ⟨v,hv,h⟩:=h
          refine ⟨v,hv,yfU R _ _ _ _ (fun p hm=>?_) h⟩
          rcases List.mem_cons.1 hm with rfl | hm
          · exact List.mem_cons_self
          · exact List.mem_cons_of_mem _ (hp p hm)
        · rename_i q
          rw [if_neg q] at h
          exact ⟨h.1,h.2.mono fun v w' h=>⟨fun p hm=>h.1 p (hp p hm),yfU R _ _ _ _ hp h.2⟩⟩
      · rename_i c
        rw [if_neg c] at h
        exact yfU R _ _ _ _ hp h
theorem seqS_swap{i j:Nat}{oi oj:Oper}{R:List Nat}{pend:List (Nat×Sem Next×Value)}{a:Act}{w:World}(hi:ops[i]? = some oi)(hj:ops[j]? = some oj)(qi:ya2 oi.op=true)
    (hap:oi.apart ops oj=true) (qj:ya2 oj.op=true∨(ybG oj.op=true∧i∈st j)) (h:seqS P ops st Q (i::j::R) pend a w):seqS P ops st Q (j::i::R) pend a w:=by
  obtain ⟨h1,h2,h3⟩:=Oper.apart_spec hap
  have sj:∀ cs b,oj.op ≠ .select cs b:=by rcases qj with q | q;exact ya2.select q;exact ybG.select q.1
  have wi:∀ v,Region.wanted oi (yielded ops (a.put oj.dst v).tmps)=Region.wanted oi (yielded ops a.tmps):=fun v=>wanted_put oi a oj.dst v h3
  have wj:∀ v,Region.wanted oj (yielded ops (a.put oi.dst v).tmps)=Region.wanted oj (yielded ops a.tmps):=fun v=>wanted_put oj a oi.dst v h1
  have ei:∀ v,execOp (a.put oj.dst v).eval oi=execOp a.eval oi:=fun v=>execOp_put oi (ya2.select qi) a oj.dst v h3
  have ej:∀ v,execOp (a.put oi.dst v).eval oj=execOp a.eval oj:=fun v=>execOp_put oj sj a oi.dst v h1
  have pc:∀ u v,(a.put oi.dst u).put oj.dst v=(a.put oj.dst v).put oi.dst u:=fun u v=>Act.put_comm a u v h2
  simp only [seqS,hi,hj,qi,if_true] at h ⊢
  by_cases ci:Region.wanted oi (yielded ops a.tmps)=true
  · by_cases cj:Region.wanted oj (yielded ops a.tmps)=true
    · simp only [ci,cj,wi,wj,ei,ej,if_true] at h ⊢
      by_cases q:ya2 oj.op=true
      · simp only [q,if_true] at h ⊢
        obtain ⟨u,hu,v,hv,h⟩:=h
        refine ⟨v,hv,u,hu,?_⟩
        rw [←pc]
        exact yfU R _ _ _ _ (fun p hm=>by simp only [List.mem_cons] at hm ⊢;rcases hm with h | h | h;exact .inr (.inl h);exact .inl h;exact .inr (.inr h)) h
      · have q':ybG oj.op=true∧i∈st j:=by rcases qj with h | h;exact absurd h q;exact h
        simp only [q,Bool.false_eq_true,if_false] at h ⊢
        obtain ⟨u,hu,hn,h⟩:=h
        refine ⟨hn,?_⟩
        unfold ybO at h ⊢
        rw [ej] at h
        split at h
        · obtain ⟨hs,h⟩:=h
          refine ⟨fun p hm hp=>hs p (List.mem_cons_of_mem _ hm) hp,u,hs _ List.mem_cons_self q'.2,?_⟩
          rw [←pc];exact h
        · obtain ⟨hs,h⟩:=h
          refine ⟨fun p hm hp=>hs p (List.mem_cons_of_mem _ hm) hp,u,hs _ List.mem_cons_self q'.2,?_⟩
          rw [←pc];exact h
        · intro cs
          obtain ⟨e,w',fr,⟨v,rfl,hs,h⟩,r⟩:=h cs
          refine ⟨_,w',fr,⟨v,rfl,fun p hm hp=>hs p (List.mem_cons_of_mem _ hm) hp,u,hs _ List.mem_cons_self q'.2,?_⟩,r⟩
          rw [←pc];exact h
        · refine h.mono ?_
          rintro e w'' ⟨v,rfl,hs,h⟩
          exact ⟨v,rfl,fun p hm hp=>hs p (List.mem_cons_of_mem _ hm) hp,u,hs _ List.mem_cons_self q'.2,by rw [←pc];exact h⟩
        · exact h.elim
    · simp only [ci,cj,wi,wj,ei,ej,if_true,if_false,Bool.false_eq_true] at h ⊢
      obtain ⟨u,hu,h⟩:=h
      exact ⟨u,hu,by rw [←pc];exact h⟩
  · by_cases cj:Region.wanted oj (yielded ops a.tmps)=true
    · simp only [ci,cj,wi,wj,ei,ej,if_true,if_false,Bool.false_eq_true] at h ⊢
      by_cases q:ya2 oj.op=true
      · simp only [q,if_true] at h ⊢
        obtain ⟨v,hv,h⟩:=h
        exact ⟨v,hv,by rw [←pc];exact h⟩
      · simp only [q,Bool.false_eq_true,if_false] at h ⊢
        refine ⟨h.1,?_⟩
        have h:=h.2
        unfold ybO at h ⊢
        rw [ej] at h
        split at h
        · exact ⟨h.1,by rw [←pc];exact h.2⟩
        · exact ⟨h.1,by rw [←pc];exact h.2⟩
        · intro cs
          obtain ⟨e,w',fr,⟨v,rfl,hs,h⟩,r⟩:=h cs
          exact ⟨_,w',fr,⟨v,rfl,hs,by rw [←pc];exact h⟩,r⟩
        · refine h.mono ?_
          rintro e w'' ⟨v,rfl,hs,h⟩
          exact ⟨v,rfl,hs,by rw [←pc];exact h⟩
        · exact h.elim
    · simp only [ci,cj,wi,wj,if_false,Bool.false_eq_true] at h ⊢
      rw [←pc];exact h
theorem seqS_cons_mono{i:Nat}{R R':List Nat}{pend:List (Nat×Sem Next×Value)}(hm:∀ pend a w,seqS P ops st Q R pend a w→seqS P ops st Q R' pend a w){a:Act}{w:World}
    (h:seqS P ops st Q (i::R) pend a w):seqS P ops st Q (i::R') pend a w:=by
  simp only [seqS] at h ⊢
  cases ho:ops[i]? with
  | none=>simp only [ho] at h ⊢;exact hm _ _ _ h
  | some o =>
    simp only [ho] at h ⊢
    split
    · rename_i c
      rw [if_pos c] at h
      split
      · rename_i q
        rw [if_pos q] at h
        obtain ⟨v,hv,h⟩:=h
        exact ⟨v,hv,hm _ _ _ h⟩
      · rename_i q
        rw [if_neg q] at h
        exact ⟨h.1,h.2.mono fun v w' h=>⟨h.1,hm _ _ _ h.2⟩⟩
    · rename_i c
      rw [if_neg c] at h
      exact hm _ _ _ h
theorem seqS_pull{i:Nat}{oi:Oper}(hi:ops[i]? = some oi):∀ (R1 R2:List Nat),(∀ r∈R1,∃ o,ops[r]? = some o∧ya2 o.op=true∧o.apart ops oi=true∧(ya2 oi.op=true∨(ybG oi.op=true∧r∈st i))) →
    ∀ (pend:List (Nat×Sem Next×Value)) (a:Act) (w:World),seqS P ops st Q (R1++i::R2) pend a w→seqS P ops st Q (i::(R1++R2)) pend a w
  | [],_,_,_,_,_,h=>h
  | r::R1,R2,hR,pend,a,w,h=>by
    obtain ⟨o,ho,q1,hap,q2⟩:=hR r (by simp)
    have h1:seqS P ops st Q (r::i::(R1++R2)) pend a w:=seqS_cons_mono (fun pend a w=>seqS_pull hi R1 R2 (fun x hx=>hR x (by simp [hx])) pend a w) h
    exact seqS_swap ho hi q1 hap q2 h1
theorem ygo.out{f:Nat→Nat→Bool} : ∀ {R:List Nat},ygo f R=true→R.Pairwise (fun i j=>f i j=true)
  | [],_=>List.Pairwise.nil
  | i::t,h=>by
    simp only [ygo,Bool.and_eq_true] at h
    exact List.pairwise_cons.2 ⟨fun j hj=>List.all_eq_true.1 h.1 j hj,ygo.out h.2⟩
theorem yff.two(h:yff ops st i j=true){oi oj:Oper}(hi:ops[i]? = some oi)(hj:ops[j]? = some oj)
    (hno:dep ops ops.size i j=false):ya2 oi.op=true∧oi.apart ops oj=true∧(ya2 oj.op=true∨(ybG oj.op=true∧i∈st j)):=by
  simp only [yff,hi,hj,hno,Bool.or_false,Bool.and_eq_true,Bool.or_eq_true,List.contains_iff_mem] at h
  exact ⟨h.2.1.1,h.2.1.2,h.2.2⟩
theorem yff.not(h:yff ops st i j=true){oi:Oper}(hi:ops[i]? = some oi){e:Edge}(he:e∈oi.after)(hb:Region.binds .any e=true):e.on≠j:=by
  unfold yff at h
  rw [hi] at h
  cases hj:ops[j]? with
  | none=>rw [hj] at h;cases h
  | some oj =>
    rw [hj] at h
    simp only [Bool.and_eq_true] at h
    have h2:=h.1
    rw [Array.all_eq_true] at h2
    obtain ⟨k,hk,rfl⟩:=Array.getElem_of_mem he
    have h3:=h2 k hk
    simpa [hb] using h3
def yf5(ops:Array Oper)(listed:Array Bool):Prop:=∀ j oj,ops[j]? = some oj→listed.getD j true=true→∀ e∈oj.after,Region.binds .any e=true→listed.getD e.on true=true
theorem yg4{listed:Array Bool}(hd:yf5 ops listed):∀ (fuel i j:Nat) (oj:Oper),ops[j]? = some oj→(∀ e∈oj.after,Region.binds .any e=true→listed.getD e.on true=true)→dep ops fuel i j=true→listed.getD i true=true
  | 0,i,j,oj,hj,ha,h=>by simp [dep] at h
  | fuel+1,i,j,oj,hj,ha,h=>by
    simp only [dep,hj] at h
    rw [Array.any_eq_true] at h
    obtain ⟨k,hk,h⟩:=h
    simp only [Bool.and_eq_true,Bool.or_eq_true,beq_iff_eq] at h
    obtain ⟨hb,h⟩:=h
    have hm:oj.after[k]∈oj.after:=Array.getElem_mem hk
    rcases h with h | ⟨_,h⟩
    · rw [←h];exact ha _ hm hb
    · cases hq:ops[(oj.after[k]).on]? with
      | none =>
        cases fuel with
        | zero=>simp [dep] at h
        | succ f=>simp [dep,hq] at h
      | some o2=>exact yg4 hd fuel i _ o2 hq (hd _ _ hq (ha _ hm hb)) h
theorem seqS_any{F:Fence}{n:Nat}{Q':Exit→Act→World→Prop}(hF:∀ f,F.fn f)(hD:F.depth=none)(hC:∀ f args w R,Calls P f args w R→CallsIn F (n-1) P f args w R)(hRd:∀ l f tmps assign body w R,RoundIn Fence.wide 0 P l f tmps assign body w R→RoundIn F (n-1) P l f tmps assign body w R)(hQ:∀ a w,Q a w→Q' .normal a w)(hO:∀ j oj,ops[j]? = some oj→∀ e∈oj.after,Region.binds .any e=true→e.on<ops.size∧e.on≠j) :
    ∀ (fuel:Nat) (R:List Nat) (listed:Array Bool) (pend:List (Nat×Sem Next×Value)) (a:Act) (w:World),R.length≤fuel→R.Pairwise (fun i j=>i≠j∧yff ops st i j=true) →
    (∀ i,i∈R↔listed.getD i true=false)→listed.size=ops.size→yf5 ops listed→seqS P ops st Q R pend a w→wpAnyIn F n P .any ops Q' fuel listed a w:=by
  have hready:∀ (r:Nat) (R:List Nat) (listed:Array Bool),(r::R).Pairwise (fun i j=>i≠j∧yff ops st i j=true)→(∀ i,i∈r::R↔listed.getD i true=false)→listed.size=ops.size→r∈Region.ready .any ops listed:=by
    intro r R listed hp hl hs
    have hr:=(hl r).1 (by simp)
    have hlt:r<ops.size:=by
      rcases Nat.lt_or_ge r listed.size with h | h
      · omega
      · simp [Array.getD_eq_getD_getElem?,Array.getElem?_eq_none h] at hr
    refine mem_ready.2 ⟨hr,ops[r],by simp [hlt],fun e he hb=>?_⟩
    have h1:=hO r _ (by simp [hlt]:ops[r]? = some ops[r]) e he hb
    have h2:e.on∉r::R:=by
      intro h
      rcases List.mem_cons.1 h with h | h
      · exact h1.2 h
      · have:=((List.pairwise_cons.1 hp).1 _ h).2
        exact yff.not this (by simp [hlt]:ops[r]? = some ops[r]) he hb rfl
    have h3:=mt (hl e.on).2 h2
    have h4:e.on<listed.size:=by omega
    simp [h4] at h3 ⊢
    exact h3
  have hnil:∀ (R:List Nat) (listed:Array Bool),R.Pairwise (fun i j=>i≠j∧yff ops st i j=true)→(∀ i,i∈R↔listed.getD i true=false)→listed.size=ops.size→Region.ready .any ops listed=[]→R=[]:=by
    intro R listed hp hl hs h
    cases R with
    | nil=>rfl
    | cons r R=>have:=hready r R listed hp hl hs;rw [h] at this;cases this
  intro fuel
  induction fuel with
  | zero =>
    intro R listed pend a w hf hp hl hs hdw h
    have hR:R=[]:=List.eq_nil_of_length_eq_zero (by omega)
    subst hR
    refine ⟨?_,hQ _ _ h⟩
    cases hrd:Region.ready .any ops listed with
    | nil=>rfl
    | cons r rs =>
      have h1:r∈Region.ready .any ops listed:=by rw [hrd];simp
      exact absurd ((hl r).2 (mem_ready.1 h1).1) (by simp)
  | succ fuel ih =>
    intro R listed pend a w hf hp hl hs hdw h
    refine ⟨fun h0=>by have:=hnil R listed hp hl hs h0;subst this;exact hQ _ _ h,fun i hi=>?_⟩
    obtain ⟨hun,oi,hoi,hall⟩:=mem_ready.1 hi
    have hiR:=(hl i).2 hun
    have hlb:∀ x:Nat,listed.getD x false=true→listed.getD x true=true:=by
      intro x hx
      rcases Nat.lt_or_ge x listed.size with h | h
      · simp [Array.getD_eq_getD_getElem?,h] at hx ⊢;exact hx
      · simp [Array.getD_eq_getD_getElem?,h]
    have hall':∀ e∈oi.after,Region.binds .any e=true→listed.getD e.on true=true:=fun e he hb=>hlb _ (hall e he hb)
    obtain ⟨R1,R2,rfl⟩:=List.append_of_mem hiR
    have hlt1:∀ r∈R1,r≠i∧yff ops st r i=true:=fun r hr=>(List.pairwise_append.1 hp).2.2 r hr i (by simp)
    have h1:=seqS_pull hoi R1 R2 (fun r hr=>by
      have hr0:=(hl r).1 (by simp [hr])
      have hrs:r<ops.size:=by
        rcases Nat.lt_or_ge r listed.size with h | h
        · omega
        · simp [Array.getD_eq_getD_getElem?,Array.getElem?_eq_none h] at hr0
      have hd0:dep ops ops.size r i=false:=by
        cases hq:dep ops ops.size r i with
        | false=>rfl
        | true =>
          have:=yg4 hdw ops.size r i oi hoi hall' hq
          rw [this] at hr0;cases hr0
      obtain ⟨a1,a2,a3⟩:=yff.two (hlt1 r hr).2 (by simp [hrs]:ops[r]? = some ops[r]) hoi hd0
      exact ⟨ops[r],by simp [hrs],a1,a2,a3⟩) pend a w h
    have hsub:(R1++R2).Sublist (R1++i::R2):=(List.Sublist.refl R1).append (List.sublist_cons_self i R2)
    have hni:i∉R1++R2:=by
      intro hm
      rcases List.mem_append.1 hm with hm | hm
      · exact (hlt1 i hm).1 rfl
      · exact ((List.pairwise_cons.1 (List.pairwise_append.1 hp).2.1).1 i hm).1 rfl
    have hl':∀ k,k∈R1++R2↔(listed.setIfInBounds i true).getD k true=false:=by
      intro k
      by_cases hki:i=k
      · subst hki
        constructor
        · intro h;exact absurd h hni
        · intro h
          have hil:i<listed.size:=by have:=(Array.getElem?_eq_some_iff.1 hoi).1;omega
          simp [hil] at h
      · rw [getD_set_ne true hki,←hl k]
        simp only [List.mem_append,List.mem_cons]
        constructor
        · rintro (h | h)
          · exact .inl h
          · exact .inr (.inr h)
        · rintro (h | h | h)
          · exact .inl h
          · exact absurd h.symm hki
          · exact .inr h
    have hdw':yf5 ops (listed.setIfInBounds i true):=by
      intro j oj hj hlj e he hb
      have hmono:∀ x:Nat,listed.getD x true=true→(listed.setIfInBounds i true).getD x true=true:=by
        intro x hx
        by_cases hki:i=x
        · subst hki
          have hil:i<listed.size:=by have:=(Array.getElem?_eq_some_iff.1 hoi).1;omega
          simp [hil]
        · rw [getD_set_ne true hki];exact hx
      by_cases hji:i=j
      · subst hji
        rw [hoi] at hj
        cases hj
        exact hmono _ (hall' e he hb)
      · rw [getD_set_ne true hji] at hlj
        exact hmono _ (hdw j oj hj hlj e he hb)
    have hrec:∀ pend a w,seqS P ops st Q (R1++R2) pend a w→wpAnyIn F n P .any ops Q' fuel (listed.setIfInBounds i true) a w:=fun pend a w hh =>
      ih (R1++R2) _ pend a w (by simp at hf ⊢;omega) (hp.sublist hsub) hl' (by simp [hs]) hdw' hh
    unfold wpOpIn
    simp only [seqS,hoi] at h1 ⊢
    split
    · rename_i c
      rw [if_pos c] at h1
      split at h1
      · rename_i q
        obtain ⟨v,hv,h1⟩:=h1
        refine ⟨fun f _=>hF f,?_⟩
        rw [Oper.semAt_eq _ _ _ (ya2.defer q),hv]
        exact hrec _ _ _ h1
      · obtain ⟨hn,h1⟩:=h1
        refine ⟨fun f _=>hF f,?_⟩
        rw [Oper.semAt_eq _ _ _ (ybG.defer hn)]
        unfold ybO at h1
        split at h1
        · rename_i v w' hr
          rw [hr]
          exact hrec _ _ _ h1.2
        · rename_i w' hr
          rw [hr]
          exact hrec _ _ _ h1.2
        · rename_i f args w' hr
          rw [hr]
          refine ⟨fun hd=>(by rw [hD] at hd;cases hd),(hC _ _ _ _ h1).mono ?_⟩
          rintro e w'' ⟨v,rfl,hh⟩
          exact hrec _ _ _ hh.2
        · rename_i l f tmps assign body w' hr
          rw [hr]
          refine ⟨fun hd=>(by rw [hD] at hd;cases hd),(hRd _ _ _ _ _ _ _ h1).mono ?_⟩
          rintro e w'' ⟨v,rfl,hh⟩
          exact hrec _ _ _ hh.2
        · exact h1.elim
    · rename_i c
      rw [if_neg c] at h1
      exact ⟨fun f _=>hF f,hrec _ _ _ h1⟩
theorem yeW{F:Fence}{n:Nat}{Q':Exit→Act→World→Prop}(hF:∀ f,F.fn f)(hD:F.depth=none)(hC:∀ f args w R,Calls P f args w R→CallsIn F (n-1) P f args w R)(hRd:∀ l f tmps assign body w R,RoundIn Fence.wide 0 P l f tmps assign body w R→RoundIn F (n-1) P l f tmps assign body w R)(hQ:∀ a w,Q a w→Q' .normal a w) :
    ∀ (R:List Nat) (pend:List (Nat×Sem Next×Value)) (a:Act) (w:World),seqS P ops st Q R pend a w→wpOpsIn F n P ops Q' R a w
  | [],_,_,_,h=>hQ _ _ h
  | i::R,pend,a,w,h=>by
    simp only [seqS,wpOpsIn] at h ⊢
    cases ho:ops[i]? with
    | none=>simp only [ho] at h ⊢;exact yeW hF hD hC hRd hQ R _ _ _ h
    | some o =>
      simp only [ho] at h ⊢
      split
      · rename_i c
        rw [if_pos c] at h
        split at h
        · rename_i q
          obtain ⟨v,hv,h1⟩:=h
          refine ⟨fun f _=>hF f,?_⟩
          rw [Oper.semAt_eq _ _ _ (ya2.defer q),hv]
          exact yeW hF hD hC hRd hQ R _ _ _ h1
        · obtain ⟨hn,h1⟩:=h
          refine ⟨fun f _=>hF f,?_⟩
          rw [Oper.semAt_eq _ _ _ (ybG.defer hn)]
          unfold ybO at h1
          split at h1
          · rename_i v w' hr
            rw [hr]
            exact yeW hF hD hC hRd hQ R _ _ _ h1.2
          · rename_i w' hr
            rw [hr]
            exact yeW hF hD hC hRd hQ R _ _ _ h1.2
          · rename_i f args w' hr
            rw [hr]
            refine ⟨fun hd=>(by rw [hD] at hd;cases hd),(hC _ _ _ _ h1).mono ?_⟩
            rintro e w'' ⟨v,rfl,hh⟩
            exact yeW hF hD hC hRd hQ R _ _ _ hh.2
          · rename_i l f tmps assign body w' hr
            rw [hr]
            refine ⟨fun hd=>(by rw [hD] at hd;cases hd),(hRd _ _ _ _ _ _ _ h1).mono ?_⟩
            rintro e w'' ⟨v,rfl,hh⟩
            exact yeW hF hD hC hRd hQ R _ _ _ hh.2
          · exact h1.elim
      · rename_i c
        rw [if_neg c] at h
        exact ⟨fun f _=>hF f,yeW hF hD hC hRd hQ R _ _ _ h⟩
end
end Go.Proofs.YtjepipbkiadcpaaGreat

/- Words for memory that all walks of this seat share: rows of cells known from their first cell on, worlds that keep all but some blocks. No program in sight. -/
namespace Go.Proofs.YtjepipbkiadcpaaGreat
open Go.RowKit Go.Proofs.Tryz
theorem yh0{a b:Value}(h:a=b):Ending.returned a = .returned b:=by rw [h]
theorem int_eq{k:IntKind}{a b:Int}(h:a=b):Value.int k a=Value.int k b:=by rw [h]
def Same(w w':World):Prop:=w=w'
theorem Same.refl(w:World):Same w w:=rfl
theorem Same.out{w w':World}(h:Same w w'):w=w':=h
theorem neF{a b:Int}(h:a=b):(a != b)=false:=by simp [h]
theorem neT{a b:Int}(h:¬a=b):(a != b)=true:=by simp [h]
def gi(l:List Int)(k:Nat):Int:=l.getD k 0
def gb(l:List Bool)(k:Nat):Bool:=l.getD k false
theorem yba{l:List Int}{k:Nat}(h:k<l.length):gi l k=l[k]:=by simp [gi,h]
theorem gi_ge{l:List Int}{k:Nat}(h:l.length≤k):gi l k=0:=by simp [gi,h]
theorem ydh{l:List Int}{k j:Nat}{x:Int}(h:k<l.length):gi (l.set k x) j=if j=k then x else gi l j:=by
  unfold gi
  simp only [List.getD_eq_getElem?_getD,List.getElem?_set]
  by_cases e:j=k
  · subst e;simp [h]
  · rw [if_neg (by omega),if_neg e]
theorem gi_mem{l:List Int}{k:Nat}(h:k<l.length):gi l k∈l:=by rw [yba h];exact List.getElem_mem h
theorem gi_ext{l m:List Int}(h:l.length=m.length)(h2:∀ k,k<l.length→gi l k=gi m k):l=m:=by
  refine List.ext_getElem h fun i h1 h3=>?_
  have:=h2 i h1
  rwa [yba h1,yba h3] at this
theorem yeU{l:List Bool}{k:Nat}(h:k<l.length):gb l k=l[k]:=by simp [gb,h]
theorem gb_ge{l:List Bool}{k:Nat}(h:l.length≤k):gb l k=false:=by simp [gb,h]
theorem yhp{l:List Bool}{k j:Nat}{x:Bool}(h:k<l.length):gb (l.set k x) j=if j=k then x else gb l j:=by
  unfold gb
  simp only [List.getD_eq_getElem?_getD,List.getElem?_set]
  by_cases e:j=k
  · subst e;simp [h]
  · rw [if_neg (by omega),if_neg e]
def Row(w:World)(g:Nat)(e:TypeId)(size:Nat)(xs:List Value):Prop :=
  ∃ cur:Array Value,w.heap[g]? = some (.cells cur e (0,0))∧cur.size=size∧cur.toList.take xs.length=xs
section
variable {w w' : World} {g : Nat} {e : TypeId} {size : Nat} {xs : List Value}
theorem Row.lt(h:Row w g e size xs):g<w.heap.size:=by
  obtain ⟨cur,h,_⟩:=h
  exact (Array.getElem?_eq_some_iff.1 h).1
theorem Row.le(h:Row w g e size xs):xs.length≤size:=by
  obtain ⟨cur,_,h2,h3⟩:=h
  have:=congrArg List.length h3
  simp at this
  omega
theorem Row.keep(h:Row w g e size xs)(k:w'.heap[g]? = w.heap[g]?):Row w' g e size xs:=by
  obtain ⟨cur,h1,h2⟩:=h
  exact ⟨cur,k.trans h1,h2⟩
theorem Row.cell(h:Row w g e size xs){i:Nat}{v:Value}(hv:xs[i]? = some v):w.cell? ⟨g,i,none⟩=some v:=by
  obtain ⟨cur,h1,h2,h3⟩:=h
  have hi:i<xs.length:=(List.getElem?_eq_some_iff.1 hv).1
  rw [←h3,List.getElem?_take,if_pos hi] at hv
  simp only [World.cell?,h1]
  simpa using hv
theorem Row.frozen(h:Row w g e size xs)(i:Nat):w.frozen? ⟨g,i,none⟩=false:=by
  obtain ⟨cur,h1,h2,h3⟩:=h
  simp [World.frozen?,h1]
theorem Row.set_ (h:Row w g e size xs)(i:Nat)(v:Value):Row (w.setCell ⟨g,i,none⟩ v) g e size (xs.set i v):=by
  obtain ⟨cur,h1,h2,h3⟩:=h
  refine ⟨cur.setIfInBounds i v,?_,by simpa using h2,?_⟩
  · simp [World.setCell,Array.getElem?_modify,h1]
  · simp only [List.length_set,Array.toList_setIfInBounds]
    conv=>rhs;rw [←h3]
    rw [List.take_set]
theorem Row.far(h:Row w g e size xs){p:Addr}(hp:g≠p.block)(v:Value):Row (w.setCell p v) g e size xs :=
  h.keep (Below.heap_setCell w p v g hp)
theorem Row.alloc(h:Row w g e size xs)(o:Obj):Row (w.alloc o) g e size xs:=h.keep (Below.heap_alloc w o g h.lt)
theorem Row.drew(h:Row w g e size xs):Row w.drew g e size xs:=h
theorem Row.drewN(h:Row w g e size xs)(n:Nat):Row (w.drewN n) g e size xs:=h
theorem Row.below{B:Nat}(h:Row w g e size xs)(hb:Below B w w')(hg:g<B):Row w' g e size xs:=h.keep (hb.block g hg)
theorem Row.new(w:World)(cs:Array Value)(e:TypeId):Row (w.alloc (.cells cs e)) w.heap.size e cs.size cs.toList :=
  ⟨cs,heap_alloc_new w _,rfl,by rw [List.take_of_length_le (by simp)]⟩
theorem Row.take(h:Row w g e size xs)(n:Nat):Row w g e size (xs.take n):=by
  obtain ⟨cur,h1,h2,h3⟩:=h
  refine ⟨cur,h1,h2,?_⟩
  have hl:(cur.toList.take xs.length).length=xs.length:=by rw [h3]
  rw [List.length_take] at hl
  conv=>rhs;rw [←h3,List.take_take]
  rw [List.length_take]
theorem Row.own{n cap:Nat}(h:Row w g e (cap*1) xs)(hn:xs.length=n)(hc:cap≤maxLen){base:Nat}(hb:base≤g):w.ownsRow base e 1 (.slice (some ⟨g,0,none⟩) n cap) n xs:=by
  have hle:=h.le
  obtain ⟨cur,h1,h2,h3⟩:=h
  refine ⟨by omega, .inr ⟨g,cap,cur,rfl,hb,h1,by omega,hc,h2,?_⟩⟩
  rw [Nat.mul_one,←hn];exact h3
end
structure Keeps(S:Nat→Prop)(w w':World):Prop where
  os:w'.os=w.os
  tape:w'.tape=w.tape
  output:w'.output=w.output
  size:w.heap.size≤w'.heap.size
  block:∀ k,k<w.heap.size→¬S k→w'.heap[k]? = w.heap[k]?
section
variable {S : Nat → Prop} {a w w' : World}
theorem Keeps.refl(S:Nat→Prop)(w:World):Keeps S w w:=⟨rfl,rfl,rfl,Nat.le_refl _,fun _ _ _=>rfl⟩
theorem Keeps.trans{b c:World}(h:Keeps S a b)(k:Keeps S b c):Keeps S a c :=
  ⟨k.os.trans h.os,k.tape.trans h.tape,k.output.trans h.output,Nat.le_trans h.size k.size,fun i hi hs=>(k.block i (Nat.lt_of_lt_of_le hi h.size) hs).trans (h.block i hi hs)⟩
theorem Keeps.mono{S':Nat→Prop}(h:Keeps S a w)(hs:∀ k,k<a.heap.size→S k→S' k):Keeps S' a w :=
  ⟨h.os,h.tape,h.output,h.size,fun k hk hn=>h.block k hk fun hS=>hn (hs k hk hS)⟩
theorem Keeps.drew(h:Keeps S a w):Keeps S a w.drew:=⟨h.os,h.tape,h.output,h.size,h.block⟩
theorem Keeps.drewN(h:Keeps S a w)(n:Nat):Keeps S a (w.drewN n):=⟨h.os,h.tape,h.output,h.size,h.block⟩
theorem Keeps.alloc(h:Keeps S a w)(o:Obj):Keeps S a (w.alloc o) :=
  h.trans ⟨rfl,rfl,rfl,by simp,fun k hk _=>Below.heap_alloc _ _ _ hk⟩
theorem Keeps.setCell(h:Keeps S a w){p:Addr}(hp:p.block<a.heap.size→S p.block)(u:Value):Keeps S a (w.setCell p u) :=
  ⟨h.os,h.tape,h.output,Nat.le_trans h.size (by simp [World.setCell]),fun k hk hn=>(Below.heap_setCell _ _ _ _ (fun e=>by subst e;exact hn (hp hk))).trans (h.block k hk hn)⟩
theorem Keeps.grown(h:Keeps S a w){row:Option Nat}(hg:w.grownBy w' row)(hr:∀ k,row=some k→k<a.heap.size→S k):Keeps S a w' :=
  ⟨hg.os.trans h.os,hg.tape.trans h.tape,hg.output.trans h.output,Nat.le_trans h.size hg.size,fun k hk hn=>(hg.block k (Nat.lt_of_lt_of_le hk h.size) (fun e=>hn (hr k e.symm hk))).trans (h.block k hk hn)⟩
theorem Keeps.below(h:Keeps S w w'){B:Nat}(hB:∀ k,k<B→¬S k)(hw:B≤w.heap.size):Below B w w':=⟨h.os,h.tape,h.output,h.size,fun k hk=>h.block k (by omega) (hB k hk)⟩
theorem Keeps.then(h:Keeps S a w){S':Nat→Prop}(k:Keeps S' w w')(hs:∀ k,k<a.heap.size→S' k→S k):Keeps S a w' :=
  ⟨k.os.trans h.os,k.tape.trans h.tape,k.output.trans h.output,Nat.le_trans h.size k.size,fun i hi hn=>(k.block i (Nat.lt_of_lt_of_le hi h.size) (fun e=>hn (hs i hi e))).trans (h.block i hi hn)⟩
theorem Keeps.row(h:Keeps S w w'){g:Nat}{e:TypeId}{size:Nat}{xs:List Value}(hr:Row w g e size xs)(hs:¬S g):Row w' g e size xs:=hr.keep (h.block g hr.lt hs)
theorem Keeps.cell(h:Keeps S w w'){p:Addr}{v:Value}(hs:¬S p.block)(hc:w.cell? p=some v):w'.cell? p=some v:=by
  have hlt:p.block<w.heap.size:=by
    rcases Nat.lt_or_ge p.block w.heap.size with h1 | h1
    · exact h1
    · rw [World.cell?,Array.getElem?_eq_none h1] at hc;cases hc
  rw [World.cell?_of_block (w:=w) (h.block p.block hlt hs)];exact hc
end
abbrev Pure(w w':World):Prop:=Keeps (fun _=>False) w w'
theorem Pure.toBelow{w w':World}(h:Pure w w'):Below w.heap.size w w':=h.below (fun _ _=>id) (Nat.le_refl _)
theorem Pure.to{S:Nat→Prop}{w w':World}(h:Pure w w'):Keeps S w w':=h.mono fun _ _=>False.elim
theorem Pure.after{S:Nat→Prop}{a w w':World}(h:Keeps S a w)(k:Pure w w'):Keeps S a w':=h.trans (Pure.to k)
def Ints(w:World)(A:Option Addr)(xs:List Int):Prop :=
  0<xs.length→∃ b off,A=some ⟨b,off,none⟩∧b<w.heap.size∧∀ k,k<xs.length→w.cell? ⟨b,off+k,none⟩=some (.int .i64 (gi xs k))
theorem Ints.keep{w w':World}{A:Option Addr}{xs:List Int}(h:Ints w A xs)(hk:Pure w w'):Ints w' A xs:=fun hl=>by
  obtain ⟨b,off,e,hb,hc⟩:=h hl
  exact ⟨b,off,e,Nat.lt_of_lt_of_le hb hk.size,fun k h1=>hk.cell id (hc k h1)⟩
theorem Ints.nil(w:World)(A:Option Addr):Ints w A []:=fun h=>absurd h (by simp)
abbrev E3:=Int×Int×Int
def ge(es:List E3)(k:Nat):E3:=es.getD k (0,0,0)
theorem yfn{l:List E3}{k:Nat}(h:k<l.length):ge l k=l[k]:=by simp [ge,h]
theorem yg1{l:List E3}{k:Nat}(h:k<l.length):l.drop k=ge l k::l.drop (k+1):=by rw [yfn h];exact List.drop_eq_getElem_cons h
theorem ge_mem{l:List E3}{k:Nat}(h:k<l.length):ge l k∈l:=by rw [yfn h];exact List.getElem_mem h
def yhx(w:World)(A:Option Addr)(es:List E3):Prop :=
  0<es.length→∃ b off,A=some ⟨b,off,none⟩∧b<w.heap.size∧∀ k,k<es.length →
    w.cell? ⟨b,off+k*3,none⟩=some (.int .i64 (ge es k).1)∧w.cell? ⟨b,off+k*3+1,none⟩=some (.int .i64 (ge es k).2.1)∧w.cell? ⟨b,off+k*3+2,none⟩=some (.int .i64 (ge es k).2.2)
theorem yhx.keep{w w':World}{A:Option Addr}{es:List E3}(h:yhx w A es)(hk:Pure w w'):yhx w' A es:=fun hl=>by
  obtain ⟨b,off,e,hb,hc⟩:=h hl
  exact ⟨b,off,e,Nat.lt_of_lt_of_le hb hk.size,fun k h1=>⟨hk.cell id (hc k h1).1,hk.cell id (hc k h1).2.1,hk.cell id (hc k h1).2.2⟩⟩
abbrev IRow(w:World)(g:Nat)(e:TypeId)(size:Nat)(xs:List Int):Prop:=Row w g e size (xs.map (Value.int .i64))
abbrev BRow(w:World)(g:Nat)(e:TypeId)(size:Nat)(xs:List Bool):Prop:=Row w g e size (xs.map Value.bool)
section
variable {w : World} {g : Nat} {e : TypeId} {size : Nat}
theorem bcell{xs:List Bool}(h:BRow w g e size xs){k:Nat}(hk:k<xs.length):w.cell? ⟨g,k,none⟩=some (.bool (gb xs k)) :=
  Row.cell h (by rw [List.getElem?_map,List.getElem?_eq_getElem hk,yeU hk];rfl)
theorem bset{xs:List Bool}(h:BRow w g e size xs)(k:Nat)(v:Bool):BRow (w.setCell ⟨g,k,none⟩ (.bool v)) g e size (xs.set k v):=by
  have:=Row.set_ h k (.bool v)
  unfold BRow;rwa [List.map_set]
end
theorem madeCells_one(z:Value)(hz:z.cells = #[z])(n:Nat):madeCells z.cells n=Array.replicate n z:=by
  rw [hz]
  apply Array.ext
  · simp [madeCells]
  · intro i h1 h2
    simp [madeCells,Nat.mod_one]
theorem run_make_one{P:Program}(t e:TypeId)(i:TypeInfo)(z:Value)(ht:P.underlying t=some (.slice e))(hi:P.info? e=some i)(hz:i.zero=some z)(hsz:i.size=1)(hb:i.bytes≤64)(hzc:z.cells = #[z])
    (n:Nat) (hn:n≤1000000) (w:World) :
    (Instr.makeSlice t (.int .i64 (n:Int)) (.int .i64 (n:Int))).run P w = .ok (.slice (some ⟨w.heap.size,0,none⟩) n n) (w.alloc (.cells (Array.replicate n z) e)):=by
  have hm:i.bytes*n≤64*1000000:=Nat.mul_le_mul hb hn
  have:=run_make (P:=P) w t e i z ht hi hz .i64 .i64 n n (by omega) (by omega) (by rw [←Int.natCast_mul];omega) (by omega)
  rw [this,Int.toNat_natCast,hsz,Nat.mul_one,madeCells_one z hzc]
theorem Row.full{w:World}{g:Nat}{e:TypeId}{xs:List Value}(h:Row w g e xs.length xs):w.heap[g]? = some (.cells xs.toArray e (0,0)):=by
  obtain ⟨cur,h1,h2,h3⟩:=h
  rw [h1]
  congr 2
  rw [←h3,List.take_of_length_le (by simp [h2])]
theorem yhz{P:Program}{ops:Array Oper}{rest:List Oper}{o:Oper}{a:Act}{w:World}{Q:Exit→Act→World→Prop}(hgd:o.guard=none)(ty:TypeId)(x y:Operand)(ho:o.op = .store ty x y)
    (g:Nat) (hx:a.eval x = .pointer (some ⟨g,0,none⟩)) (cs:Array Value) (hy:a.eval y = .agg cs) (t:TypeId) (old:Array Value) (hg:w.heap[g]? = some (.cells old t (0,0))) (hsz:old.size=cs.size)
    (hi:(P.info? ty).map (·.size)=some cs.size) (h1:∀ v∈cs.toList,v.oneCell'=true)
    (h:wpList P ops Q rest (a.put o.dst undef) (w.setRow g cs)):wpList P ops Q (o::rest) a w:=by
  refine wpList_plain hgd fun K hK=>?_
  have hst:=run_storeCells_at P g 0 t cs.toList 0 old w hg (by simp [hsz]) h1
  have e:(old.toList.take 0++cs.toList++old.toList.drop (0+cs.toList.length)).toArray=cs:=by
    rw [List.drop_of_length_le (by simp [hsz])]
    simp
  simp only [Nat.add_zero,Nat.zero_add] at hst e
  rw [e] at hst
  cases hq:P.info? ty with
  | none=>simp [hq] at hi
  | some i =>
    have hs:i.size=cs.size:=by simpa [hq] using hi
    unfold Oper.wp execOp
    simp only [ho,hx,hy,Instr.storeAt,Instr.sureAddr,storeVar,Value.cells,Sem.run_bind,Sem.run_pure,Result.andThen_ok]
    simp [sizeOf,typeInfo,hq,hs,hst]
    exact hK _ _ h
theorem Keeps.setRow{S:Nat→Prop}{a w:World}(h:Keeps S a w){g:Nat}(hp:g<a.heap.size→S g)(cs:Array Value):Keeps S a (w.setRow g cs) :=
  ⟨h.os,h.tape,h.output,Nat.le_trans h.size (by simp),fun k hk hn=>(setRow_other w g k cs (fun e=>by subst e;exact hn (hp hk))).trans (h.block k hk hn)⟩
theorem Row.setRow{w:World}{g:Nat}{e:TypeId}{size:Nat}{xs:List Value}(h:Row w g e size xs)(ys:List Value)(hl:ys.length=size):Row (w.setRow g ys.toArray) g e size ys:=by
  obtain ⟨cur,h1,h2,h3⟩:=h
  refine ⟨ys.toArray,setRow_heap w g cur _ e _ h1,by simpa using hl,by simp⟩
end Go.Proofs.YtjepipbkiadcpaaGreat

/- The walk over an environment, a step a lemma: the items, the regions, the operations. No program in sight. -/
namespace Go.Proofs.YtjepipbkiadcpaaGreat
open Go Go.RowKit Go.Proofs.Tryz
def WT(F:Fence)(n:Nat)(P:Program)(N:Nat)(todo:List Item)(Q:Exit→Act→World→Prop)(E:Env)(ds:List Deferred)(w:World):Prop :=
  ∀ a,Rep N E ds a→WTa F n P todo Q a w
structure Wd(F:Fence):Prop where
  fn:∀ f,F.fn f
  depth:F.depth=none
  calls:∀ n P f args w R,Calls P f args w R→CallsIn F n P f args w R
  rounds:∀ n P l f tmps assign body w R,RoundIn Fence.wide 0 P l f tmps assign body w R→RoundIn F n P l f tmps assign body w R
theorem yav:Wd Fence.wide:=⟨fun _=>trivial,rfl,fun _ _ _ _ _ _ h=>callsIn_wide.2 h,fun _ _ _ _ _ _ _ _ _ h=>⟨trivial,fun c cs _=>h.2 c cs (room_wide _)⟩⟩
theorem wd_round(l:Nat):Wd (Fence.wide.inRound l):=⟨fun _=>trivial,rfl,fun _ _ _ _ _ _ h=>CallsIn.inRound l (callsIn_wide.2 h),fun _ _ _ _ _ _ _ _ _ h=>⟨trivial,fun c cs _=>h.2 c cs (room_wide _)⟩⟩
section
variable {F : Fence} {n : Nat} {P : Program} {N : Nat} {Q : Exit → Act → World → Prop} {E : Env} {ds : List Deferred} {w : World} {t : List Item}
theorem yae(h:WT F n P N t Q E ds w):WT F n P N (.code .skip::t) Q E ds w:=fun a r=>WTa.skip (h a r)
theorem yad{x y:Code}(h:WT F n P N (.code x :: .code y::t) Q E ds w):WT F n P N (.code (.seq x y)::t) Q E ds w:=fun a r=>WTa.seq (h a r)
theorem yah{id:Nat}{c:Code}(h:WT F n P N (.code c :: .inBlock id::t) Q E ds w):WT F n P N (.code (.block id c)::t) Q E ds w:=fun a r=>WTa.block (h a r)
theorem yaj{id:Nat}(h:WT F n P N t Q E ds w):WT F n P N (.inBlock id::t) Q E ds w:=fun a r=>WTa.inBlock (h a r)
theorem yaC{id:Nat}{k':List Item}(he:exitTo id t=some k')(h:WT F n P N k' Q E ds w):WT F n P N (.code (.exit id)::t) Q E ds w:=fun a r=>WTa.exit he (h a r)
theorem wt_cond{c:Operand}{x y:Code}{b:Bool}(hc:evE E c = .bool b)(h:WT F n P N (.code (if b then x else y)::t) Q E ds w):WT F n P N (.code (.cond c x y)::t) Q E ds w :=
  fun a r=>WTa.cond (by rw [r.eval];exact hc) (h a r)
theorem yar{c:Operand}{x y:Code}(hc:evE E c = .bool true)(h:WT F n P N (.code x::t) Q E ds w):WT F n P N (.code (.cond c x y)::t) Q E ds w:=wt_cond hc h
theorem yaA{c:Operand}{x y:Code}(hc:evE E c = .bool false)(h:WT F n P N (.code y::t) Q E ds w):WT F n P N (.code (.cond c x y)::t) Q E ds w:=wt_cond hc h
theorem wt_nil(h:∀ a,Rep N E ds a→Q .normal a w):WT F n P N [] Q E ds w:=fun a r=>WTa.nil (h a r)
theorem yhZ(h:∀ a,Rep N E ds a→Q .ret a w):WT F n P N (.code .ret::t) Q E ds w:=fun a r=>WTa.ret (h a r)
theorem yaE{c:Code}(I:Nat→Env→List Deferred→World→Prop)(m:Nat)(h₀:I m E ds w)
    (round:∀ m E ds w,I m E ds w→(∀ m' E' ds' w',I m' E' ds' w'→m'<m→WT F n P N (.inLoop c::t) Q E' ds' w')→WT F n P N (.code c :: .inLoop c::t) Q E ds w):WT F n P N (.code (.loop c)::t) Q E ds w:=by
  intro a r
  have key:∀ j m E ds w,m=j→I m E ds w→∀ a,Rep N E ds a→WTa F n P (.code c :: .inLoop c::t) Q a w:=by
    intro j
    induction j using Nat.strongRecOn with
    | _ j ih =>
      intro m E ds w hj hI a r
      refine round m E ds w hI (fun m' E' ds' w' hI' hlt a' r'=>?_) a r
      intro b k cs hro hb hr
      obtain ⟨e,a2,w2,hq,harr⟩:=ih m' (hj▸hlt) m' E' ds' w' rfl hI' a' r' b k cs hro hb hr
      exact ⟨e,a2,w2,hq, .of_steps (.one (fenced_calm hb hr rfl) stepR_inLoop) harr⟩
  intro b k cs hro hb hr
  obtain ⟨e,a2,w2,hq,harr⟩:=key _ m E ds w rfl h₀ a r b k cs hro hb hr
  exact ⟨e,a2,w2,hq, .of_steps (.one (fenced_calm hb hr rfl) stepR_loop) harr⟩
def RJ(P:Program)(N:Nat)(ops:Array Oper)(st:Nat→List Nat)(Qa:Act→World→Prop)(R:List Nat)(pend:List (Nat×Sem Next×Value))(E:Env)(ds:List Deferred)(w:World):Prop :=
  ∀ a,Rep N E ds a→seqS P ops st Qa R pend a w
def st0:Nat→List Nat:=fun _=>[]
theorem wt_region{id:Nat}{ops:Array Oper}{R:List Nat}(hw:Wd F)(hR:List.range ops.size=R)(h:RJ P N ops st0 (WTa F n P t Q) R [] E ds w):WT F n P N (.code (.region id ops false)::t) Q E ds w:=by
  intro a r
  refine WTa.of (wpIn_region ?_)
  rw [hR]
  exact yeW hw.fn hw.depth (fun f args w R h=>hw.calls _ _ _ _ _ _ h) (fun l f tmps assign body w R h=>hw.rounds _ _ _ _ _ _ _ _ _ h) (fun a w h=>⟨rfl,h⟩) R [] a w (h a r)
theorem wt_draw{id:Nat}{ops:Array Oper}(R:List Nat)(st:Nat→List Nat)(hw:Wd F)(hm:P.follows .mixedOrders=true)(hO:yhI ops st R=true)(h:RJ P N ops st (WTa F n P t Q) R [] E ds w.drew) :
    WT F n P N (.code (.region id ops true)::t) Q E ds w:=by
  intro a r
  simp only [yhI,Bool.and_eq_true,decide_eq_true_eq] at hO
  obtain ⟨⟨⟨h1,h2⟩,h3⟩,h4⟩:=hO
  have h5:∀ i,i<ops.size→i∈R:=fun i hi=>by simpa using List.all_eq_true.1 h2 i (List.mem_range.2 hi)
  have h6:∀ i,i∈R→i<ops.size:=fun i hi=>by
    have:=List.all_eq_true.1 h1 i hi
    rcases Nat.lt_or_ge i ops.size with h | h
    · exact h
    · rw [Array.getElem?_eq_none h] at this;cases this
  refine WTa.of (wpIn_region_any hm ?_)
  refine seqS_any hw.fn hw.depth (fun f args w R h=>hw.calls _ _ _ _ _ _ h) (fun l f tmps assign body w R h=>hw.rounds _ _ _ _ _ _ _ _ _ h) (fun a w h=>⟨rfl,h⟩) (fun j oj hj e he hb=>?_) ops.size R _ [] a _ h3 ((ygo.out h4).imp (fun h=>by simpa using h)) (fun i=>?_) (by simp) (fun j oj hj hl=>?_) (h a r)
  · have:=List.all_eq_true.1 h1 j (h5 j (Array.getElem?_eq_some_iff.1 hj).1)
    rw [hj] at this
    simp only at this
    rw [Array.all_eq_true] at this
    obtain ⟨k,hk,rfl⟩:=Array.getElem_of_mem he
    have h3:=this k hk
    simpa [hb] using h3
  · constructor
    · intro hi;simp [h6 i hi]
    · intro hi
      apply h5
      rcases Nat.lt_or_ge i ops.size with h | h
      · exact h
      · simp [Array.getD_eq_getD_getElem?,h] at hi
  · exfalso
    have:=(Array.getElem?_eq_some_iff.1 hj).1
    simp [Array.getD_eq_getD_getElem?,this] at hl
end
def dstLt(N:Nat)(d:Option Nat):Bool:=match d with | some k=>Nat.blt k N | none=>true
theorem yfk{N:Nat}{d:Option Nat}(h:dstLt N d=true):∀ k,d=some k→k<N:=by
  intro k e
  subst e
  simpa [dstLt] using h
section
variable {P : Program} {N : Nat} {ops : Array Oper} {st : Nat → List Nat} {Qa : Act → World → Prop} {R : List Nat} {pend : List (Nat × Sem Next × Value)} {E : Env} {ds : List Deferred} {w : World} {i : Nat} {o : Oper}
theorem rj_end{F:Fence}{n:Nat}{t:List Item}{Q:Exit→Act→World→Prop}(h:WT F n P N t Q E ds w):RJ P N ops st (WTa F n P t Q) [] pend E ds w:=fun a r=>h a r
theorem rj_q{v:Value}(ho:ops[i]? = some o)(hw:Region.wanted o (yE ops E)=true)(hq:ya2 o.op=true)(hd:dstLt N o.dst=true)
    (hv:(execOp (evE E) o).run P w = .ok (.value v) w) (h:RJ P N ops st Qa R ((i,execOp (evE E) o,v)::pend) (updO E o.dst v) ds w):RJ P N ops st Qa (i::R) pend E ds w:=by
  intro a r
  simp only [seqS,ho,r.yielded,hw,hq,if_true,r.eval]
  exact ⟨v,hv,h _ (r.put (yfk hd) v)⟩
theorem rj_p(ho:ops[i]? = some o)(hw:Region.wanted o (yE ops E)=false)(hd:dstLt N o.dst=true)
    (h:RJ P N ops st Qa R pend (updO E o.dst undef) ds w):RJ P N ops st Qa (i::R) pend E ds w:=by
  intro a r
  simp only [seqS,ho,r.yielded,hw,if_false,Bool.false_eq_true]
  exact h _ (r.put (yfk hd) undef)
def Stb(P:Program)(L:List Nat)(w:World):List (Nat×Sem Next×Value)→Prop
  | []=>True
  | (i,s,v)::t=>(L.contains i=true→s.run P w = .ok (.value v) w)∧Stb P L w t
theorem Stb.all{P:Program}{L:List Nat}{w:World} : ∀ {l:List (Nat×Sem Next×Value)},Stb P L w l→∀ p∈l,p.1∈L→p.2.1.run P w = .ok (.value p.2.2) w
  | (_,_,_)::_,h,p,hp,hL=>by
    rcases List.mem_cons.1 hp with rfl | hp
    · exact h.1 (List.contains_iff_mem.2 hL)
    · exact Stb.all h.2 p hp hL
theorem Stb.none{P:Program}{w:World} : ∀ (l:List (Nat×Sem Next×Value)),Stb P [] w l
  | []=>trivial
  | (_,_,_)::t=>⟨fun h=>Bool.noConfusion (show false=true from h),Stb.none t⟩
theorem rj_n(ho:ops[i]? = some o)(hw:Region.wanted o (yE ops E)=true)(hq:ya2 o.op=false)(hn:ybG o.op=true)(hd:dstLt N o.dst=true)
    (h:ybO P o (evE E) w fun v w'=>Stb P (st i) w' pend∧RJ P N ops st Qa R pend (updO E o.dst v) ds w'):RJ P N ops st Qa (i::R) pend E ds w:=by
  intro a r
  simp only [seqS,ho,r.yielded,hw,hq,if_true,if_false,Bool.false_eq_true,r.eval]
  refine ⟨hn,h.mono fun v w' h=>⟨h.1.all,h.2 _ (r.put (yfk hd) v)⟩⟩
end
def RL(P:Program)(N:Nat)(ops:Array Oper)(st:Nat→List Nat)(Qa:Act→World→Prop)(i:Nat)(l:List Oper)(pend:List (Nat×Sem Next×Value))(E:Env)(ds:List Deferred)(w:World):Prop :=
  ops.toList.drop i=l→RJ P N ops st Qa (List.range' i l.length) pend E ds w
theorem ygU{ops:Array Oper}{i:Nat}{o:Oper}{l:List Oper}(h:ops.toList.drop i=o::l):ops[i]? = some o∧ops.toList.drop (i+1)=l:=by
  have h1:ops.toList[i]? = some o:=by
    have:=congrArg List.head? h
    rw [List.head?_drop] at this
    simpa using this
  refine ⟨by rw [←Array.getElem?_toList];exact h1,?_⟩
  have:=congrArg List.tail h
  rw [List.tail_drop] at this
  simpa using this
section
variable {P : Program} {N : Nat} {ops : Array Oper} {st : Nat → List Nat} {Qa : Act → World → Prop} {l : List Oper} {pend : List (Nat × Sem Next × Value)} {E : Env} {ds : List Deferred} {w : World} {i : Nat}
theorem yau{F:Fence}{n:Nat}{t:List Item}{Q:Exit→Act→World→Prop}{id:Nat}(hw:Wd F)(h:RL P N ops st0 (WTa F n P t Q) 0 ops.toList [] E ds w):WT F n P N (.code (.region id ops false)::t) Q E ds w :=
  wt_region hw (R:=List.range' 0 ops.toList.length) (by rw [List.range_eq_range',Array.length_toList]) (h rfl)
theorem yaa{F:Fence}{n:Nat}{t:List Item}{Q:Exit→Act→World→Prop}(h:WT F n P N t Q E ds w):RL P N ops st (WTa F n P t Q) i [] pend E ds w:=fun _=>rj_end h
variable {d : Nat} {dd : Option Nat} {op : Op} {ty : TypeId} {ps : String} {af : Array Edge} {g : Option (Nat × Bool)}
theorem rl_q{v:Value}(hw:Region.wanted ⟨some d,op,ty,ps,af,g⟩ (yE ops E)=true)(hq:ya2 op=true)(hd:Nat.blt d N=true)
    (hv:(execOp (evE E) ⟨some d,op,ty,ps,af,g⟩).run P w = .ok (.value v) w) (h:RL P N ops st Qa (i+1) l ((i,execOp (evE E) ⟨some d,op,ty,ps,af,g⟩,v)::pend) (upd E d v) ds w):RL P N ops st Qa i (⟨some d,op,ty,ps,af,g⟩::l) pend E ds w:=by
  intro hl
  obtain ⟨h1,h2⟩:=ygU hl
  exact rj_q h1 hw hq hd hv (h h2)
theorem rl_p(hw:Region.wanted ⟨some d,op,ty,ps,af,g⟩ (yE ops E)=false)(hd:Nat.blt d N=true)(h:RL P N ops st Qa (i+1) l pend (upd E d undef) ds w):RL P N ops st Qa i (⟨some d,op,ty,ps,af,g⟩::l) pend E ds w:=by
  intro hl
  obtain ⟨h1,h2⟩:=ygU hl
  exact rj_p h1 hw hd (h h2)
theorem rl_n(hw:Region.wanted ⟨some d,op,ty,ps,af,g⟩ (yE ops E)=true)(hq:ya2 op=false)(hn:ybG op=true)(hd:Nat.blt d N=true)
    (h:ybO P ⟨some d,op,ty,ps,af,g⟩ (evE E) w fun v w'=>Stb P (st i) w' pend∧RL P N ops st Qa (i+1) l pend (upd E d v) ds w'):RL P N ops st Qa i (⟨some d,op,ty,ps,af,g⟩::l) pend E ds w:=by
  intro hl
  obtain ⟨h1,h2⟩:=ygU hl
  exact rj_n h1 hw hq hn hd (h.mono fun v w' h=>⟨h.1,h.2 h2⟩)
theorem ygw(hw:Region.wanted ⟨none,op,ty,ps,af,g⟩ (yE ops E)=true)(hq:ya2 op=false)(hn:ybG op=true)
    (h:ybO P ⟨none,op,ty,ps,af,g⟩ (evE E) w fun v w'=>Stb P (st i) w' pend∧RL P N ops st Qa (i+1) l pend E ds w'):RL P N ops st Qa i (⟨none,op,ty,ps,af,g⟩::l) pend E ds w:=by
  intro hl
  obtain ⟨h1,h2⟩:=ygU hl
  exact rj_n h1 hw hq hn rfl (h.mono fun v w' h=>⟨h.1,h.2 h2⟩)
end
def RP(P:Program)(N:Nat)(ops:Array Oper)(st:Nat→List Nat)(Qa:Act→World→Prop)(R:List Nat)(l:List Oper)(pend:List (Nat×Sem Next×Value))(E:Env)(ds:List Deferred)(w:World):Prop :=
  R.map (fun i=>ops[i]?)=l.map some→RJ P N ops st Qa R pend E ds w
section
variable {P : Program} {N : Nat} {ops : Array Oper} {st : Nat → List Nat} {Qa : Act → World → Prop} {l : List Oper} {pend : List (Nat × Sem Next × Value)} {E : Env} {ds : List Deferred} {w : World} {i : Nat} {R : List Nat}
theorem ybi{F:Fence}{n:Nat}{t:List Item}{Q:Exit→Act→World→Prop}{id:Nat}(R:List Nat)(st:Nat→List Nat)(hw:Wd F)(hm:P.follows .mixedOrders=true)(hO:yhI ops st R=true)
    (h:RP P N ops st (WTa F n P t Q) R (R.map fun i=>ops.getD i default) [] E ds w.drew):WT F n P N (.code (.region id ops true)::t) Q E ds w :=
  wt_draw R st hw hm hO (h (by
    simp only [yhI,Bool.and_eq_true,decide_eq_true_eq] at hO
    rw [List.map_map]
    refine List.map_congr_left fun i hi=>?_
    have:=List.all_eq_true.1 hO.1.1.1 i hi
    cases hq:ops[i]? with
    | none=>rw [hq] at this;cases this
    | some o=>simp [Array.getD_eq_getD_getElem?,hq]))
theorem ybl{F:Fence}{n:Nat}{t:List Item}{Q:Exit→Act→World→Prop}(h:WT F n P N t Q E ds w):RP P N ops st (WTa F n P t Q) [] [] pend E ds w:=fun _=>rj_end h
variable {d : Nat} {op : Op} {ty : TypeId} {ps : String} {af : Array Edge} {g : Option (Nat × Bool)}
theorem rp_q{v:Value}(hw:Region.wanted ⟨some d,op,ty,ps,af,g⟩ (yE ops E)=true)(hq:ya2 op=true)(hd:Nat.blt d N=true)
    (hv:(execOp (evE E) ⟨some d,op,ty,ps,af,g⟩).run P w = .ok (.value v) w) (h:RP P N ops st Qa R l ((i,execOp (evE E) ⟨some d,op,ty,ps,af,g⟩,v)::pend) (upd E d v) ds w):RP P N ops st Qa (i::R) (⟨some d,op,ty,ps,af,g⟩::l) pend E ds w:=by
  intro hl
  simp only [List.map_cons,List.cons.injEq] at hl
  exact rj_q hl.1 hw hq hd hv (h hl.2)
theorem rp_p(hw:Region.wanted ⟨some d,op,ty,ps,af,g⟩ (yE ops E)=false)(hd:Nat.blt d N=true)(h:RP P N ops st Qa R l pend (upd E d undef) ds w):RP P N ops st Qa (i::R) (⟨some d,op,ty,ps,af,g⟩::l) pend E ds w:=by
  intro hl
  simp only [List.map_cons,List.cons.injEq] at hl
  exact rj_p hl.1 hw hd (h hl.2)
theorem rp_n(hw:Region.wanted ⟨some d,op,ty,ps,af,g⟩ (yE ops E)=true)(hq:ya2 op=false)(hn:ybG op=true)(hd:Nat.blt d N=true)
    (h:ybO P ⟨some d,op,ty,ps,af,g⟩ (evE E) w fun v w'=>Stb P (st i) w' pend∧RP P N ops st Qa R l pend (upd E d v) ds w'):RP P N ops st Qa (i::R) (⟨some d,op,ty,ps,af,g⟩::l) pend E ds w:=by
  intro hl
  simp only [List.map_cons,List.cons.injEq] at hl
  exact rj_n hl.1 hw hq hn hd (h.mono fun v w' h=>⟨h.1,h.2 hl.2⟩)
theorem yhC(hw:Region.wanted ⟨none,op,ty,ps,af,g⟩ (yE ops E)=true)(hq:ya2 op=false)(hn:ybG op=true)
    (h:ybO P ⟨none,op,ty,ps,af,g⟩ (evE E) w fun v w'=>Stb P (st i) w' pend∧RP P N ops st Qa R l pend E ds w'):RP P N ops st Qa (i::R) (⟨none,op,ty,ps,af,g⟩::l) pend E ds w:=by
  intro hl
  simp only [List.map_cons,List.cons.injEq] at hl
  exact rj_n hl.1 hw hq hn rfl (h.mono fun v w' h=>⟨h.1,h.2 hl.2⟩)
end
def In64(a:Int):Prop := -9223372036854775808≤a∧a≤9223372036854775807
theorem In64.wrap{a:Int}(h:In64 a):IntKind.i64.wrap a=a:=IntWalk.i64_in _ h
section
variable {P : Program} {E : Env} {w : World} {d : Option Tmp} {x y z : Operand} {ty xt yt : TypeId} {ps : String} {af : Array Edge} {g : Option (Nat × Bool)}
theorem yac{v:Value}(h:evE E x=v):(execOp (evE E) ⟨d, .move x,ty,ps,af,g⟩).run P w = .ok (.value v) w:=by rw [←h];rfl
theorem yaH{v:Value}(h:evE E x=v):(execOp (evE E) ⟨d, .assign x,ty,ps,af,g⟩).run P w = .ok (.value v) w:=by rw [←h];rfl
theorem yaq{v:Value}(hc:evE E x = .bool true)(h:evE E y=v):(execOp (evE E) ⟨d, .pick x y z,ty,ps,af,g⟩).run P w = .ok (.value v) w:=by
  simp [execOp,hc,h,go_sem]
theorem yaw{v:Value}(hc:evE E x = .bool false)(h:evE E z=v):(execOp (evE E) ⟨d, .pick x y z,ty,ps,af,g⟩).run P w = .ok (.value v) w:=by
  simp [execOp,hc,h,go_sem]
theorem ydX{b:Bool}(h:evE E x = .bool b):(execOp (evE E) ⟨d, .unOp .not xt x,ty,ps,af,g⟩).run P w = .ok (.value (.bool !b)) w:=by
  simp [execOp,h,Op.unary,go_sem]
theorem ybg{a b:Int}(hx:evE E x = .int .i64 a)(hy:evE E y = .int .i64 b)(hi:In64 (a+b)):(execOp (evE E) ⟨d, .binOp .add xt x y yt,ty,ps,af,g⟩).run P w = .ok (.value (.int .i64 (a+b))) w:=by
  simp [execOp,hx,hy,eqGuard,binOp,Op.intArith,go_sem,hi.wrap]
theorem v_sub{a b:Int}(hx:evE E x = .int .i64 a)(hy:evE E y = .int .i64 b)(hi:In64 (a-b)):(execOp (evE E) ⟨d, .binOp .sub xt x y yt,ty,ps,af,g⟩).run P w = .ok (.value (.int .i64 (a-b))) w:=by
  simp [execOp,hx,hy,eqGuard,binOp,Op.intArith,go_sem,hi.wrap]
theorem v_mul{a b:Int}(hx:evE E x = .int .i64 a)(hy:evE E y = .int .i64 b)(hi:In64 (a*b)):(execOp (evE E) ⟨d, .binOp .mul xt x y yt,ty,ps,af,g⟩).run P w = .ok (.value (.int .i64 (a*b))) w:=by
  simp [execOp,hx,hy,eqGuard,binOp,Op.intArith,go_sem,hi.wrap]
theorem v_quo{a b:Int}(hx:evE E x = .int .i64 a)(hy:evE E y = .int .i64 b)(hb:b≠0)(hi:In64 (a.tdiv b)):(execOp (evE E) ⟨d, .binOp .quo xt x y yt,ty,ps,af,g⟩).run P w = .ok (.value (.int .i64 (a.tdiv b))) w:=by
  simp [execOp,hx,hy,eqGuard,binOp,Op.intDiv,go_sem,hi.wrap,hb]
theorem v_rem{a b:Int}(hx:evE E x = .int .i64 a)(hy:evE E y = .int .i64 b)(hb:b≠0):(execOp (evE E) ⟨d, .binOp .rem xt x y yt,ty,ps,af,g⟩).run P w = .ok (.value (.int .i64 (a.tmod b))) w:=by
  simp [execOp,hx,hy,eqGuard,binOp,Op.intDiv,go_sem,hb]
theorem ybD{k:IntKind}{a b:Int}(hx:evE E x = .int k a)(hy:evE E y = .int k b):(execOp (evE E) ⟨d, .binOp .lss xt x y yt,ty,ps,af,g⟩).run P w = .ok (.value (.bool (decide (a<b)))) w:=by
  simp [execOp,hx,hy,eqGuard,binOp,Op.intCmp,go_sem]
theorem v_leq{k:IntKind}{a b:Int}(hx:evE E x = .int k a)(hy:evE E y = .int k b):(execOp (evE E) ⟨d, .binOp .leq xt x y yt,ty,ps,af,g⟩).run P w = .ok (.value (.bool (decide (a≤b)))) w:=by
  simp [execOp,hx,hy,eqGuard,binOp,Op.intCmp,go_sem]
theorem v_gtr{k:IntKind}{a b:Int}(hx:evE E x = .int k a)(hy:evE E y = .int k b):(execOp (evE E) ⟨d, .binOp .gtr xt x y yt,ty,ps,af,g⟩).run P w = .ok (.value (.bool (decide (b<a)))) w:=by
  simp [execOp,hx,hy,eqGuard,binOp,Op.intCmp,go_sem]
theorem yfy{k:IntKind}{a b:Int}(hx:evE E x = .int k a)(hy:evE E y = .int k b):(execOp (evE E) ⟨d, .binOp .geq xt x y yt,ty,ps,af,g⟩).run P w = .ok (.value (.bool (decide (b≤a)))) w:=by
  simp [execOp,hx,hy,eqGuard,binOp,Op.intCmp,go_sem]
theorem v_eql{k:IntKind}{a b:Int}(hx:evE E x = .int k a)(hy:evE E y = .int k b):(execOp (evE E) ⟨d, .binOp .eql xt x y yt,ty,ps,af,g⟩).run P w = .ok (.value (.bool (decide (a=b)))) w:=by
  simp [execOp,hx,hy,eqGuard,binOp,Op.intCmp,go_sem]
  rfl
theorem yih{k:IntKind}{a b:Int}(hx:evE E x = .int k a)(hy:evE E y = .int k b):(execOp (evE E) ⟨d, .binOp .neq xt x y yt,ty,ps,af,g⟩).run P w = .ok (.value (.bool (!decide (a=b)))) w:=by
  simp [execOp,hx,hy,eqGuard,binOp,Op.intCmp,go_sem]
  rfl
theorem v_len{s:Option Addr}{l c:Nat}{e:TypeId}(hx:evE E x = .slice s l c)(hu:P.underlying xt=some (.slice e)):(execOp (evE E) ⟨d, .call ⟨.builtin .len,#[x],#[xt]⟩,ty,ps,af,g⟩).run P w = .ok (.value (.int .i64 (l:Int))) w:=by
  simp [execOp,hx,resolve,invoke,builtin,Builtin.len_,go_sem,underlying,hu,goInt]
theorem yaX{a:Addr}(hx:evE E x = .pointer (some a)):(execOp (evE E) ⟨d, .nilCheck x,ty,ps,af,g⟩).run P w = .ok (.value (.pointer (some a))) w:=by
  simp [execOp,hx,go_sem]
theorem ybA{vs:Array Value}{v:Value}{k:Nat}(hx:evE E x = .tuple vs)(hv:vs[k]? = some v):(execOp (evE E) ⟨d, .extract x k,ty,ps,af,g⟩).run P w = .ok (.value v) w:=by
  simp [execOp,hx,Instr.extract,go_sem,hv]
theorem v_func{fn:Fn}{first captured:Array Operand}{vs us:Array Value}(h1:first.map (evE E)=vs)(h2:captured.map (evE E)=us):(execOp (evE E) ⟨d, .makeFunc fn first captured,ty,ps,af,g⟩).run P w = .ok (.value (.func fn vs us)) w:=by
  simp [execOp,Instr.makeFunc,go_sem,h1,h2]
end
end Go.Proofs.YtjepipbkiadcpaaGreat

/- The walk over an environment: operations on memory, calls, ends of functions. No program in sight. -/
namespace Go.Proofs.YtjepipbkiadcpaaGreat
open Go Go.RowKit Go.Shelf Go.Proofs.Tryz
def Kp(w w':World)(g:Nat):Prop:=g<w.heap.size→w'.heap[g]? = w.heap[g]?
theorem Kp.refl(w:World)(g:Nat):Kp w w g:=fun _=>rfl
structure New(w:World)(g:Nat)(w':World)(cs:Array Value)(e:TypeId):Prop where
  at_:g=w.heap.size
  to_:w'=w.alloc (.cells cs e)
theorem New.row{w w':World}{g:Nat}{cs:Array Value}{e:TypeId}(h:New w g w' cs e):Row w' g e cs.size cs.toList:=by rw [h.at_,h.to_];exact Row.new _ _ _
theorem New.keeps{w w':World}{g:Nat}{cs:Array Value}{e:TypeId}(h:New w g w' cs e)(S:Nat→Prop):Keeps S w w':=by rw [h.to_];exact (Keeps.refl S w).alloc _
theorem New.size{w w':World}{g:Nat}{cs:Array Value}{e:TypeId}(h:New w g w' cs e):w'.heap.size=g+1:=by rw [h.at_,h.to_];simp
def Ix(A:Option Addr)(l:Nat)(i:Int):Prop:=A.isSome=true∧0≤i∧i<(l:Int)
def ixA(A:Option Addr)(i:Int)(sz:Nat):Addr:=(A.getD default).add (i.toNat*sz)
def Wr(w:World)(p:Addr):Prop:=(w.cell? p).isSome=true∧w.frozen? p=false
def aggD:TypeDesc→Bool
  | .struct _ | .array _ _=>true
  | _=>false
section
variable {P : Program} {E : Env} {w : World} {d : Option Tmp} {x y z : Operand} {ty xt yt : TypeId} {ps : String} {af : Array Edge} {g : Option (Nat × Bool)}
theorem run_isAgg_no{t:TypeId}{u:TypeDesc}(hu:P.underlying t=some u)(hn:aggD u=false)(w:World):(isAgg t).run P w = .ok false w:=by
  unfold isAgg underlying program
  simp only [Sem.run_bind,Sem.run,hu,Result.andThen,bind,Sem.bind]
  cases u <;> first | rfl | cases hn
theorem ygW{t:TypeId}{u:TypeDesc}(hu:P.underlying t=some u)(hn:aggD u=true)(w:World):(isAgg t).run P w = .ok true w:=by
  unfold isAgg underlying program
  simp only [Sem.run_bind,Sem.run,hu,Result.andThen,bind,Sem.bind]
  cases u <;> first | rfl | cases hn
theorem ycd{t:TypeId}{z:Option Value}{n b:Nat}(hi:(P.info? t).map (fun i=>(i.zero,i.size,i.bytes))=some (z,n,b))(w:World):(sizeOf t).run P w = .ok n w:=by
  cases hq:P.info? t with
  | none=>rw [hq] at hi;cases hi
  | some i =>
    rw [hq] at hi
    simp only [Option.map_some,Option.some.injEq,Prod.mk.injEq] at hi
    simp [sizeOf,typeInfo,hq,hi.2.1,go_sem]
theorem run_load(a:Addr)(v:Value)(h:w.cell? a=some v):(load a).run P w = .ok v w:=by
  unfold load
  simp only [Sem.run,h]
theorem yay{p:Addr}{u:TypeDesc}{v:Value}(hx:evE E x = .pointer (some p))(hu:P.underlying xt=some u)(hn:aggD u=false)(hc:w.cell? p=some v) :
    (execOp (evE E) ⟨d, .load xt x,ty,ps,af,g⟩).run P w = .ok (.value v) w:=by
  unfold execOp
  simp only [hx,Instr.loadAt,Instr.sureAddr,loadVar,Sem.run_bind,Sem.run_pure,Result.andThen,run_isAgg_no hu hn,run_load p v hc,Bool.false_eq_true,if_false]
def ygE(w:World)(p:Addr):Nat→List Value→Prop
  | _,[]=>True
  | i,v::t=>w.cell? (p.add i)=some v∧ygE w p (i+1) t
theorem yfr{p:Addr} : ∀ (vs:List Value) (i:Nat) (acc:Array Value),ygE w p i vs→(loadCellsFrom p i vs.length acc).run P w = .ok (acc++vs.toArray) w
  | [],i,acc,_=>by simp [loadCellsFrom,go_sem]
  | v::vs,i,acc,h=>by
    simp only [List.length_cons,loadCellsFrom,Sem.run_bind,run_load _ v h.1,Result.andThen]
    rw [yfr vs (i+1) (acc.push v) h.2]
    simp
theorem yat{p:Addr}{u:TypeDesc}{vs:List Value}{zo:Option Value}{b:Nat}(hx:evE E x = .pointer (some p))(hu:P.underlying xt=some u)(hn:aggD u=true)(hi:(P.info? xt).map (fun i=>(i.zero,i.size,i.bytes))=some (zo,vs.length,b))(hc:ygE w p 0 vs) :
    (execOp (evE E) ⟨d, .load xt x,ty,ps,af,g⟩).run P w = .ok (.value (.agg vs.toArray)) w:=by
  unfold execOp
  have:=yfr (P:=P) vs 0 #[] hc
  simp only [hx,Instr.loadAt,Instr.sureAddr,loadVar,Sem.run_bind,Sem.run_pure,Result.andThen,ygW hu hn,if_true,loadCells,ycd hi,this]
  simp
theorem yab{p:Addr}{k:Nat}{fs:Array Field}{f:Field}{zo:Option Value}{n b:Nat}(hx:evE E x = .pointer (some p))(hs:P.underlying xt=some (.struct fs))(hf:fs[k]? = some f)
    (hi:(P.info? f.type).map (fun i=>(i.zero,i.size,i.bytes))=some (zo,n+1,b)):(execOp (evE E) ⟨d, .fieldAddr xt x k,ty,ps,af,g⟩).run P w = .ok (.value (.pointer (some (p.add f.offset)))) w:=by
  unfold execOp
  simp only [hx,Instr.fieldAt,Instr.sureAddr,fieldPlace,Sem.run_bind,Sem.run_pure,Result.andThen,run_underlying hs,hf,ycd hi]
  rfl
theorem ya4{A:Option Addr}{l c:Nat}{e:TypeId}{k:IntKind}{i:Int}{zo:Option Value}{n b:Nat}(hx:evE E x = .slice A l c)(hy:evE E y = .int k i)(hu:P.underlying xt=some (.slice e))
    (hi:(P.info? e).map (fun i=>(i.zero,i.size,i.bytes))=some (zo,n,b)) (h:Ix A l i):(execOp (evE E) ⟨d, .indexAddr xt x y,ty,ps,af,g⟩).run P w = .ok (.value (.pointer (some (ixA A i n)))) w:=by
  obtain ⟨hA,h0,h1⟩:=h
  cases A with
  | none=>cases hA
  | some a =>
    unfold execOp
    have hc:(0≤i∧i<(l:Int))=True:=by simp [h0,h1]
    simp only [hx,hy,Instr.indexAt,asIntOf,Sem.run_bind,Sem.run_pure,Result.andThen,run_underlying hu]
    simp only [hc,if_true,Sem.run_bind,Sem.run_pure,Result.andThen,ycd hi]
    rfl
variable {K : Value → World → Prop}
theorem yiq{p:Addr}{v:Value}{zo:Option Value}{b:Nat}(hx:evE E x = .pointer (some p))(hy:evE E y=v)(h1:v.oneCell'=true)(hi:(P.info? xt).map (fun i=>(i.zero,i.size,i.bytes))=some (zo,1,b))(hw:Wr w p)
    (h:∀ w',w'=w.setCell p v→K undef w'):ybO P ⟨d, .store xt x y,ty,ps,af,g⟩ (evE E) w K:=by
  have hcs:v.cells = #[v]:=by cases v <;> first | rfl | cases h1
  have hadd:p.add 0=p:=rfl
  obtain ⟨u,hu⟩:=Option.isSome_iff_exists.1 hw.1
  have hst:(store p v).run P w = .ok () (w.setCell p v):=by
    rw [run_store P w p v _ h1,hu]
    simp [hw.2]
  unfold ybO execOp
  simp only [hx,hy,Instr.storeAt,Instr.sureAddr,storeVar,Sem.run_bind,Sem.run_pure,Result.andThen,ycd hi,hcs,List.size_toArray,List.length_cons,List.length_nil,ne_eq,Nat.zero_add,not_true_eq_false,if_false,storeCells,hadd,hst]
  exact h _ rfl
theorem yas{b o:Nat}{cells:Array Value}{n:Nat}(hx:evE E x = .pointer (some ⟨b,o,none⟩))(hy:evE E y = .agg cells){zo:Option Value}{by':Nat}(hi':(P.info? xt).map (fun i=>(i.zero,i.size,i.bytes))=some (zo,n,by'))(hn:cells.size=n)(h1':cells.toList.all (·.oneCell')=true)(ht:w.there b o n)
    (h:∀ w',w'=w.setCells b o cells.toList→K undef w'):ybO P ⟨d, .store xt x y,ty,ps,af,g⟩ (evE E) w K:=by
  have h1:cells.all (·.oneCell')=true:=by rw [←Array.all_toList];exact h1'
  have hi:(P.info? xt).map (·.size)=some n:=by
    cases hq:P.info? xt with
    | none=>rw [hq] at hi';cases hi'
    | some i=>rw [hq] at hi';simp only [Option.map_some,Option.some.injEq,Prod.mk.injEq] at hi' ⊢;exact hi'.2.1
  subst hn
  have:=run_storeAt_mid (P:=P) w b o xt cells ht hi h1
  unfold ybO execOp
  simp only [hx,hy,Sem.run_bind,this,Result.andThen,Sem.run_pure]
  exact h _ rfl
theorem yek{t:TypeId}{z:Value}{n b:Nat}(hi:(P.info? t).map (fun i=>(i.zero,i.size,i.bytes))=some (some z,n,b))(w:World):(zeroValue t).run P w = .ok z w:=by
  cases hq:P.info? t with
  | none=>rw [hq] at hi;cases hi
  | some i =>
    rw [hq] at hi
    simp only [Option.map_some,Option.some.injEq,Prod.mk.injEq] at hi
    simp [zeroValue,typeInfo,hq,hi.1,go_sem]
theorem yaP{z:Value}{n b:Nat}(hi:(P.info? xt).map (fun i=>(i.zero,i.size,i.bytes))=some (some z,n,b))
    (h:∀ g' w',New w g' w' z.cells xt→K (.pointer (some ⟨g',0,none⟩)) w'):ybO P ⟨d, .alloc xt,ty,ps,af,g⟩ (evE E) w K:=by
  unfold ybO execOp
  simp only [Instr.alloc,newVar,newRow,newObj,Sem.run_bind,Sem.run_pure,Result.andThen,yek hi,Sem.run]
  exact h _ _ ⟨rfl,rfl⟩
theorem ybH{v:Value}(hx:evE E x=v)(h:∀ g' w',New w g' w' v.cells xt→K (.pointer (some ⟨g',0,none⟩)) w'):ybO P ⟨d, .box xt x,ty,ps,af,g⟩ (evE E) w K:=by
  unfold ybO execOp
  simp only [hx,Instr.box,newVar,newRow,newObj,Sem.run_bind,Sem.run_pure,Result.andThen,Sem.run]
  exact h _ _ ⟨rfl,rfl⟩
theorem ygi{e:TypeId}{z:Value}{b:Nat}{n:Int}(hx:evE E x = .int .i64 n)(hy:evE E y = .int .i64 n)(hu:P.underlying xt=some (.slice e))(hi:(P.info? e).map (fun i=>(i.zero,i.size,i.bytes))=some (some z,1,b))(hb:b≤64)(hz:z.cells = #[z])
    (hn:0≤n∧n≤1000000) (h:∀ g' w',New w g' w' (Array.replicate n.toNat z) e→K (.slice (some ⟨g',0,none⟩) n.toNat n.toNat) w'):ybO P ⟨d, .makeSlice xt x y,ty,ps,af,g⟩ (evE E) w K:=by
  obtain ⟨i0,hi0,hz0,hz1,hz2⟩:=info_parts hi
  obtain ⟨k,rfl⟩:∃ k:Nat,n=(k:Int):=⟨n.toNat,by omega⟩
  have:=run_make_one (P:=P) xt e i0 z hu hi0 hz0 hz1 (by omega) hz k (by omega) w
  unfold ybO execOp
  simp only [hx,hy,Sem.run_bind,this,Result.andThen,Sem.run_pure]
  exact h _ _ ⟨rfl,rfl⟩
theorem yc8{f:FuncId}{args:Array Operand}{ats:Array TypeId}{vs us:Array Value}{fo:Operand}(hf:evE E fo = .func (.func f) #[] us)(ha:args.map (evE E)=vs)(he:Enters P f)
    (h:Calls P f (vs++us) w fun e w''=>∃ v,e = .returned v∧K v w''):ybO P ⟨d, .call ⟨.value fo,args,ats⟩,ty,ps,af,g⟩ (evE E) w K:=by
  unfold ybO execOp
  simp only [resolve,hf,ha,Deferred.ofValue,Sem.run_bind,Sem.run_pure,Result.andThen,invoke,Array.empty_append,he (vs++us) w]
  exact h
def OwnS(w:World)(B:Nat)(e:TypeId)(sz:Nat)(A:Option Addr)(l c:Nat)(xs:List Value):Prop :=
  xs.length=l*sz∧((A=none∧l=0∧c=0)∨∃ g o cur,A=some ⟨g,o,none⟩∧B≤g∧w.heap[g]? = some (.cells cur e (0,0))∧l≤c∧c≤maxLen∧o+c*sz≤cur.size∧(cur.toList.drop o).take (l*sz)=xs)
theorem OwnS.nil(w:World)(B:Nat)(e:TypeId)(sz:Nat):OwnS w B e sz none 0 0 []:=⟨by simp, .inl ⟨rfl,rfl,rfl⟩⟩
theorem run_append_S(B:Nat)(t ty e:TypeId)(i:TypeInfo)(z:Value)(sz bytes:Nat)(ht:P.underlying t=some (.slice e))(hi:P.info? e=some i)(hz:i.zero=some z)
    (hsize:i.size=sz) (hby:i.bytes=bytes) (hzs:z.cells.size=sz) (hsz:0<sz)
    (A:Option Addr) (l cp:Nat) (xs:List Value) (hown:OwnS w B e sz A l cp xs)
    (a:Addr) (m c:Nat) (news:List Value) (hl:news.length=m*sz) (hnews:∀ j u,news[j]? = some u→w.cell? (a.add j)=some u) (h1:∀ u∈news,u.oneCell'=true)
    (h63:l+m≤maxLen) (hbytes:(l+m)*bytes≤140737488355328) (hbase:B≤w.heap.size) :
    ∃ A' c' w',(Builtin.append_ #[t,t] ty #[.slice A l cp, .slice (some a) m c]).run P w = .ok (.slice A' (l+m) c') w'∧OwnS w' B e sz A' (l+m) c' (xs++news)∧w.grownBy w' (A.map (·.block))∧(A'.map (·.block)=A.map (·.block)∨A'.map (·.block)=some w.heap.size):=by
  subst hsize
  subst hby
  have hlen:(xs++news).length=(l+m)*i.size:=by rw [List.length_append,hown.1,hl,Nat.add_mul]
  have grown:∀ (old:Nat),old<l+m→∀ (row:Option Nat),
      OwnS (w.drew.alloc (.cells (xs.toArray++news.toArray++Builtin.zeroCells z.cells (grownCap w (l+m) old e-(l+m))) e)) B e i.size (some ⟨w.heap.size,0,none⟩) (l+m) (grownCap w (l+m) old e) (xs++news) ∧
      w.grownBy (w.drew.alloc (.cells (xs.toArray++news.toArray++Builtin.zeroCells z.cells (grownCap w (l+m) old e-(l+m))) e)) row:=by
    intro old ho row
    have hge:=grownCap_ge w (l+m) old e
    have hcm:grownCap w (l+m) old e≤maxLen:=grownCap_le_maxLen w (l+m) old e h63
    refine ⟨⟨hlen, .inr ⟨w.heap.size,0,_,rfl,hbase,heap_alloc_new w.drew _,hge,hcm,?_,?_⟩⟩,⟨rfl,rfl,rfl,by simp,fun k hk _=>heap_alloc_old w.drew _ k hk⟩⟩
    · simp only [Array.size_append,List.size_toArray,size_zeroCells,hzs,hown.1,hl,←Nat.add_mul]
      rw [Nat.zero_add]
      exact Nat.le_of_eq (by congr 1;omega)
    · simp only [Array.toList_append,List.append_assoc,List.drop_zero]
      rw [←List.append_assoc,←hlen]
      exact List.take_left
  rcases hown.2 with ⟨rfl,rfl,rfl⟩ | ⟨g,o,cur,rfl,hbg,hg,hnc,hcm,hcs,htake⟩
  · have hx:xs=[]:=List.eq_nil_of_length_eq_zero (by simpa using hown.1)
    subst hx
    by_cases hm:m=0
    · subst hm
      have hn:news=[]:=List.eq_nil_of_length_eq_zero (by simpa using hl)
      subst hn
      refine ⟨none,0,w,?_,OwnS.nil w B e i.size,⟨rfl,rfl,rfl,Nat.le_refl _,fun _ _ _=>rfl⟩, .inl rfl⟩
      simp [Builtin.append_,run_underlying ht,sizeOf,typeInfo,hi,Builtin.lenOf,Builtin.firstCells,loadCells,loadCellsFrom]
    · have hr:=run_append_nil (P:=P) w t ty e i z ht hi hz a m c news hl hnews (by omega) (by simp only [maxLen] at h63;omega) (by have hb:=hbytes;simp only [Nat.zero_add] at hb;omega)
      have hgr:=grown 0 (by omega) none
      simp only [Nat.zero_add,List.nil_append,Array.empty_append] at hgr ⊢
      exact ⟨_,_,_,hr,hgr.1,hgr.2, .inr rfl⟩
  · by_cases hroom:l+m≤cp
    · have hfit:o+l*i.size+news.length≤cur.size:=by
        have:=Nat.mul_le_mul_right i.size hroom
        rw [Nat.add_mul] at this
        omega
      have hf:=run_firstCells_some (P:=P) w i.size m a m c news hl hnews
      have hst:=run_storeCells_at P g (o+l*i.size) e news 0 cur w hg (by simpa using hfit) h1
      simp only [Nat.add_zero] at hst
      have hadd:(⟨g,o,none⟩:Addr).add (l*i.size)=⟨g,o+l*i.size,none⟩:=Addr.add_mid _ _ _
      refine ⟨some ⟨g,o,none⟩,cp,w.setRow g (cur.toList.take (o+l*i.size)++news++cur.toList.drop (o+l*i.size+news.length)).toArray,?_,⟨hlen, .inr ⟨g,o,_,rfl,hbg,setRow_heap w g cur _ e _ hg,hroom,hcm,?_,?_⟩⟩,⟨rfl,rfl,rfl,by simp,fun k _ hk=>setRow_other w g k _ (fun e=>hk (by simp [e]))⟩, .inl rfl⟩
      · simp [Builtin.append_,run_underlying ht,sizeOf,typeInfo,hi,Builtin.lenOf,hroom,hf,hadd,hst]
      · simp only [List.size_toArray,List.length_append,List.length_take,List.length_drop,Array.length_toList]
        omega
      · have h2:(cur.toList.take (o+l*i.size)++news++cur.toList.drop (o+l*i.size+news.length)).drop o=xs++news++cur.toList.drop (o+l*i.size+news.length):=by
          rw [List.append_assoc,List.drop_append_of_le_length (by simp;omega),List.drop_take,Nat.add_sub_cancel_left,htake,List.append_assoc]
        rw [List.toList_toArray,h2,←hlen]
        exact List.take_left
    · have hxl:xs.length=l*i.size:=hown.1
      have holds:∀ j u,xs[j]? = some u→w.cell? ((⟨g,o,none⟩:Addr).add j)=some u:=by
        intro j u hj
        rw [Addr.add_mid]
        have hjl:j<l*i.size:=by
          rcases Nat.lt_or_ge j xs.length with h | h
          · omega
          · rw [List.getElem?_eq_none h] at hj;cases hj
        rw [←htake,List.getElem?_take,if_pos hjl,List.getElem?_drop] at hj
        rw [cell_of_row w g (o+j) cur e (0,0) hg]
        simpa using hj
      have hr:=run_append_grow (P:=P) w t ty e i z ht hi hz ⟨g,o,none⟩ l cp xs hown.1 holds a m c news hl hnews (by omega) (by simp only [maxLen] at h63;omega) (growslice_fits (by omega) hbytes)
      have hgr:=grown cp (by omega) (some g)
      exact ⟨_,_,_,hr,hgr.1,hgr.2, .inr rfl⟩
theorem n_append2{yt:TypeId}{e:TypeId}{z:Value}{n b:Nat}{A C:Option Addr}{l c m c':Nat}(hx:evE E x = .slice A l c)(hy:evE E y = .slice C m c')(hu:P.underlying xt=some (.slice e))(hu2:P.underlying yt=some (.slice e))(hi:(P.info? e).map (fun i=>(i.zero,i.size,i.bytes))=some (some z,n+1,b))(hz:z.cells.size=n+1)
    (h:∃ (B:Nat) (xs news:List Value) (a:Addr),OwnS w B e (n+1) A l c xs∧C=some a∧news.length=m*(n+1)∧(∀ j u,news[j]? = some u→w.cell? (a.add j)=some u)∧(∀ u∈news,u.oneCell'=true)∧l+m≤maxLen∧(l+m)*b≤140737488355328∧B≤w.heap.size ∧
      ∀ A' c' w',OwnS w' B e (n+1) A' (l+m) c' (xs++news)→w.grownBy w' (A.map (·.block))→(A'.map (·.block)=A.map (·.block)∨A'.map (·.block)=some w.heap.size)→K (.slice A' (l+m) c') w'):ybO P ⟨d, .call ⟨.builtin .append,#[x,y],#[xt,yt]⟩,ty,ps,af,g⟩ (evE E) w K:=by
  obtain ⟨B,xs,news,a,hown,hC,hl,hnews,h1,h63,hby,hB,hK⟩:=h
  subst hC
  obtain ⟨i0,hi0,hz0,hz1,hz2⟩:=info_parts hi
  obtain ⟨A',c'',w',hr,ho,hg,hbk⟩:=run_append_S (P:=P) (w:=w) B xt ty e i0 z (n+1) b hu hi0 hz0 hz1 hz2 hz (by omega) A l c xs hown a m c' news hl hnews h1 h63 hby hB
  have hr2:(Builtin.append_ #[xt,yt] ty #[.slice A l c, .slice (some a) m c']).run P w = .ok (.slice A' (l+m) c'') w':=by
    rw [←hr]
    simp only [Builtin.append_,List.getElem?_toArray,List.getElem?_cons_zero,List.getElem?_cons_succ,Sem.run_bind,run_underlying hu,run_underlying hu2,Result.andThen]
  unfold ybO execOp
  simp only [resolve,hx,hy,List.map_toArray,List.map_cons,List.map_nil,Sem.run_bind,Sem.run_pure,Result.andThen,invoke,builtin,hr2]
  exact hK _ _ _ ho hg hbk
end
def lenv:List Value→Env
  | [],_=>undef
  | v::_,0=>v
  | _::t,k+1=>lenv t k
theorem lenv_eq(l:List Value)(m:Nat):∀ t,(l.toArray++Array.replicate m undef).getD t undef=lenv l t:=by
  intro t
  rw [Array.getD_eq_getD_getElem?]
  induction l generalizing t with
  | nil=>simp [lenv,Array.getElem?_replicate];split <;> rfl
  | cons v l ih =>
    cases t with
    | zero=>rw [←Array.getD_eq_getD_getElem?];simp [lenv,Array.getD_eq_getD_getElem?,Array.getElem?_append]
    | succ t =>
      rw [lenv,←ih t]
      simp [Array.getElem?_append]
theorem yao{P:Program}{f:FuncId}{fn:Func}{c:Code}{l:List Value}{w:World}{R:Ending→World→Prop}{N:Nat}(hf:P.funcs[f]? = some fn)(hb:fn.body=some c)(hN:fn.ntmps=N)(hl:l.length≤N)
    (h:WT Fence.wide 0 P N [.code c] (bodyPost P fn R) (lenv l) [] w):Calls P f l.toArray w R:=by
  refine (callsIn_wide (n:=0)).1 (callsIn_of_wp hf hb trivial (WTa.code (h _ ⟨?_,lenv_eq l _,rfl⟩)) rfl)
  simp
  omega
section
variable {P : Program} {fn : Func} {F : Fence} {n : Nat} {N : Nat} {t : List Item} {R : Ending → World → Prop} {E : Env} {w : World}
theorem wt_ret0(hr:fn.results = #[])(h:R (.returned (.tuple #[])) w):WT F n P N (.code .ret::t) (bodyPost P fn R) E [] w :=
  yhZ fun a r=>⟨r.defers,_,results_none hr _ _ _,h⟩
theorem yaf{t1:Tmp}{v1:Value}(hr:fn.results = #[.tmp t1])(h1:E t1=v1)(h:R (.returned v1) w):WT F n P N (.code .ret::t) (bodyPost P fn R) E [] w :=
  yhZ fun a r=>⟨r.defers,_,results_tmp hr _ _ _,by rw [r.get,h1];exact h⟩
theorem ybt{t1 t2:Tmp}{v1 v2:Value}(hr:fn.results = #[.tmp t1, .tmp t2])(h1:E t1=v1)(h2:E t2=v2)(h:R (.returned (.tuple #[v1,v2])) w):WT F n P N (.code .ret::t) (bodyPost P fn R) E [] w :=
  yhZ fun a r=>⟨r.defers,_,results_tmp2 hr _ _ _,by rw [r.get,r.get,h1,h2];exact h⟩
theorem yij{t1 t2 t3:Tmp}{v1 v2 v3:Value}(hr:fn.results = #[.tmp t1, .tmp t2, .tmp t3])(h1:E t1=v1)(h2:E t2=v2)(h3:E t3=v3)(h:R (.returned (.tuple #[v1,v2,v3])) w):WT F n P N (.code .ret::t) (bodyPost P fn R) E [] w :=
  yhZ fun a r=>⟨r.defers,_,results_tmp3 hr _ _ _,by rw [r.get,r.get,r.get,h1,h2,h3];exact h⟩
theorem yer(hr:fn.results = #[])(h:R (.returned (.tuple #[])) w):WT F n P N [] (bodyPost P fn R) E [] w :=
  wt_nil fun a r=>⟨r.defers,_,results_none hr _ _ _,h⟩
end
theorem yak{ops:Array Oper}{E:Env}{o:Oper}{j:Nat}{b:Bool}(hg:o.guard=some (j,b))(h:yE ops E j=some b):Region.wanted o (yE ops E)=true:=by
  unfold Region.wanted;rw [hg];simp [h]
theorem yag{ops:Array Oper}{E:Env}{o:Oper}{j:Nat}{b b':Bool}(hg:o.guard=some (j,b))(h:yE ops E j=some b')(hne:(b'==b)=false):Region.wanted o (yE ops E)=false:=by
  unfold Region.wanted;rw [hg];simp [h];simpa using hne
theorem yaN{ops:Array Oper}{E:Env}{o:Oper}{j:Nat}{b:Bool}(hg:o.guard=some (j,b))(h:yE ops E j=none):Region.wanted o (yE ops E)=false:=by
  unfold Region.wanted;rw [hg];simp [h]
theorem yal{ops:Array Oper}{E:Env}{j d:Nat}{b:Bool}(h:(ops[j]?).bind (·.dst)=some d)(hE:E d = .bool b):yE ops E j=some b:=by
  unfold yE;rw [h];simp only [hE]
theorem yam{P:Program}{E:Env}{w:World}{d:Option Tmp}{ty:TypeId}{ps:String}{af:Array Edge}{g:Option (Nat×Bool)}{K:Value→World→Prop}{f:FuncId}{args:Array Operand}{ats:Array TypeId}{vs:Array Value}{fo:Operand}(hf:evE E fo = .func (.func f) #[] #[])(ha:args.map (evE E)=vs)(he:Enters P f)
    (h:Calls P f vs w fun e w''=>∃ v,e = .returned v∧K v w''):ybO P ⟨d, .call ⟨.value fo,args,ats⟩,ty,ps,af,g⟩ (evE E) w K :=
  yc8 hf ha he (by rw [Array.append_empty];exact h)
section
variable {E : Env} {x1 x2 x3 x4 x5 x6 : Operand} {v1 v2 v3 v4 v5 v6 : Value}
theorem am0:(#[]:Array Operand).map (evE E) = #[]:=by simp
theorem am1(h1:evE E x1=v1) : #[x1].map (evE E) = #[v1]:=by simp [h1]
theorem am2(h1:evE E x1=v1)(h2:evE E x2=v2) : #[x1,x2].map (evE E) = #[v1,v2]:=by simp [h1,h2]
theorem am3(h1:evE E x1=v1)(h2:evE E x2=v2)(h3:evE E x3=v3) : #[x1,x2,x3].map (evE E) = #[v1,v2,v3]:=by simp [h1,h2,h3]
theorem am4(h1:evE E x1=v1)(h2:evE E x2=v2)(h3:evE E x3=v3)(h4:evE E x4=v4) : #[x1,x2,x3,x4].map (evE E) = #[v1,v2,v3,v4]:=by simp [h1,h2,h3,h4]
theorem bp0:(#[]:Array (Nat×Operand)).map (fun (i,x)=>(i,evE E x)) = #[]:=by simp
theorem bp1{i1:Nat}(h1:evE E x1=v1) : #[(i1,x1)].map (fun (i,x)=>(i,evE E x)) = #[(i1,v1)]:=by simp [h1]
theorem bp2{i1 i2:Nat}(h1:evE E x1=v1)(h2:evE E x2=v2) : #[(i1,x1),(i2,x2)].map (fun (i,x)=>(i,evE E x)) = #[(i1,v1),(i2,v2)]:=by simp [h1,h2]
theorem bp3{i1 i2 i3:Nat}(h1:evE E x1=v1)(h2:evE E x2=v2)(h3:evE E x3=v3) : #[(i1,x1),(i2,x2),(i3,x3)].map (fun (i,x)=>(i,evE E x)) = #[(i1,v1),(i2,v2),(i3,v3)]:=by simp [h1,h2,h3]
theorem bp5{i1 i2 i3 i4 i5:Nat}(h1:evE E x1=v1)(h2:evE E x2=v2)(h3:evE E x3=v3)(h4:evE E x4=v4)(h5:evE E x5=v5) : #[(i1,x1),(i2,x2),(i3,x3),(i4,x4),(i5,x5)].map (fun (i,x)=>(i,evE E x)) = #[(i1,v1),(i2,v2),(i3,v3),(i4,v4),(i5,v5)]:=by simp [h1,h2,h3,h4,h5]
end
theorem wr_row{w:World}{g:Nat}{e:TypeId}{size:Nat}{xs:List Value}(h:Row w g e size xs){i:Nat}{v:Value}(hv:xs[i]? = some v):Wr w ((⟨g,0,none⟩:Addr).add i):=by
  have:(⟨g,0,none⟩:Addr).add i=⟨g,i,none⟩:=by rw [Addr.add_mid,Nat.zero_add]
  rw [this];exact ⟨by rw [h.cell hv];rfl,h.frozen i⟩
def setL:List Value→Nat→List Value→List Value
  | xs,_,[]=>xs
  | xs,o,v::vs=>setL (xs.set o v) (o+1) vs
theorem row_setn{g:Nat}{e:TypeId}{size:Nat} : ∀ (vs:List Value) (o:Nat) {w:World} {xs:List Value},Row w g e size xs→Row (w.setCells g o vs) g e size (setL xs o vs)
  | [],_,_,_,h=>h
  | v::vs,o,_,_,h=>row_setn vs (o+1) (h.set_ o v)
theorem yan{w:World}{g:Nat}{e:TypeId}{size:Nat}{xs:List Value}(h:Row w g e size xs){o n:Nat}(hn:o+n≤xs.length):w.there g o n:=fun j hj=>by
  have hlt:o+j<xs.length:=by omega
  exact ⟨by rw [h.cell (List.getElem?_eq_getElem hlt)];rfl,h.frozen _⟩
def mxF(a b:Int):Int:=if b>a then b else a
def mnF(a b:Int):Int:=if b<a then b else a
theorem mxF_eq(a b:Int):mxF a b=max a b:=by unfold mxF;omega
section
variable {P : Program} {E : Env} {w : World} {d : Option Tmp} {x y z u : Operand} {ty xt yt : TypeId} {ps : String} {af : Array Edge} {g : Option (Nat × Bool)} {ats : Array TypeId}
theorem v_max2{k:IntKind}{a b:Int}(hx:evE E x = .int k a)(hy:evE E y = .int k b):(execOp (evE E) ⟨d, .call ⟨.builtin .max,#[x,y],ats⟩,ty,ps,af,g⟩).run P w = .ok (.value (.int k (mxF a b))) w:=by
  simp [execOp,hx,hy,resolve,invoke,builtin,Builtin.max_,Builtin.max2,mxF,go_sem]
theorem v_min2{k:IntKind}{a b:Int}(hx:evE E x = .int k a)(hy:evE E y = .int k b):(execOp (evE E) ⟨d, .call ⟨.builtin .min,#[x,y],ats⟩,ty,ps,af,g⟩).run P w = .ok (.value (.int k (mnF a b))) w:=by
  simp [execOp,hx,hy,resolve,invoke,builtin,Builtin.min_,Builtin.min2,mnF,go_sem]
theorem v_conv{k k':IntKind}{a:Int}(hx:evE E x = .int k a)(h1:P.underlying xt=some (.int k'))(h2:P.underlying yt=some (.int .i64))(hi:In64 a):(execOp (evE E) ⟨d, .convert xt yt x,ty,ps,af,g⟩).run P w = .ok (.value (.int .i64 a)) w:=by
  unfold execOp
  simp only [hx,Sem.run_bind,convert,run_underlying h1,run_underlying h2,Result.andThen,Conv.intToInt,Sem.run_pure,hi.wrap]
theorem v_seql{A:Option Addr}{l c l2 c2:Nat}{e:TypeId}(hx:evE E x = .slice A l c)(hy:evE E y = .slice none l2 c2)(hu:P.underlying xt=some (.slice e)):(execOp (evE E) ⟨d, .binOp .eql xt x y yt,ty,ps,af,g⟩).run P w = .ok (.value (.bool A.isNone)) w:=by
  have h2:binOp .eql xt (.slice A l c) (.slice none l2 c2)=(do pure (.bool (←Op.equal xt (.slice A l c) (.slice none l2 c2)))):=rfl
  have h3:eqGuard .eql xt x y (.slice A l c) (.slice none l2 c2)=pure ():=rfl
  have h4:(Op.equal xt (.slice A l c) (.slice none l2 c2)).run P w = .ok A.isNone w:=by
    unfold Op.equal Op.maxDepth
    rw [show (10000:Nat)=9999+1 from rfl,Op.equalIn]
    simp only [Sem.run_bind,run_underlying hu,Result.andThen]
    cases A <;> rfl
  unfold execOp
  simp only [hx,hy,h2,h3,h4,Sem.run_bind,Sem.run_pure,Result.andThen]
theorem yeV{p:Addr}{l:Nat}{e:TypeId}{k:IntKind}{i:Int}{zo:Option Value}{n b:Nat}(hx:evE E x = .pointer (some p))(hy:evE E y = .int k i)(hu:P.underlying xt=some (.array l e))
    (hi:(P.info? e).map (fun i=>(i.zero,i.size,i.bytes))=some (zo,n,b)) (h:0≤i∧i<(l:Int)):(execOp (evE E) ⟨d, .indexAddr xt x y,ty,ps,af,g⟩).run P w = .ok (.value (.pointer (some (p.add (i.toNat*n))))) w:=by
  unfold execOp
  have hc:(0≤i∧i<(l:Int))=True:=by simp [h]
  simp only [hx,hy,Instr.indexAt,asIntOf,Instr.sureAddr,Sem.run_bind,Sem.run_pure,Result.andThen,run_underlying hu]
  simp only [hc,if_true,Sem.run_bind,Sem.run_pure,Result.andThen,ycd hi]
def slA(A:Option Addr)(c lo sz:Nat):Option Addr:=if c=lo then A else A.map (·.add (lo*sz))
theorem ye3{k:IntKind}{i:Int}{y:Nat}{cd:BoundsCode}(h:0≤i∧i≤(y:Int)):(Instr.sliceBound (.int k i) y cd).run P w = .ok i.toNat w:=by
  have hc:(0≤i∧i≤(y:Int))=True:=by simp [h]
  unfold Instr.sliceBound
  simp only [asIntOf,Sem.run_bind,Sem.run_pure,Result.andThen,hc,if_true]
theorem v_slice_l{A:Option Addr}{l c:Nat}{e:TypeId}{k:IntKind}{i:Int}{zo:Option Value}{n b:Nat}(hx:evE E x = .slice A l c)(hy:evE E y = .int k i)(hu:P.underlying xt=some (.slice e))(hi:(P.info? e).map (fun i=>(i.zero,i.size,i.bytes))=some (zo,n,b))
    (h:0≤i∧i≤(l:Int)):(execOp (evE E) ⟨d, .slice xt x (some y) none none,ty,ps,af,g⟩).run P w = .ok (.value (.slice (slA A c i.toNat n) (l-i.toNat) (c-i.toNat))) w:=by
  unfold execOp
  simp only [hx,hy,Option.map_some,Option.map_none,Instr.sliceAt,Instr.slice,Instr.sliceBounds,Sem.run_bind,Sem.run_pure,Result.andThen,run_underlying hu,ycd hi,ye3 h,Option.isSome_none,slA]
theorem yhT{A:Option Addr}{l c:Nat}{e:TypeId}{k:IntKind}{i:Int}{zo:Option Value}{n b:Nat}(hx:evE E x = .slice A l c)(hy:evE E y = .int k i)(hu:P.underlying xt=some (.slice e))(hi:(P.info? e).map (fun i=>(i.zero,i.size,i.bytes))=some (zo,n,b))
    (h:0≤i∧i≤(c:Int)):(execOp (evE E) ⟨d, .slice xt x none (some y) none,ty,ps,af,g⟩).run P w = .ok (.value (.slice A i.toNat c)) w:=by
  have h0:(if c=0 then A else A.map (·.add (0*n)))=A:=by
    split
    · rfl
    · cases A with
      | none=>rfl
      | some a=>simp [Addr.add]
  unfold execOp
  simp only [hx,hy,Option.map_some,Option.map_none,Instr.sliceAt,Instr.slice,Instr.sliceBounds,Sem.run_bind,Sem.run_pure,Result.andThen,run_underlying hu,ycd hi,ye3 h,Option.isSome_none]
  simp [ye3 h,Sem.run_bind,Sem.run_pure,Result.andThen]
  intro _
  cases A <;> simp [Addr.add]
def fillL(place:Nat→Option (Nat×Nat))(cells:List Value):List (Nat×Value)→Option (List Value)
  | []=>some cells
  | (i,v)::rest=>match place i with
    | none=>none
    | some (off,size)=>bif Nat.beq v.cells.toList.length size&&Nat.ble (off+v.cells.toList.length) cells.length then fillL place (setL cells off v.cells.toList) rest else none
theorem fold_setL:∀ (vs:List Value) (k off:Nat) (cs:Array Value),(vs.zipIdx k).foldl (fun (cs:Array Value) (x:Value×Nat)=>cs.setIfInBounds (off+x.2) x.1) cs=(setL cs.toList (off+k) vs).toArray
  | [],_,_,cs=>by simp [setL]
  | v::vs,k,off,cs=>by
    rw [List.zipIdx_cons,List.foldl_cons,fold_setL vs (k+1) off]
    simp [setL,Nat.add_assoc]
theorem yf1{place:Nat→Option (Nat×Nat)} : ∀ (l:List (Nat×Value)) (cs ds:List Value),fillL place cs l=some ds→Instr.fill place cs.toArray l=some ds.toArray
  | [],cs,ds,h=>by simp only [fillL,Option.some.injEq] at h;rw [h];rfl
  | (i,v)::rest,cs,ds,h=>by
    simp only [fillL] at h
    simp only [Instr.fill]
    cases hp:place i with
    | none=>rw [hp] at h;cases h
    | some p =>
      obtain ⟨off,size⟩:=p
      rw [hp] at h
      simp only at h ⊢
      cases hc:(Nat.beq v.cells.toList.length size&&Nat.ble (off+v.cells.toList.length) cs.length) with
      | false=>rw [hc] at h;cases h
      | true =>
        rw [hc] at h
        simp only [cond_true] at h
        rw [Bool.and_eq_true] at hc
        have h1:=Nat.eq_of_beq_eq_true hc.1
        have h2:=Nat.le_of_ble_eq_true hc.2
        have h3:¬(v.cells.size≠size || off+v.cells.size>cs.toArray.size)=true:=by
          simp at h1 h2 ⊢;exact ⟨h1,h2⟩
        rw [if_neg h3]
        have h4:v.cells.zipIdx.foldl (fun (cs:Array Value) (x:Value×Nat)=>cs.setIfInBounds (off+x.2) x.1) cs.toArray=(setL cs off v.cells.toList).toArray:=by
          rw [←Array.foldl_toList,Array.toList_zipIdx,fold_setL]
          simp
        have h5:=yf1 rest _ _ h
        rw [←h4] at h5
        exact h5
def zerosL(z:List Value)(n:Nat):List Value:=(List.range n).map fun i=>z.getD (i % z.length) default
theorem zerosL_eq(z:Array Value)(n:Nat):(Array.range n).map (fun i=>z[i % z.size]!)=(zerosL z.toList n).toArray:=by
  apply Array.ext
  · simp [zerosL]
  · intro i h1 h2
    simp [zerosL,Array.getD_eq_getD_getElem?,Array.getElem!_eq_getD]
variable {K : Value → World → Prop}
theorem yaI{n:Nat}{parts:Array (Nat×Operand)}{l:List (Nat×Value)}{e:TypeId}{z:Value}{sz b:Nat}{cells:List Value}(hl:parts.map (fun (i,x)=>(i,evE E x))=l.toArray)(hu:P.underlying xt=some (.slice e))(hi:(P.info? e).map (fun i=>(i.zero,i.size,i.bytes))=some (some z,sz,b))
    (hs:Nat.ble (n*sz) 1000=true) (hf:fillL (fun i=>some (i*sz,sz)) (zerosL z.cells.toList (n*sz)) l=some cells)
    (h:∀ g' w',New w g' w' cells.toArray e→K (.slice (some ⟨g',0,none⟩) n n) w'):ybO P ⟨d, .buildSlice xt n parts,ty,ps,af,g⟩ (evE E) w K:=by
  have h1:¬(n*sz>2^24):=by have:=Nat.le_of_ble_eq_true hs;omega
  have hf:=yf1 _ _ _ hf
  rw [←zerosL_eq] at hf
  unfold ybO execOp
  simp only [hl,Instr.buildSlice,Sem.run_bind,Sem.run_pure,Result.andThen,run_underlying hu,ycd hi,h1,if_false]
  by_cases h0:n*sz=0
  · simp only [h0,if_true,Sem.run_pure,Result.andThen] at hf ⊢
    have e0:∀ f:Nat→Value,(Array.range 0).map f = #[]:=fun f=>by simp
    rw [e0] at hf
    simp only [e0,hf,Sem.run_bind,Sem.run_pure,newRow,newObj,Sem.run,Result.andThen]
    exact h _ _ ⟨rfl,rfl⟩
  · simp only [h0,if_false,Sem.run_bind,yek hi,Sem.run_pure,Result.andThen,hf,newRow,newObj,Sem.run]
    exact h _ _ ⟨rfl,rfl⟩
theorem yaR{fs:Array Field}{parts:Array (Nat×Operand)}{l:List (Nat×Value)}{zo:Value}{n b:Nat}{cells:List Value}{places:List (Nat×Nat)}(hl:parts.map (fun (i,x)=>(i,evE E x))=l.toArray)(hu:P.underlying xt=some (.struct fs))(hi:(P.info? xt).map (fun i=>(i.zero,i.size,i.bytes))=some (some zo,n,b))
    (hp:fs.toList.mapM (m:=Option) (fun f=>(P.info? f.type).map fun i=>(f.offset,i.size))=some places) (hf:fillL (places[·]?) zo.cells.toList l=some cells)
    (h:K (.agg cells.toArray) w):ybO P ⟨d, .build xt parts,ty,ps,af,g⟩ (evE E) w K:=by
  have key:∀ (fs:List Field) (ps:List (Nat×Nat)),fs.mapM (m:=Option) (fun f=>(P.info? f.type).map fun i=>(f.offset,i.size))=some ps→(fs.mapM (m:=Sem) (fun f=>do pure (f.offset,←sizeOf f.type))).run P w = .ok ps w:=by
    intro fs
    induction fs with
    | nil=>intro ps h;simp at h;subst h;simp [go_sem]
    | cons f fs ih =>
      intro ps h
      rw [List.mapM_cons] at h
      cases hq:P.info? f.type with
      | none=>simp [hq] at h
      | some i =>
        cases hr:fs.mapM (m:=Option) (fun f=>(P.info? f.type).map fun i=>(f.offset,i.size)) with
        | none=>simp [hq,hr] at h
        | some rs =>
          simp [hq,hr] at h
          subst h
          rw [List.mapM_cons]
          have h1:(sizeOf f.type).run P w = .ok i.size w:=by simp [sizeOf,typeInfo,hq,go_sem]
          simp only [Sem.run_bind,h1,Result.andThen,Sem.run_pure,ih rs hr]
  have hp':(fs.mapM (m:=Sem) (fun f=>do pure (f.offset,←sizeOf f.type))).run P w = .ok places.toArray w:=by
    have h2:=key _ _ hp
    rw [←Array.toList_mapM] at h2
    simp only [map_eq_pure_bind,Sem.run_bind] at h2
    cases hq:(fs.mapM (m:=Sem) (fun f=>do pure (f.offset,←sizeOf f.type))).run P w with
    | ok a w'=>rw [hq] at h2;simp only [Result.andThen,Sem.run_pure] at h2;cases a;simp at h2;simp [h2]
    | halt e w'=>rw [hq] at h2;cases h2
  have hf:=yf1 _ _ _ hf
  have hpl:(fun i=>places.toArray[i]?)=(fun i:Nat=>places[i]?):=by funext i;simp
  unfold ybO execOp
  simp only [hl,Instr.build,Sem.run_bind,Sem.run_pure,Result.andThen,run_underlying hu,yek hi,hp',hpl]
  rw [show zo.cells=zo.cells.toList.toArray by simp,hf]
  exact h
theorem n_builda{k:Nat}{e:TypeId}{parts:Array (Nat×Operand)}{l:List (Nat×Value)}{zo:Value}{z1:Option Value}{n b n1 b1:Nat}{cells:List Value}(hl:parts.map (fun (i,x)=>(i,evE E x))=l.toArray)(hu:P.underlying xt=some (.array k e))(hi:(P.info? xt).map (fun i=>(i.zero,i.size,i.bytes))=some (some zo,n,b))
    (he:(P.info? e).map (fun i=>(i.zero,i.size,i.bytes))=some (z1,n1,b1)) (hf:fillL (fun i=>some (i*n1,n1)) zo.cells.toList l=some cells)
    (h:K (.agg cells.toArray) w):ybO P ⟨d, .build xt parts,ty,ps,af,g⟩ (evE E) w K:=by
  have hf:=yf1 _ _ _ hf
  unfold ybO execOp
  simp only [hl,Instr.build,Sem.run_bind,Sem.run_pure,Result.andThen,run_underlying hu,yek hi,ycd he]
  rw [show zo.cells=zo.cells.toList.toArray by simp,hf]
  exact h
end
def InK(k:IntKind)(a:Int):Prop:=k.wrap a=a
section
variable {P : Program} {E : Env} {w : World} {d : Option Tmp} {x y z u : Operand} {ty xt yt : TypeId} {ps : String} {af : Array Edge} {g : Option (Nat × Bool)} {ats : Array TypeId} {k : IntKind}
theorem v_addk{a b:Int}(hx:evE E x = .int k a)(hy:evE E y = .int k b)(hi:InK k (a+b)):(execOp (evE E) ⟨d, .binOp .add xt x y yt,ty,ps,af,g⟩).run P w = .ok (.value (.int k (a+b))) w:=by
  unfold InK at hi
  simp [execOp,hx,hy,eqGuard,binOp,Op.intArith,go_sem,hi]
theorem v_mulk{a b:Int}(hx:evE E x = .int k a)(hy:evE E y = .int k b)(hi:InK k (a*b)):(execOp (evE E) ⟨d, .binOp .mul xt x y yt,ty,ps,af,g⟩).run P w = .ok (.value (.int k (a*b))) w:=by
  unfold InK at hi
  simp [execOp,hx,hy,eqGuard,binOp,Op.intArith,go_sem,hi]
theorem yir{k':IntKind}{a b:Int}(hx:evE E x = .int .u64 a)(hy:evE E y = .int k' b)(h0:0≤b∧b<64):(execOp (evE E) ⟨d, .binOp .shr xt x y yt,ty,ps,af,g⟩).run P w = .ok (.value (.int .u64 (a / 2^b.toNat))) w:=by
  have h1:¬b<0:=by omega
  have h2:min b.toNat IntKind.u64.bits=b.toNat:=by have:IntKind.u64.bits=64:=rfl;omega
  simp [execOp,hx,hy,eqGuard,binOp,Op.shift,go_sem,h1,h2]
theorem v_convk{k' k2:IntKind}{a:Int}(hx:evE E x = .int k a)(h1:P.underlying xt=some (.int k'))(h2:P.underlying yt=some (.int k2))(hi:InK k2 a):(execOp (evE E) ⟨d, .convert xt yt x,ty,ps,af,g⟩).run P w = .ok (.value (.int k2 a)) w:=by
  unfold InK at hi
  unfold execOp
  simp only [hx,Sem.run_bind,convert,run_underlying h1,run_underlying h2,Result.andThen,Conv.intToInt,Sem.run_pure,hi]
theorem v_andu{a b:Int}(hx:evE E x = .int .u64 a)(hy:evE E y = .int .u64 b)(h:0≤a∧a<18446744073709551616∧0≤b∧b<18446744073709551616):(execOp (evE E) ⟨d, .binOp .and xt x y yt,ty,ps,af,g⟩).run P w = .ok (.value (.int .u64 ((a.toNat &&& b.toNat:Nat):Int))) w:=by
  have h1:(binOp .and xt (.int .u64 a) (.int .u64 b)).run P w = .ok (.int .u64 (IntKind.u64.wrap ((BitVec.ofInt IntKind.u64.bits a &&& BitVec.ofInt IntKind.u64.bits b).toNat:Int))) w:=rfl
  have h3:eqGuard .and xt x y (.int .u64 a) (.int .u64 b)=pure ():=rfl
  have h4:IntKind.u64.wrap ((BitVec.ofInt IntKind.u64.bits a &&& BitVec.ofInt IntKind.u64.bits b).toNat:Int)=((a.toNat &&& b.toNat:Nat):Int):=by
    obtain ⟨a,rfl⟩:∃ k:Nat,a=k:=⟨a.toNat,by omega⟩
    obtain ⟨b,rfl⟩:∃ k:Nat,b=k:=⟨b.toNat,by omega⟩
    have e1:(BitVec.ofInt IntKind.u64.bits (a:Int)).toNat=a:=by
      simp only [BitVec.toNat_ofInt,IntKind.bits];omega
    have e2:(BitVec.ofInt IntKind.u64.bits (b:Int)).toNat=b:=by
      simp only [BitVec.toNat_ofInt,IntKind.bits];omega
    rw [BitVec.toNat_and,e1,e2]
    have hle:a &&& b≤a:=Nat.and_le_left
    simp only [Int.toNat_natCast]
    simp [IntKind.wrap,IntKind.bits,IntKind.signed]
    omega
  unfold execOp
  simp only [hx,hy,h3,h1,h4,Sem.run_bind,Sem.run_pure,Result.andThen]
variable {K : Value → World → Prop}
end
section
variable {F : Fence} {n : Nat} {P : Program} {N : Nat} {Q : Exit → Act → World → Prop} {E : Env} {ds : List Deferred} {w : World} {t : List Item} {x y z A B : Code} {c : Operand}
theorem yck(J:Env→List Deferred→World→Prop)(hj:∀ E ds w,J E ds w→WT F n P N t Q E ds w)(h:(∀ E ds w,J E ds w→WT F n P N t Q E ds w)→WT F n P N (.code x::t) Q E ds w):WT F n P N (.code x::t) Q E ds w:=h hj
theorem ycf(J:Env→List Deferred→World→Prop)(hj:∀ E ds w,J E ds w→WT F n P N t Q E ds w)(h:(∀ E ds w,J E ds w→WT F n P N t Q E ds w)→WT F n P N (.code x :: .code y::t) Q E ds w):WT F n P N (.code x :: .code y::t) Q E ds w:=h hj
theorem wt_cutA1(J:Env→List Deferred→World→Prop)(hj:∀ E ds w,J E ds w→WT F n P N (.code A::t) Q E ds w)(h:(∀ E ds w,J E ds w→WT F n P N (.code A::t) Q E ds w)→WT F n P N (.code x :: .code (.cond c A B)::t) Q E ds w):WT F n P N (.code x :: .code (.cond c A B)::t) Q E ds w:=h hj
theorem wt_cutB1(J:Env→List Deferred→World→Prop)(hj:∀ E ds w,J E ds w→WT F n P N (.code B::t) Q E ds w)(h:(∀ E ds w,J E ds w→WT F n P N (.code B::t) Q E ds w)→WT F n P N (.code x :: .code (.cond c A B)::t) Q E ds w):WT F n P N (.code x :: .code (.cond c A B)::t) Q E ds w:=h hj
end
section
variable {P : Program} {N : Nat} {ops : Array Oper} {st : Nat → List Nat} {Qa : Act → World → Prop} {l : List Oper} {pend : List (Nat × Sem Next × Value)} {E : Env} {ds : List Deferred} {w : World} {i : Nat} {d : Nat} {dt : Option Tmp} {op : Op} {ty xt yt : TypeId} {ps : String} {af : Array Edge} {g : Option (Nat × Bool)} {F : Fence} {n : Nat} {t : List Item} {Q : Exit → Act → World → Prop} {x y : Operand} {a b : Code}
theorem zq{v:Value}(hv:(execOp (evE E) ⟨some d,op,ty,ps,af,g⟩).run P w = .ok (.value v) w)(h:RL P N ops st Qa (i+1) l ((i,execOp (evE E) ⟨some d,op,ty,ps,af,g⟩,v)::pend) (upd E d v) ds w)
    (hw:Region.wanted ⟨some d,op,ty,ps,af,g⟩ (yE ops E)=true:=by rfl) (hq:ya2 op=true:=by rfl) (hd:Nat.blt d N=true:=by rfl):RL P N ops st Qa i (⟨some d,op,ty,ps,af,g⟩::l) pend E ds w:=rl_q hw hq hd hv h
theorem zn(h:ybO P ⟨some d,op,ty,ps,af,g⟩ (evE E) w fun v w'=>Stb P (st i) w' pend∧RL P N ops st Qa (i+1) l pend (upd E d v) ds w')
    (hw:Region.wanted ⟨some d,op,ty,ps,af,g⟩ (yE ops E)=true:=by rfl) (hq:ya2 op=false:=by rfl) (hn:ybG op=true:=by rfl) (hd:Nat.blt d N=true:=by rfl):RL P N ops st Qa i (⟨some d,op,ty,ps,af,g⟩::l) pend E ds w:=rl_n hw hq hn hd h
theorem zo(h:ybO P ⟨none,op,ty,ps,af,g⟩ (evE E) w fun v w'=>Stb P (st i) w' pend∧RL P N ops st Qa (i+1) l pend E ds w')
    (hw:Region.wanted ⟨none,op,ty,ps,af,g⟩ (yE ops E)=true:=by rfl) (hq:ya2 op=false:=by rfl) (hn:ybG op=true:=by rfl):RL P N ops st Qa i (⟨none,op,ty,ps,af,g⟩::l) pend E ds w:=ygw hw hq hn h
theorem zm(v:Value)(h:evE E x=v:=by rfl):(execOp (evE E) ⟨dt, .move x,ty,ps,af,g⟩).run P w = .ok (.value v) w:=yac h
theorem za(v:Value)(h:evE E x=v:=by rfl):(execOp (evE E) ⟨dt, .assign x,ty,ps,af,g⟩).run P w = .ok (.value v) w:=yaH h
theorem zx{vs:Array Value}{k:Nat}(v:Value)(hx:evE E x = .tuple vs:=by rfl)(hv:vs[k]? = some v:=by rfl):(execOp (evE E) ⟨dt, .extract x k,ty,ps,af,g⟩).run P w = .ok (.value v) w:=ybA hx hv
theorem zt{K:Value→World→Prop}{p:Addr}(v:Value){zo:Option Value}{b:Nat}(hi:(P.info? xt).map (fun i=>(i.zero,i.size,i.bytes))=some (zo,1,b))(hw:Wr w p)(h:∀ w',w'=w.setCell p v→K undef w')
    (hx:evE E x = .pointer (some p):=by rfl) (hy:evE E y=v:=by rfl) (h1:v.oneCell'=true:=by rfl):ybO P ⟨dt, .store xt x y,ty,ps,af,g⟩ (evE E) w K:=yiq hx hy h1 hi hw h
theorem zc{p:Prop} [Decidable p](hp:p)(h:WT F n P N (.code a::t) Q E ds w)(hc:evE E x = .bool (decide p):=by rfl):WT F n P N (.code (.cond x a b)::t) Q E ds w:=yar (by rw [hc,decide_eq_true hp]) h
theorem zd{p:Prop} [Decidable p](hp:¬p)(h:WT F n P N (.code b::t) Q E ds w)(hc:evE E x = .bool (decide p):=by rfl):WT F n P N (.code (.cond x a b)::t) Q E ds w:=yaA (by rw [hc,decide_eq_false hp]) h
theorem ze{p:Prop} [Decidable p](hp:p)(h:WT F n P N (.code b::t) Q E ds w)(hc:evE E x = .bool (!decide p):=by rfl):WT F n P N (.code (.cond x a b)::t) Q E ds w:=yaA (by rw [hc,decide_eq_true hp];rfl) h
theorem zf{p:Prop} [Decidable p](hp:¬p)(h:WT F n P N (.code a::t) Q E ds w)(hc:evE E x = .bool (!decide p):=by rfl):WT F n P N (.code (.cond x a b)::t) Q E ds w:=yar (by rw [hc,decide_eq_false hp];rfl) h
theorem zr{id:Nat}(h:RL P N ops st0 (WTa Fence.wide n P t Q) 0 ops.toList [] E ds w):WT Fence.wide n P N (.code (.region id ops false)::t) Q E ds w:=yau yav h
theorem zs{id:Nat}(h:RL P N ops st0 (WTa Fence.wide n P (.code b::t) Q) 0 ops.toList [] E ds w):WT Fence.wide n P N (.code (.seq (.region id ops false) b)::t) Q E ds w:=yad (yau yav h)
theorem zb{l:List (Nat×Sem Next×Value)}{p:Prop}(h:p):Stb P [] w l∧p:=⟨Stb.none l,h⟩
theorem zl{p:Addr}{u:TypeDesc}{v:Value}(hu:P.underlying xt=some u)(hc:w.cell? p=some v)(hx:evE E x = .pointer (some p):=by rfl)(hn:aggD u=false:=by rfl):(execOp (evE E) ⟨dt, .load xt x,ty,ps,af,g⟩).run P w = .ok (.value v) w:=yay hx hu hn hc
theorem zi{A:Option Addr}{l c:Nat}{e:TypeId}{k:IntKind}{i:Int}{zo:Option Value}{n b:Nat}(hu:P.underlying xt=some (.slice e))(hi:(P.info? e).map (fun i=>(i.zero,i.size,i.bytes))=some (zo,n,b))(h:Ix A l i)(hx:evE E x = .slice A l c:=by rfl)(hy:evE E y = .int k i:=by rfl):(execOp (evE E) ⟨dt, .indexAddr xt x y,ty,ps,af,g⟩).run P w = .ok (.value (.pointer (some (ixA A i n)))) w:=ya4 hx hy hu hi h
theorem zA{a b:Int}(hi:In64 (a+b))(hx:evE E x = .int .i64 a:=by rfl)(hy:evE E y = .int .i64 b:=by rfl):(execOp (evE E) ⟨dt, .binOp .add xt x y yt,ty,ps,af,g⟩).run P w = .ok (.value (.int .i64 (a+b))) w:=ybg hx hy hi
theorem zS{a b:Int}(hi:In64 (a-b))(hx:evE E x = .int .i64 a:=by rfl)(hy:evE E y = .int .i64 b:=by rfl):(execOp (evE E) ⟨dt, .binOp .sub xt x y yt,ty,ps,af,g⟩).run P w = .ok (.value (.int .i64 (a-b))) w:=v_sub hx hy hi
theorem zL{k:IntKind}{a b:Int}(hx:evE E x = .int k a:=by rfl)(hy:evE E y = .int k b:=by rfl):(execOp (evE E) ⟨dt, .binOp .lss xt x y yt,ty,ps,af,g⟩).run P w = .ok (.value (.bool (decide (a<b)))) w:=ybD hx hy
theorem zG{k:IntKind}{a b:Int}(hx:evE E x = .int k a:=by rfl)(hy:evE E y = .int k b:=by rfl):(execOp (evE E) ⟨dt, .binOp .gtr xt x y yt,ty,ps,af,g⟩).run P w = .ok (.value (.bool (decide (b<a)))) w:=v_gtr hx hy
theorem zE{k:IntKind}{a b:Int}(hx:evE E x = .int k a:=by rfl)(hy:evE E y = .int k b:=by rfl):(execOp (evE E) ⟨dt, .binOp .eql xt x y yt,ty,ps,af,g⟩).run P w = .ok (.value (.bool (decide (a=b)))) w:=v_eql hx hy
theorem zN{k:IntKind}{a b:Int}(hx:evE E x = .int k a:=by rfl)(hy:evE E y = .int k b:=by rfl):(execOp (evE E) ⟨dt, .binOp .neq xt x y yt,ty,ps,af,g⟩).run P w = .ok (.value (.bool (!decide (a=b)))) w:=yih hx hy
theorem zp{v:Value}{R:List Nat}(hv:(execOp (evE E) ⟨some d,op,ty,ps,af,g⟩).run P w = .ok (.value v) w)(h:RP P N ops st Qa R l ((i,execOp (evE E) ⟨some d,op,ty,ps,af,g⟩,v)::pend) (upd E d v) ds w)
    (hw:Region.wanted ⟨some d,op,ty,ps,af,g⟩ (yE ops E)=true:=by rfl) (hq:ya2 op=true:=by rfl) (hd:Nat.blt d N=true:=by rfl):RP P N ops st Qa (i::R) (⟨some d,op,ty,ps,af,g⟩::l) pend E ds w:=rp_q hw hq hd hv h
theorem zT{p:Prop} [Decidable p](h:p):Value.bool (decide p) = .bool true:=congrArg Value.bool (decide_eq_true h)
theorem zF{p:Prop} [Decidable p](h:¬p):Value.bool (decide p) = .bool false:=congrArg Value.bool (decide_eq_false h)
theorem zC{a b:Bool}(h:a=b):Value.bool a = .bool b:=congrArg Value.bool h
theorem zB{a b:Bool}(h:a=b):(!a) = !b:=congrArg Bool.not h
theorem zI{b:Bool}(h:¬b=true):b=false:=Bool.eq_false_iff.2 h
theorem zY{a b:Nat}(h:Nat.ble a b=true:=by rfl):a≤b:=Nat.le_of_ble_eq_true h
theorem zZ{p:Prop}(h:false=true):p:=Bool.noConfusion h
theorem zQ(v:Value)(h:RL P N ops st Qa (i+1) l ((i,execOp (evE E) ⟨some d, .assign x,ty,ps,af,g⟩,v)::pend) (upd E d v) ds w)(hv:evE E x=v:=by rfl)
    (hw:Region.wanted ⟨some d, .assign x,ty,ps,af,g⟩ (yE ops E)=true:=by rfl) (hd:Nat.blt d N=true:=by rfl):RL P N ops st Qa i (⟨some d, .assign x,ty,ps,af,g⟩::l) pend E ds w:=rl_q hw rfl hd (yaH hv) h
theorem zM(v:Value)(h:RL P N ops st Qa (i+1) l ((i,execOp (evE E) ⟨some d, .move x,ty,ps,af,g⟩,v)::pend) (upd E d v) ds w)(hv:evE E x=v:=by rfl)
    (hw:Region.wanted ⟨some d, .move x,ty,ps,af,g⟩ (yE ops E)=true:=by rfl) (hd:Nat.blt d N=true:=by rfl):RL P N ops st Qa i (⟨some d, .move x,ty,ps,af,g⟩::l) pend E ds w:=rl_q hw rfl hd (yac hv) h
theorem zU{j d':Nat}{b b':Bool}(h:RL P N ops st Qa (i+1) l pend (upd E d undef) ds w)(hg:g=some (j,b):=by rfl)(hj:(ops[j]?).bind (·.dst)=some d':=by rfl)(hE:E d' = .bool b':=by rfl)(hn:(b'==b)=false:=by rfl)(hd:Nat.blt d N=true:=by rfl) :
    RL P N ops st Qa i (⟨some d,op,ty,ps,af,g⟩::l) pend E ds w:=rl_p (yag hg (yal hj hE) hn) hd h
theorem zV{j d':Nat}{b b':Bool}(hg:g=some (j,b))(hj:(ops[j]?).bind (·.dst)=some d')(hE:E d' = .bool b')(h:RL P N ops st Qa (i+1) l pend (upd E d undef) ds w)(hn:(b'==b)=false:=by rfl)(hd:Nat.blt d N=true:=by rfl) :
    RL P N ops st Qa i (⟨some d,op,ty,ps,af,g⟩::l) pend E ds w:=rl_p (yag hg (yal hj hE) hn) hd h
theorem zW{v:Value}{j d':Nat}{b:Bool}(hg:g=some (j,b))(hj:(ops[j]?).bind (·.dst)=some d')(hE:E d' = .bool b)(hv:(execOp (evE E) ⟨some d,op,ty,ps,af,g⟩).run P w = .ok (.value v) w)
    (h:RL P N ops st Qa (i+1) l ((i,execOp (evE E) ⟨some d,op,ty,ps,af,g⟩,v)::pend) (upd E d v) ds w) (hq:ya2 op=true:=by rfl) (hd:Nat.blt d N=true:=by rfl):RL P N ops st Qa i (⟨some d,op,ty,ps,af,g⟩::l) pend E ds w :=
  rl_q (yak hg (yal hj hE)) hq hd hv h
theorem zX{j:Nat}{b:Bool}(h:RL P N ops st Qa (i+1) l pend (upd E d undef) ds w)(hg:g=some (j,b):=by rfl)(hj:yE ops E j=none:=by rfl)(hd:Nat.blt d N=true:=by rfl):RL P N ops st Qa i (⟨some d,op,ty,ps,af,g⟩::l) pend E ds w :=
  rl_p (yaN hg hj) hd h
abbrev ii(x:Int):Value := .int .i64 x
end
end Go.Proofs.YtjepipbkiadcpaaGreat

/- The walk over an environment: loops over iterators, marks among the deferred calls. No program in sight. -/
namespace Go.Proofs.YtjepipbkiadcpaaGreat
open Go Go.RowKit Go.Shelf Go.Proofs.Tryz
def setE(E:Env):List (Nat×Value)→Env
  | []=>E
  | (p,v)::t=>setE (upd E p v) t
theorem setE_rep{N:Nat} : ∀ (l:List (Nat×Value)) (E:Env) (ds:List Deferred) (a:Act),Rep N E ds a→(∀ p∈l,p.1<N)→Rep N (setE E l) ds { tmps:=l.foldl (fun t p=>t.setIfInBounds p.1 p.2) a.tmps,defers:=a.defers }
  | [],E,ds,a,h,_=>h
  | (p,v)::t,E,ds,a,h,hl=>by
    have h1:=h.put (d:=some p) (fun k e=>by cases e;exact hl (p,v) (by simp)) v
    have:=setE_rep t _ ds _ h1 (fun q hq=>hl q (by simp [hq]))
    simpa [setE,Act.put,updO] using this
section
variable {F : Fence} {n : Nat} {P : Program} {N : Nat} {Q : Exit → Act → World → Prop} {t : List Item}
end
structure KpOk(Kp:World→World→Prop)(w:World):Prop where
  trans:∀ {A B C:World},Kp A B→Kp B C→Kp A C
  put:∀ (W:World) (l:Nat) (o o':Obj),w.heap.size≤l→W.heap[l]? = some o→o.isCells=false→o.isWalk=false→Kp W (W.putObj l o')
def mark(r:Nat):Deferred:={ target := .collected r,args:=#[] }
structure After(B:Nat)(W W':World):Prop where
  os:W'.os=W.os
  tape:W'.tape=W.tape
  output:W'.output=W.output
  size:W'.heap.size=W.heap.size
  cells:∀ k:Nat,(∀ o:Obj,W.heap[k]? = some o→o.isCells=true)→W'.heap[k]? = W.heap[k]?
  old:∀ k:Nat,k<B→W'.heap[k]? = W.heap[k]?
theorem After.row{B:Nat}{W W':World}(h:After B W W'){g:Nat}{e:TypeId}{size:Nat}{xs:List Value}(hr:Row W g e size xs):Row W' g e size xs:=hr.keep (h.cells g (fun o ho=>by
  obtain ⟨cur,h1,_⟩:=hr
  rw [h1] at ho
  cases ho
  rfl))
theorem After.keeps{W0 W W':World}{S:Nat→Prop}(h:After W0.heap.size W W')(hk:Keeps S W0 W):Keeps S W0 W' :=
  ⟨h.os.trans hk.os,h.tape.trans hk.tape,h.output.trans hk.output,by rw [h.size];exact hk.size,fun k hk' hs=>(h.old k hk').trans (hk.block k hk' hs)⟩
theorem calls_shm{P:Program}{f:FuncId}{fn:Func}{c:Code}{l:List Value}{w:World}{R:Ending→World→Prop}{N:Nat}(hf:P.funcs[f]? = some fn)(hb:fn.body=some c)(hN:fn.ntmps=N)(hl:l.length≤N)
    (h:WT Fence.wide 3 P N [.code c] (bodyPostM Fence.wide 3 P fn R) (lenv l) [] w):Calls P f l.toArray w R:=by
  refine (callsIn_wide (n:=3)).1 (callsIn_of_wp_marks hf hb trivial (WTa.code (h _ ⟨?_,lenv_eq l _,rfl⟩)) rfl)
  simp
  omega
section
variable {P : Program} {fn : Func} {N : Nat} {t : List Item} {R : Ending → World → Prop} {E : Env} {ds : List Deferred} {w : World} {B : Nat}
end
end Go.Proofs.YtjepipbkiadcpaaGreat

/- Facts on this seat's types and functions. -/
namespace Go.Proofs.YtjepipbkiadcpaaGreat
open Go Go.RowKit Go.Shelf Go.Proofs.Tryz
theorem yai:(Tryz.prog.info? 3).map (fun i=>(i.zero,i.size,i.bytes))=some (some (Value.int .i64 0),1,8):=by kernel_rfl
theorem ydt:(Tryz.prog.info? 4).map (fun i=>(i.zero,i.size,i.bytes))=some (some (Value.bool (false)),1,1):=by kernel_rfl
theorem ydq:(Tryz.prog.info? 22).map (fun i=>(i.zero,i.size,i.bytes))=some (some (Value.slice none 0 0),1,24):=by kernel_rfl
theorem yaM:(Tryz.prog.info? 24).map (fun i=>(i.zero,i.size,i.bytes))=some (some (Value.agg #[(Value.int .i64 0),(Value.slice none 0 0)]),2,32):=by kernel_rfl
theorem yaL:(Tryz.prog.info? 33).map (fun i=>(i.zero,i.size,i.bytes))=some (some (Value.slice none 0 0),1,24):=by kernel_rfl
theorem yh6:(Tryz.prog.info? 34).map (fun i=>(i.zero,i.size,i.bytes))=some (some (Value.slice none 0 0),1,24):=by kernel_rfl
theorem ybf:(Tryz.prog.info? 43).map (fun i=>(i.zero,i.size,i.bytes))=some (some (Value.slice none 0 0),1,24):=by kernel_rfl
theorem ydM:(Tryz.prog.info? 45).map (fun i=>(i.zero,i.size,i.bytes))=some (some (Value.agg #[(Value.int .i64 0),(Value.slice none 0 0),(Value.slice none 0 0)]),3,56):=by kernel_rfl
theorem ya5:(Tryz.prog.info? 51).map (fun i=>(i.zero,i.size,i.bytes))=some (some (Value.slice none 0 0),1,24):=by kernel_rfl
theorem yap:(Tryz.prog.info? 53).map (fun i=>(i.zero,i.size,i.bytes))=some (some (Value.agg #[(Value.slice none 0 0),(Value.slice none 0 0),(Value.slice none 0 0)]),3,72):=by kernel_rfl
theorem ybw:(Tryz.prog.info? 60).map (fun i=>(i.zero,i.size,i.bytes))=some (some (Value.agg #[(Value.slice none 0 0),(Value.slice none 0 0),(Value.slice none 0 0),(Value.slice none 0 0),(Value.int .i64 0),(Value.int .i64 0),(Value.int .i64 0),(Value.int .i64 0)]),8,128):=by kernel_rfl
theorem ybB:(Tryz.prog.info? 67).map (fun i=>(i.zero,i.size,i.bytes))=some (some (Value.agg #[(Value.int .i64 0),(Value.int .i64 0),(Value.int .i64 0)]),3,24):=by kernel_rfl
theorem info_91:(Tryz.prog.info? 91).map (fun i=>(i.zero,i.size,i.bytes))=some (some (Value.slice none 0 0),1,24):=by kernel_rfl
theorem ycC:(Tryz.prog.info? 96).map (fun i=>(i.zero,i.size,i.bytes))=some (some (Value.slice none 0 0),1,24):=by kernel_rfl
theorem yaz:(Tryz.prog.info? 98).map (fun i=>(i.zero,i.size,i.bytes))=some (some (Value.agg #[(Value.int .i64 0),(Value.int .i64 0),(Value.slice none 0 0)]),3,40):=by kernel_rfl
theorem ycZ:(Tryz.prog.info? 100).map (fun i=>(i.zero,i.size,i.bytes))=some (some (Value.agg #[(Value.int .i64 0),(Value.int .i64 0)]),2,16):=by kernel_rfl
theorem yeP:(Tryz.prog.info? 110).map (fun i=>(i.zero,i.size,i.bytes))=some (some (Value.slice none 0 0),1,24):=by kernel_rfl
theorem ydn:(Tryz.prog.info? 111).map (fun i=>(i.zero,i.size,i.bytes))=some (some (Value.slice none 0 0),1,24):=by kernel_rfl
theorem info_113:(Tryz.prog.info? 113).map (fun i=>(i.zero,i.size,i.bytes))=some (some (Value.agg #[(Value.slice none 0 0),(Value.slice none 0 0),(Value.slice none 0 0),(Value.slice none 0 0),(Value.slice none 0 0),(Value.slice none 0 0),(Value.slice none 0 0),(Value.int .i64 0),(Value.int .i64 0),(Value.bool (false))]),10,192):=by kernel_rfl
theorem yby:(Tryz.prog.info? 136).map (fun i=>(i.zero,i.size,i.bytes))=some (some (Value.agg #[(Value.int .i64 0),(Value.int .i64 0)]),2,16):=by kernel_rfl
theorem yen:(Tryz.prog.info? 137).map (fun i=>(i.zero,i.size,i.bytes))=some (some (Value.slice none 0 0),1,24):=by kernel_rfl
theorem ya9:(Tryz.prog.info? 139).map (fun i=>(i.zero,i.size,i.bytes))=some (some (Value.agg #[(Value.int .i64 0),(Value.slice none 0 0)]),2,32):=by kernel_rfl
theorem ycb:(Tryz.prog.info? 140).map (fun i=>(i.zero,i.size,i.bytes))=some (some (Value.slice none 0 0),1,24):=by kernel_rfl
theorem ybR:(Tryz.prog.info? 148).map (fun i=>(i.zero,i.size,i.bytes))=some (some (Value.agg #[(Value.int .i64 0),(Value.int .i64 0)]),2,16):=by kernel_rfl
theorem info_151:(Tryz.prog.info? 151).map (fun i=>(i.zero,i.size,i.bytes))=some (some (Value.agg #[(Value.int .i64 0),(Value.slice none 0 0),(Value.slice none 0 0),(Value.slice none 0 0)]),4,80):=by kernel_rfl
theorem yel:(Tryz.prog.info? 155).map (fun i=>(i.zero,i.size,i.bytes))=some (some (Value.pointer none),1,8):=by kernel_rfl
theorem yc4:(Tryz.prog.info? 157).map (fun i=>(i.zero,i.size,i.bytes))=some (some (Value.agg #[(Value.slice none 0 0),(Value.int .i64 0),(Value.int .i64 0)]),3,40):=by kernel_rfl
theorem info_159:(Tryz.prog.info? 159).map (fun i=>(i.zero,i.size,i.bytes))=some (some (Value.agg #[(Value.slice none 0 0),(Value.int .i64 0),(Value.int .i64 0),(Value.int .i64 0),(Value.int .i64 0),(Value.int .i64 0)]),6,64):=by kernel_rfl
theorem yhO:(Tryz.prog.info? 166).map (fun i=>(i.zero,i.size,i.bytes))=some (some (Value.agg #[(Value.pointer none),(Value.int .i64 0),(Value.int .i64 0)]),3,24):=by kernel_rfl
theorem info_263:(Tryz.prog.info? 263).map (fun i=>(i.zero,i.size,i.bytes))=some (some (Value.agg #[(Value.pointer none),(Value.int .i64 0)]),2,16):=by kernel_rfl
theorem enter_15:Enters Tryz.prog 15:=enters_of func15 (by kernel_rfl) rfl
theorem enter_16:Enters Tryz.prog 16:=enters_of func16 (by kernel_rfl) rfl
theorem enter_17:Enters Tryz.prog 17:=enters_of func17 (by kernel_rfl) rfl
theorem enter_18:Enters Tryz.prog 18:=enters_of func18 (by kernel_rfl) rfl
theorem enter_19:Enters Tryz.prog 19:=enters_of func19 (by kernel_rfl) rfl
theorem yep:Enters Tryz.prog 20:=enters_of func20 (by kernel_rfl) rfl
theorem enter_21:Enters Tryz.prog 21:=enters_of func21 (by kernel_rfl) rfl
theorem enter_22:Enters Tryz.prog 22:=enters_of func22 (by kernel_rfl) rfl
theorem enter_23:Enters Tryz.prog 23:=enters_of func23 (by kernel_rfl) rfl
theorem enter_24:Enters Tryz.prog 24:=enters_of func24 (by kernel_rfl) rfl
theorem enter_25:Enters Tryz.prog 25:=enters_of func25 (by kernel_rfl) rfl
theorem enter_26:Enters Tryz.prog 26:=enters_of func26 (by kernel_rfl) rfl
theorem enter_27:Enters Tryz.prog 27:=enters_of func27 (by kernel_rfl) rfl
theorem yhK:Enters Tryz.prog 33:=enters_of func33 (by kernel_rfl) rfl
theorem enter_37:Enters Tryz.prog 37:=enters_of func37 (by kernel_rfl) rfl
theorem enter_42:Enters Tryz.prog 42:=enters_of func42 (by kernel_rfl) rfl
theorem enter_43:Enters Tryz.prog 43:=enters_of func43 (by kernel_rfl) rfl
theorem enter_44:Enters Tryz.prog 44:=enters_of func44 (by kernel_rfl) rfl
theorem enter_45:Enters Tryz.prog 45:=enters_of func45 (by kernel_rfl) rfl
theorem enter_46:Enters Tryz.prog 46:=enters_of func46 (by kernel_rfl) rfl
theorem enter_47:Enters Tryz.prog 47:=enters_of func47 (by kernel_rfl) rfl
theorem enter_48:Enters Tryz.prog 48:=enters_of func48 (by kernel_rfl) rfl
theorem enter_49:Enters Tryz.prog 49:=enters_of func49 (by kernel_rfl) rfl
theorem enter_50:Enters Tryz.prog 50:=enters_of func50 (by kernel_rfl) rfl
theorem yhN:Enters Tryz.prog 51:=enters_of func51 (by kernel_rfl) rfl
theorem yf6:Enters Tryz.prog 52:=enters_of func52 (by kernel_rfl) rfl
theorem yeq:Enters Tryz.prog 53:=enters_of func53 (by kernel_rfl) rfl
theorem enter_54:Enters Tryz.prog 54:=enters_of func54 (by kernel_rfl) rfl
theorem enter_55:Enters Tryz.prog 55:=enters_of func55 (by kernel_rfl) rfl
theorem enter_56:Enters Tryz.prog 56:=enters_of func56 (by kernel_rfl) rfl
theorem enter_57:Enters Tryz.prog 57:=enters_of func57 (by kernel_rfl) rfl
theorem enter_58:Enters Tryz.prog 58:=enters_of func58 (by kernel_rfl) rfl
theorem enter_59:Enters Tryz.prog 59:=enters_of func59 (by kernel_rfl) rfl
theorem enter_60:Enters Tryz.prog 60:=enters_of func60 (by kernel_rfl) rfl
theorem enter_61:Enters Tryz.prog 61:=enters_of func61 (by kernel_rfl) rfl
theorem enter_62:Enters Tryz.prog 62:=enters_of func62 (by kernel_rfl) rfl
theorem enter_63:Enters Tryz.prog 63:=enters_of func63 (by kernel_rfl) rfl
theorem enter_64:Enters Tryz.prog 64:=enters_of func64 (by kernel_rfl) rfl
theorem enter_72:Enters Tryz.prog 72:=enters_of func72 (by kernel_rfl) rfl
theorem enter_76:Enters Tryz.prog 76:=enters_of func76 (by kernel_rfl) rfl
theorem enter_77:Enters Tryz.prog 77:=enters_of func77 (by kernel_rfl) rfl
theorem enter_80:Enters Tryz.prog 80:=enters_of func80 (by kernel_rfl) rfl
theorem enter_86:Enters Tryz.prog 86:=enters_of func86 (by kernel_rfl) rfl
theorem enter_87:Enters Tryz.prog 87:=enters_of func87 (by kernel_rfl) rfl
theorem enter_88:Enters Tryz.prog 88:=enters_of func88 (by kernel_rfl) rfl
theorem enter_89:Enters Tryz.prog 89:=enters_of func89 (by kernel_rfl) rfl
theorem enter_90:Enters Tryz.prog 90:=enters_of func90 (by kernel_rfl) rfl
theorem yeS:Enters Tryz.prog 91:=enters_of func91 (by kernel_rfl) rfl
theorem enter_92:Enters Tryz.prog 92:=enters_of func92 (by kernel_rfl) rfl
theorem enter_93:Enters Tryz.prog 93:=enters_of func93 (by kernel_rfl) rfl
theorem enter_94:Enters Tryz.prog 94:=enters_of func94 (by kernel_rfl) rfl
theorem enter_95:Enters Tryz.prog 95:=enters_of func95 (by kernel_rfl) rfl
theorem enter_96:Enters Tryz.prog 96:=enters_of func96 (by kernel_rfl) rfl
theorem enter_97:Enters Tryz.prog 97:=enters_of func97 (by kernel_rfl) rfl
theorem enter_98:Enters Tryz.prog 98:=enters_of func98 (by kernel_rfl) rfl
theorem enter_99:Enters Tryz.prog 99:=enters_of func99 (by kernel_rfl) rfl
theorem enter_100:Enters Tryz.prog 100:=enters_of func100 (by kernel_rfl) rfl
theorem enter_101:Enters Tryz.prog 101:=enters_of func101 (by kernel_rfl) rfl
theorem enter_102:Enters Tryz.prog 102:=enters_of func102 (by kernel_rfl) rfl
theorem enter_103:Enters Tryz.prog 103:=enters_of func103 (by kernel_rfl) rfl
theorem enter_104:Enters Tryz.prog 104:=enters_of func104 (by kernel_rfl) rfl
theorem enter_105:Enters Tryz.prog 105:=enters_of func105 (by kernel_rfl) rfl
theorem enter_106:Enters Tryz.prog 106:=enters_of func106 (by kernel_rfl) rfl
theorem enter_107:Enters Tryz.prog 107:=enters_of func107 (by kernel_rfl) rfl
theorem ygO:Enters Tryz.prog 131:=enters_of func131 (by kernel_rfl) rfl
theorem enter_137:Enters Tryz.prog 137:=enters_of func137 (by kernel_rfl) rfl
theorem enter_138:Enters Tryz.prog 138:=enters_of func138 (by kernel_rfl) rfl
theorem enter_139:Enters Tryz.prog 139:=enters_of func139 (by kernel_rfl) rfl
theorem enter_140:Enters Tryz.prog 140:=enters_of func140 (by kernel_rfl) rfl
theorem enter_141:Enters Tryz.prog 141:=enters_of func141 (by kernel_rfl) rfl
theorem enter_142:Enters Tryz.prog 142:=enters_of func142 (by kernel_rfl) rfl
theorem enter_143:Enters Tryz.prog 143:=enters_of func143 (by kernel_rfl) rfl
theorem yhS:Enters Tryz.prog 144:=enters_of func144 (by kernel_rfl) rfl
theorem enter_145:Enters Tryz.prog 145:=enters_of func145 (by kernel_rfl) rfl
theorem enter_146:Enters Tryz.prog 146:=enters_of func146 (by kernel_rfl) rfl
theorem enter_147:Enters Tryz.prog 147:=enters_of func147 (by kernel_rfl) rfl
theorem enter_148:Enters Tryz.prog 148:=enters_of func148 (by kernel_rfl) rfl
theorem enter_149:Enters Tryz.prog 149:=enters_of func149 (by kernel_rfl) rfl
theorem enter_150:Enters Tryz.prog 150:=enters_of func150 (by kernel_rfl) rfl
theorem enter_151:Enters Tryz.prog 151:=enters_of func151 (by kernel_rfl) rfl
theorem enter_152:Enters Tryz.prog 152:=enters_of func152 (by kernel_rfl) rfl
theorem enter_153:Enters Tryz.prog 153:=enters_of func153 (by kernel_rfl) rfl
theorem enter_154:Enters Tryz.prog 154:=enters_of func154 (by kernel_rfl) rfl
theorem enter_155:Enters Tryz.prog 155:=enters_of func155 (by kernel_rfl) rfl
theorem enter_156:Enters Tryz.prog 156:=enters_of func156 (by kernel_rfl) rfl
theorem enter_157:Enters Tryz.prog 157:=enters_of func157 (by kernel_rfl) rfl
theorem enter_158:Enters Tryz.prog 158:=enters_of func158 (by kernel_rfl) rfl
theorem enter_159:Enters Tryz.prog 159:=enters_of func159 (by kernel_rfl) rfl
theorem enter_160:Enters Tryz.prog 160:=enters_of func160 (by kernel_rfl) rfl
theorem enter_161:Enters Tryz.prog 161:=enters_of func161 (by kernel_rfl) rfl
theorem enter_162:Enters Tryz.prog 162:=enters_of func162 (by kernel_rfl) rfl
theorem enter_163:Enters Tryz.prog 163:=enters_of func163 (by kernel_rfl) rfl
theorem yiw:Enters Tryz.prog 164:=enters_of func164 (by kernel_rfl) rfl
theorem enter_183:Enters Tryz.prog 183:=enters_of func183 (by kernel_rfl) rfl
theorem enter_184:Enters Tryz.prog 184:=enters_of func184 (by kernel_rfl) rfl
theorem enter_185:Enters Tryz.prog 185:=enters_of func185 (by kernel_rfl) rfl
theorem enter_186:Enters Tryz.prog 186:=enters_of func186 (by kernel_rfl) rfl
theorem enter_187:Enters Tryz.prog 187:=enters_of func187 (by kernel_rfl) rfl
theorem enter_188:Enters Tryz.prog 188:=enters_of func188 (by kernel_rfl) rfl
theorem enter_189:Enters Tryz.prog 189:=enters_of func189 (by kernel_rfl) rfl
theorem enter_190:Enters Tryz.prog 190:=enters_of func190 (by kernel_rfl) rfl
theorem enter_191:Enters Tryz.prog 191:=enters_of func191 (by kernel_rfl) rfl
theorem enter_192:Enters Tryz.prog 192:=enters_of func192 (by kernel_rfl) rfl
theorem enter_193:Enters Tryz.prog 193:=enters_of func193 (by kernel_rfl) rfl
theorem enter_194:Enters Tryz.prog 194:=enters_of func194 (by kernel_rfl) rfl
theorem enter_195:Enters Tryz.prog 195:=enters_of func195 (by kernel_rfl) rfl
theorem enter_196:Enters Tryz.prog 196:=enters_of func196 (by kernel_rfl) rfl
theorem enter_197:Enters Tryz.prog 197:=enters_of func197 (by kernel_rfl) rfl
theorem enter_198:Enters Tryz.prog 198:=enters_of func198 (by kernel_rfl) rfl
theorem enter_206:Enters Tryz.prog 206:=enters_of func206 (by kernel_rfl) rfl
theorem enter_208:Enters Tryz.prog 208:=enters_of func208 (by kernel_rfl) rfl
theorem enter_209:Enters Tryz.prog 209:=enters_of func209 (by kernel_rfl) rfl
theorem enter_210:Enters Tryz.prog 210:=enters_of func210 (by kernel_rfl) rfl
theorem enter_211:Enters Tryz.prog 211:=enters_of func211 (by kernel_rfl) rfl
theorem yhY:Enters Tryz.prog 212:=enters_of func212 (by kernel_rfl) rfl
theorem enter_213:Enters Tryz.prog 213:=enters_of func213 (by kernel_rfl) rfl
theorem enter_219:Enters Tryz.prog 219:=enters_of func219 (by kernel_rfl) rfl
theorem enter_220:Enters Tryz.prog 220:=enters_of func220 (by kernel_rfl) rfl
theorem enter_221:Enters Tryz.prog 221:=enters_of func221 (by kernel_rfl) rfl
theorem enter_240:Enters Tryz.prog 240:=enters_of func240 (by kernel_rfl) rfl
theorem enter_242:Enters Tryz.prog 242:=enters_of func242 (by kernel_rfl) rfl
end Go.Proofs.YtjepipbkiadcpaaGreat

/- Memory kept out of sight: what a walk reads and owns, each thing by its number; one fact about the world says that all of them are there, apart from each other. No program in sight. -/
namespace Go.Proofs.YtjepipbkiadcpaaGreat
open Go Go.RowKit Go.Shelf Go.Proofs.Tryz
def no:Nat→Prop:=fun _=>False
theorem yaO(n:Nat):∀ k,no k→k<n:=fun _ h=>h.elim
structure Cod(τ:Type) where
  sz:Nat
  R:(Nat→Prop)→World→List Value→τ→Prop
  len:∀ {O w vs x},R O w vs x→vs.length=sz
  one:∀ {O w vs x},R O w vs x→∀ u∈vs,u.oneCell'=true
  keep:∀ {O w w' vs x},R O w vs x→Keeps O w w'→R O w' vs x
  sub:∀ {O O' w vs x},R O w vs x→(∀ k,k<w.heap.size→O' k→O k)→R O' w vs x
structure Fl(τ:Type) where
  sz:Nat
  enc:τ→List Value
  len:∀ x,(enc x).length=sz
  one:∀ x,∀ u∈enc x,u.oneCell'=true
def Fl.cod{τ:Type}(f:Fl τ):Cod τ where
  sz:=f.sz
  R:=fun _ _ vs x=>vs=f.enc x
  len:=fun h=>by rw [h,f.len]
  one:=fun h=>by rw [h];exact f.one _
  keep:=fun h _=>h
  sub:=fun h _=>h
def fI(k:IntKind):Fl Int:=⟨1,fun x=>[.int k x],fun _=>rfl,fun x u hu=>by rw [List.mem_singleton] at hu;subst hu;rfl⟩
def fB:Fl Bool:=⟨1,fun x=>[.bool x],fun _=>rfl,fun x u hu=>by rw [List.mem_singleton] at hu;subst hu;rfl⟩
def fP{α β:Type}(a:Fl α)(b:Fl β):Fl (α×β):=⟨a.sz+b.sz,fun x=>a.enc x.1++b.enc x.2,fun x=>by rw [List.length_append,a.len,b.len],fun x u hu=>by
  rcases List.mem_append.1 hu with h | h
  · exact a.one _ u h
  · exact b.one _ u h⟩
def cI:Cod Int:=(fI .i64).cod
def cB:Cod Bool:=fB.cod
def c2:Cod (Int×Int):=(fP (fI .i64) (fI .i64)).cod
def c3:Cod (Int×Int×Int):=(fP (fI .i64) (fP (fI .i64) (fI .i64))).cod
def Sl{τ:Type}(c:Cod τ)(O:Nat→Prop)(w:World)(A:Option Addr)(xs:List τ):Prop :=
  0<xs.length→∃ b off,A=some ⟨b,off,none⟩∧b<w.heap.size∧¬O b∧∀ (k:Nat) x,xs[k]? = some x→∃ vs,c.R O w vs x∧∀ (j:Nat) u,vs[j]? = some u→w.cell? ⟨b,off+k*c.sz+j,none⟩=some u
section
variable {τ : Type} {c : Cod τ} {O O' : Nat → Prop} {w w' : World} {A : Option Addr} {xs : List τ}
theorem Sl.nil(c:Cod τ)(O:Nat→Prop)(w:World)(A:Option Addr):Sl c O w A []:=fun h=>absurd h (by simp)
theorem Sl.keep(h:Sl c O w A xs)(hk:Keeps O w w'):Sl c O w' A xs:=fun hl=>by
  obtain ⟨b,off,e,hb,ho,hc⟩:=h hl
  refine ⟨b,off,e,Nat.lt_of_lt_of_le hb hk.size,ho,fun k x hx=>?_⟩
  obtain ⟨vs,h1,h2⟩:=hc k x hx
  exact ⟨vs,c.keep h1 hk,fun j u hj=>hk.cell ho (h2 j u hj)⟩
theorem Sl.sub(h:Sl c O w A xs)(hs:∀ k,k<w.heap.size→O' k→O k):Sl c O' w A xs:=fun hl=>by
  obtain ⟨b,off,e,hb,ho,hc⟩:=h hl
  refine ⟨b,off,e,hb,fun hb'=>ho (hs b hb hb'),fun k x hx=>?_⟩
  obtain ⟨vs,h1,h2⟩:=hc k x hx
  exact ⟨vs,c.sub h1 hs,h2⟩
end
def cL{τ:Type}(c:Cod τ):Cod (List τ) where
  sz:=1
  R:=fun O w vs xs=>∃ A l cap,vs=[.slice A l cap]∧l=xs.length∧l≤cap∧Sl c O w A xs
  len:=fun ⟨_,_,_,h,_⟩=>by rw [h];rfl
  one:=fun ⟨_,_,_,h,_⟩ u hu=>by rw [h,List.mem_singleton] at hu;subst hu;rfl
  keep:=fun ⟨A,l,cap,h,h1,h2,h3⟩ hk=>⟨A,l,cap,h,h1,h2,h3.keep hk⟩
  sub:=fun ⟨A,l,cap,h,h1,h2,h3⟩ hs=>⟨A,l,cap,h,h1,h2,h3.sub hs⟩
structure FP where
  P:(Nat→Prop)→World→Prop
  keep:∀ {O w w'},P O w→Keeps O w w'→P O w'
  sub:∀ {O O' w},P O w→(∀ k,k<w.heap.size→O' k→O k)→P O' w
def FP.sl{τ:Type}(c:Cod τ)(A:Option Addr)(l cap:Nat)(xs:List τ):FP :=
  ⟨fun O w=>l=xs.length∧l≤cap∧Sl c O w A xs,fun ⟨h1,h2,h3⟩ hk=>⟨h1,h2,h3.keep hk⟩,fun ⟨h1,h2,h3⟩ hs=>⟨h1,h2,h3.sub hs⟩⟩
def FP.bx(e:TypeId)(g:Nat)(cells:List Value):FP :=
  ⟨fun O w=>¬O g∧Row w g e cells.length cells,fun ⟨h1,h2⟩ hk=>⟨h1,h2.keep (hk.block _ h2.lt h1)⟩,fun ⟨h1,h2⟩ hs=>⟨fun h=>h1 (hs _ h2.lt h),h2⟩⟩
def FP.cl(p:Addr)(v:Value):FP :=
  ⟨fun O w=>¬O p.block∧w.cell? p=some v,fun ⟨h1,h2⟩ hk=>⟨h1,hk.cell h1 h2⟩,fun ⟨h1,h2⟩ hs=>⟨fun h=>h1 (hs _ (by
    rcases Nat.lt_or_ge p.block _ with h1 | h1
    · exact h1
    · rw [World.cell?,Array.getElem?_eq_none h1] at h2;cases h2) h),h2⟩⟩
def OwnC{τ:Type}(c:Cod τ)(B:Nat)(O:Nat→Prop)(w:World)(e:TypeId)(A:Option Addr)(l cap:Nat)(xs:List τ):Prop :=
  l=xs.length∧∃ cells,OwnS w B e c.sz A l cap cells∧∀ (k:Nat) x,xs[k]? = some x→∃ vs,c.R O w vs x∧∀ (j:Nat) u,vs[j]? = some u→cells[k*c.sz+j]? = some u
theorem OwnS.cellAt{w:World}{B:Nat}{e:TypeId}{sz:Nat}{A:Option Addr}{l c:Nat}{xs:List Value}(h:OwnS w B e sz A l c xs){i:Nat}{u:Value}(hu:xs[i]? = some u):∃ g o,A=some ⟨g,o,none⟩∧g<w.heap.size∧w.cell? ⟨g,o+i,none⟩=some u∧w.frozen? ⟨g,o+i,none⟩=false:=by
  rcases h.2 with ⟨rfl,rfl,rfl⟩ | ⟨g,o,cur,rfl,hb,hg,h1,h2,h3,h4⟩
  · have:=h.1
    simp at this
    subst this
    simp at hu
  · refine ⟨g,o,rfl,(Array.getElem?_eq_some_iff.1 hg).1,?_,by simp [World.frozen?,hg]⟩
    have hi:i<l*sz:=by
      rcases Nat.lt_or_ge i xs.length with q | q
      · rw [←h.1];exact q
      · rw [List.getElem?_eq_none q] at hu;cases hu
    rw [←h4,List.getElem?_take,if_pos hi,List.getElem?_drop] at hu
    rw [cell_of_row w g (o+i) cur e (0,0) hg]
    simpa using hu
theorem OwnS.set1{w:World}{B:Nat}{e:TypeId}{sz:Nat}{A:Option Addr}{l c:Nat}{xs:List Value}(h:OwnS w B e sz A l c xs){i:Nat}(hi:i<xs.length)(v:Value){g o:Nat}(hA:A=some ⟨g,o,none⟩):OwnS (w.setCell ⟨g,o+i,none⟩ v) B e sz A l c (xs.set i v):=by
  refine ⟨by rw [List.length_set];exact h.1,?_⟩
  rcases h.2 with ⟨rfl,rfl,rfl⟩ | ⟨g',o',cur,rfl,hb,hg,h1,h2,h3,h4⟩
  · cases hA
  · cases hA
    refine .inr ⟨g,o,cur.setIfInBounds (o+i) v,rfl,hb,?_,h1,h2,by simpa using h3,?_⟩
    · simp [World.setCell,Array.getElem?_modify,hg]
    · have hi':i<l*sz:=by rw [←h.1];exact hi
      rw [Array.toList_setIfInBounds,←h4,List.drop_set,if_neg (by omega),Nat.add_sub_cancel_left,List.take_set]
theorem OwnS.at_ {w:World}{B:Nat}{e:TypeId}{sz:Nat}{A:Option Addr}{l c:Nat}{xs:List Value}(h:OwnS w B e sz A l c xs){k:Nat}(hk:A.map (·.block)=some k):B≤k∧k<w.heap.size:=by
  rcases h.2 with ⟨rfl,rfl,rfl⟩ | ⟨g,o,cur,rfl,hb,hg,_⟩
  · cases hk
  · simp at hk;subst hk;exact ⟨hb,(Array.getElem?_eq_some_iff.1 hg).1⟩
theorem OwnS.keep_ {w w':World}{B:Nat}{e:TypeId}{sz:Nat}{A:Option Addr}{l c:Nat}{xs:List Value}(h:OwnS w B e sz A l c xs)(hk:∀ k,A.map (·.block)=some k→w'.heap[k]? = w.heap[k]?):OwnS w' B e sz A l c xs:=by
  refine ⟨h.1,?_⟩
  rcases h.2 with q | ⟨g,o,cur,rfl,hb,hg,q⟩
  · exact .inl q
  · exact .inr ⟨g,o,cur,rfl,hb,(hk g rfl).trans hg,q⟩
theorem OwnS.base{w:World}{B B':Nat}{e:TypeId}{sz:Nat}{A:Option Addr}{l c:Nat}{xs:List Value}(h:OwnS w B e sz A l c xs)(hB:B'≤B):OwnS w B' e sz A l c xs:=by
  refine ⟨h.1,?_⟩
  rcases h.2 with q | ⟨g,o,cur,rfl,hb,hg,q⟩
  · exact .inl q
  · exact .inr ⟨g,o,cur,rfl,Nat.le_trans hB hb,hg,q⟩
theorem OwnS.caps{w:World}{B:Nat}{e:TypeId}{sz:Nat}{A:Option Addr}{l c:Nat}{xs:List Value}(h:OwnS w B e sz A l c xs):l≤c:=by
  rcases h.2 with ⟨rfl,rfl,rfl⟩ | ⟨g,o,cur,rfl,hb,hg,q,_⟩
  · exact Nat.le_refl _
  · exact q
section
variable {τ : Type} {c : Cod τ} {B : Nat} {O O' : Nat → Prop} {w w' : World} {e : TypeId} {A : Option Addr} {l cap : Nat} {xs : List τ}
theorem OwnC.nil(c:Cod τ)(B:Nat)(O:Nat→Prop)(w:World)(e:TypeId):OwnC c B O w e none 0 0 []:=⟨rfl,[],OwnS.nil w B e c.sz,fun k x h=>by simp at h⟩
theorem OwnC.rd(h:OwnC c B O w e A l cap xs)(hs:∀ k,k<w.heap.size→O' k→O k)(hA:∀ k,A.map (·.block)=some k→¬O' k):(FP.sl c A l cap xs).P O' w:=by
  obtain ⟨hl,cells,ho,hc⟩:=h
  refine ⟨hl,ho.caps,fun h0=>?_⟩
  rcases ho.2 with ⟨rfl,rfl,rfl⟩ | ⟨g,o,cur,rfl,hb,hg,q⟩
  · omega
  · refine ⟨g,o,rfl,(Array.getElem?_eq_some_iff.1 hg).1,hA g rfl,fun k x hx=>?_⟩
    obtain ⟨vs,h1,h2⟩:=hc k x hx
    refine ⟨vs,c.sub h1 hs,fun j u hj=>?_⟩
    obtain ⟨g',o',e',_,hcell,_⟩:=ho.cellAt (h2 j u hj)
    cases e'
    rw [Nat.add_assoc];exact hcell
end
structure SP where
  has:Nat→Prop
  ok:World→Prop
  lt:∀ {w k},ok w→has k→k<w.heap.size
  keep:∀ {w w'},ok w→(∀ k,has k→w'.heap[k]? = w.heap[k]?)→ok w'
inductive Res:Type 1
  | own {τ:Type} (c:Cod τ) (e:TypeId) (A:Option Addr) (l cap:Nat) (xs:List τ)
  | box (e:TypeId) (g:Nat) (cells:List Value)
  | ro (Φ:FP)
  | obj (g:Nat) (o:Obj)
  | rows (e:TypeId) (G:List Nat) (T:List (List Int))
  | objs (G:List Nat) (o:Obj)
  | sem (Φ:SP)
  | gone
@[reducible] def Res.has : Res → Nat → Prop
  | .rows _ G _,k=>k∈G
  | .objs G _,k=>k∈G
  | .sem Φ,k=>Φ.has k
  | .own _ _ A _ _ _,k=>A.map (·.block)=some k
  | .box _ g _,k=>some g=some k
  | .obj g _,k=>some g=some k
  | .ro _,k=>(none:Option Nat)=some k
  | .gone,k=>(none:Option Nat)=some k
@[reducible] def Res.free : Res → Prop
  | .rows _ G _=>G=[]
  | .objs G _=>G=[]
  | .sem Φ=>∀ k,¬Φ.has k
  | .own _ _ A _ _ _=>A.map (·.block)=none
  | .box _ g _=>some g=none
  | .obj g _=>some g=none
  | .ro _=>(none:Option Nat)=none
  | .gone=>(none:Option Nat)=none
theorem Res.free.out{r:Res}(h:r.free)(k:Nat):¬r.has k:=fun hk=>by
  cases r with
  | rows e G T=>have h:G=[]:=h;subst h;cases hk
  | objs G o=>have h:G=[]:=h;subst h;cases hk
  | sem Φ=>exact h k hk
  | own c e A l cap xs=>have h:A.map (·.block)=none:=h;have hk:A.map (·.block)=some k:=hk;rw [h] at hk;cases hk
  | box e g cells=>cases h
  | obj g o=>cases h
  | ro Φ=>cases hk
  | gone=>cases hk
def Res.ok(B:Nat)(O:Nat→Prop)(w:World):Res→Prop
  | .own c e A l cap xs=>OwnC c B O w e A l cap xs
  | .box e g cells=>B≤g∧Row w g e cells.length cells
  | .ro Φ=>Φ.P O w
  | .obj g o=>B≤g∧w.heap[g]? = some o
  | .rows e G T=>G.Nodup∧G.length=T.length∧∀ (k g:Nat) (xs:List Int),G[k]? = some g→T[k]? = some xs→OwnC cI B O w e (some ⟨g,0,none⟩) xs.length xs.length xs
  | .objs G o=>G.Nodup∧∀ g∈G,B≤g∧w.heap[g]? = some o
  | .sem Φ=>Φ.ok w∧∀ k,Φ.has k→B≤k
  | .gone=>True
abbrev Hold:=Nat→Res
def Bl(O:Nat→Prop)(L:Hold)(k:Nat):Prop:=O k∨∃ i,(L i).has k
def stl(L:Hold)(i:Nat)(r:Res):Hold:=fun j=>bif Nat.beq j i then r else L j
def rl:List Res→Hold
  | [],_ => .gone
  | r::_,0=>r
  | _::t,n+1=>rl t n
theorem yaS(L:Hold)(i:Nat)(r:Res):stl L i r i=r:=by simp [stl]
theorem yaJ(L:Hold){i j:Nat}(r:Res)(h:j≠i):stl L i r j=L j:=by
  unfold stl
  cases hq:Nat.beq j i with
  | false=>rfl
  | true=>exact absurd (Nat.eq_of_beq_eq_true hq) h
theorem Res.ok.lt{B:Nat}{O:Nat→Prop}{w:World}{r:Res}(h:r.ok B O w){k:Nat}(hk:r.has k):B≤k∧k<w.heap.size:=by
  cases r with
  | own c e A l cap xs=>obtain ⟨_,cells,ho,_⟩:=h;exact ho.at_ hk
  | box e g cells=>cases hk;exact ⟨h.1,h.2.lt⟩
  | obj g o=>cases hk;exact ⟨h.1,(Array.getElem?_eq_some_iff.1 h.2).1⟩
  | rows e G T =>
    obtain ⟨j,hj⟩:=List.getElem?_of_mem (show k∈G from hk)
    have hlt:j<T.length:=by rw [←h.2.1];exact (List.getElem?_eq_some_iff.1 hj).1
    obtain ⟨_,cells,ho,_⟩:=h.2.2 j k _ hj (List.getElem?_eq_getElem hlt)
    exact ho.at_ rfl
  | objs G o=>have h2:=h.2 k hk;exact ⟨h2.1,(Array.getElem?_eq_some_iff.1 h2.2).1⟩
  | sem Φ=>exact ⟨h.2 k hk,Φ.lt h.1 hk⟩
  | ro Φ=>cases hk
  | gone=>cases hk
theorem Res.ok.base{B B':Nat}{O:Nat→Prop}{w:World}{r:Res}(h:r.ok B O w)(hB:B'≤B):r.ok B' O w:=by
  cases r with
  | own c e A l cap xs=>obtain ⟨hl,cells,ho,hc⟩:=h;exact ⟨hl,cells,ho.base hB,hc⟩
  | box e g cells=>exact ⟨Nat.le_trans hB h.1,h.2⟩
  | obj g o=>exact ⟨Nat.le_trans hB h.1,h.2⟩
  | rows e G T=>exact ⟨h.1,h.2.1,fun k g xs hg hx=>by obtain ⟨hl,cells,ho,hc⟩:=h.2.2 k g xs hg hx;exact ⟨hl,cells,ho.base hB,hc⟩⟩
  | objs G o=>exact ⟨h.1,fun g hg=>⟨Nat.le_trans hB (h.2 g hg).1,(h.2 g hg).2⟩⟩
  | sem Φ=>exact ⟨h.1,fun k hk=>Nat.le_trans hB (h.2 k hk)⟩
  | ro Φ=>exact h
  | gone=>trivial
theorem Res.ok.keep{B:Nat}{O O' S:Nat→Prop}{w w':World}{r:Res}(h:r.ok B O w)(hK:Keeps S w w')(hb:∀ k,r.has k→¬S k)(hS:∀ k,k<w.heap.size→S k→O k)(hO:∀ k,k<w.heap.size→O' k→O k):r.ok B O' w':=by
  have hK2:Keeps (fun k=>O' k∨S k) w w':=hK.mono fun k _ h => .inr h
  have hsub:∀ k,k<w.heap.size→(O' k∨S k)→O k:=fun k hk h=>h.elim (hO k hk) (hS k hk)
  cases r with
  | own c e A l cap xs =>
    obtain ⟨hl,cells,ho,hc⟩:=h
    refine ⟨hl,cells,ho.keep_ fun k hk=>hK.block k (ho.at_ hk).2 (hb k hk),fun k x hx=>?_⟩
    obtain ⟨vs,h1,h2⟩:=hc k x hx
    exact ⟨vs,c.sub (c.keep (c.sub h1 hsub) hK2) fun k _ h => .inl h,h2⟩
  | box e g cells=>exact ⟨h.1,h.2.keep (hK.block g h.2.lt (hb g rfl))⟩
  | obj g o=>exact ⟨h.1,(hK.block g (Array.getElem?_eq_some_iff.1 h.2).1 (hb g rfl)).trans h.2⟩
  | objs G o=>exact ⟨h.1,fun g hg=>⟨(h.2 g hg).1,(hK.block g (Array.getElem?_eq_some_iff.1 (h.2 g hg).2).1 (hb g hg)).trans (h.2 g hg).2⟩⟩
  | sem Φ=>exact ⟨Φ.keep h.1 fun k hk=>hK.block k (Φ.lt h.1 hk) (hb k hk),h.2⟩
  | rows e G T =>
    refine ⟨h.1,h.2.1,fun k g xs hg hx=>?_⟩
    obtain ⟨hl,cells,ho,hc⟩:=h.2.2 k g xs hg hx
    refine ⟨hl,cells,ho.keep_ fun k' hk=>?_,fun k x hx=>?_⟩
    · cases hk
      exact hK.block g (ho.at_ rfl).2 (hb g (List.mem_of_getElem? hg))
    · obtain ⟨vs,h1,h2⟩:=hc k x hx
      exact ⟨vs,cI.sub (cI.keep (cI.sub h1 hsub) hK2) fun k _ h => .inl h,h2⟩
  | ro Φ=>exact Φ.sub (Φ.keep (Φ.sub h hsub) hK2) fun k _ h => .inl h
  | gone=>trivial
structure Sep(w0:World)(S O:Nat→Prop)(w:World)(L:Hold):Prop where
  pure:Keeps S w0 w
  lt:∀ k,O k→k<w0.heap.size∧¬S k
  ok:∀ i,(L i).ok 0 (Bl O L) w
  bd:∀ i k,(L i).has k→w0.heap.size≤k∨S k
  nd:∀ i j k,(L i).has k→(L j).has k→i=j
section
variable {w0 w w' : World} {S O : Nat → Prop} {L L' : Hold}
theorem Sep.start(w:World)(hO:∀ k,O k→k<w.heap.size):Sep w no O w (rl []):=⟨Keeps.refl _ _,fun k hk=>⟨hO k hk,id⟩,fun i=>by cases i <;> trivial,fun i k h=>(by cases i <;> cases h),fun i j k h=>by cases i <;> cases h⟩
theorem Sep.blt(h:Sep w0 S O w L):∀ k,Bl O L k→k<w.heap.size:=fun k hk=>by
  rcases hk with hk | ⟨i,hi⟩
  · exact Nat.lt_of_lt_of_le (h.lt k hk).1 h.pure.size
  · exact ((h.ok i).lt hi).2
theorem Sep.step(h:Sep w0 S O w L){T:Nat→Prop}(hK:Keeps T w w')(hS:∀ k,k<w.heap.size→T k→∃ i,(L i).has k)
    (hb:∀ j k,(L' j).has k→(∃ i,(L i).has k)∨w.heap.size≤k) (hok:∀ j,(∃ i,L' j=L i∧∀ k,(L i).has k→¬T k)∨(L' j).ok 0 (Bl O L') w')
    (nd:∀ i j k,(L' i).has k→(L' j).has k→i=j):Sep w0 S O w' L':=by
  refine ⟨⟨hK.os.trans h.pure.os,hK.tape.trans h.pure.tape,hK.output.trans h.pure.output,Nat.le_trans h.pure.size hK.size,fun k hk hn=>?_⟩,h.lt,fun j=>?_,fun j k hk=>?_,nd⟩
  · have hk2:=Nat.lt_of_lt_of_le hk h.pure.size
    refine (hK.block k hk2 fun hs=>?_).trans (h.pure.block k hk hn)
    obtain ⟨i,hi⟩:=hS k hk2 hs
    rcases h.bd i k hi with q | q
    · omega
    · exact hn q
  · rcases hok j with ⟨i,e,hi⟩ | hj
    · rw [e]
      refine (h.ok i).keep hK hi (fun k hk hs => .inr (hS k hk hs)) fun k hk hO=>?_
      rcases hO with hO | ⟨j',hj'⟩
      · exact .inl hO
      · rcases hb j' k hj' with q | q
        · exact .inr q
        · omega
    · exact hj
  · rcases hb j k hk with ⟨i,q⟩ | q
    · exact h.bd i k q
    · exact .inl (Nat.le_trans h.pure.size q)
theorem Sep.pur(h:Sep w0 S O w L)(hK:Pure w w'):Sep w0 S O w' L :=
  h.step (T:=no) hK (fun _ _ h=>h.elim) (fun j k hk => .inl ⟨j,hk⟩) (fun j => .inl ⟨j,rfl,fun _ _=>id⟩) h.nd
theorem Sep.drew(h:Sep w0 S O w L):Sep w0 S O w.drew L:=h.pur (Keeps.refl _ _).drew
theorem Sep.upd(h:Sep w0 S O w L)(i:Nat)(r':Res){T:Nat→Prop}(hK:Keeps T w w')(hS:∀ k,k<w.heap.size→T k→(L i).has k)(hb:∀ k,r'.has k→(L i).has k∨w.heap.size≤k)
    (hok:r'.ok 0 (Bl O (stl L i r')) w'):Sep w0 S O w' (stl L i r'):=by
  refine h.step hK (fun k hk hs=>⟨i,hS k hk hs⟩) (fun j k hk=>?_) (fun j=>?_) (fun a b k ha hb'=>?_)
  · by_cases e:j=i
    · subst e
      rw [yaS] at hk
      rcases hb k hk with q | q
      · exact .inl ⟨j,q⟩
      · exact .inr q
    · rw [yaJ _ _ e] at hk;exact .inl ⟨j,hk⟩
  · by_cases e:j=i
    · subst e;rw [yaS];exact .inr hok
    · rw [yaJ _ _ e]
      refine .inl ⟨j,rfl,fun k hk hs=>?_⟩
      have:=hS k ((h.ok j).lt hk).2 hs
      exact e (h.nd j i k hk this)
  · have key:∀ a b,a≠i→b=i→(stl L i r' a).has k→(stl L i r' b).has k→False:=fun a b h1 h2 ha hb'=>by
      subst h2
      rw [yaJ _ _ h1] at ha
      rw [yaS] at hb'
      rcases hb k hb' with q | q
      · exact h1 (h.nd _ _ k ha q)
      · have:=((h.ok a).lt ha).2;omega
    by_cases e1:a=i
    · by_cases e2:b=i
      · omega
      · exact (key b a e2 e1 hb' ha).elim
    · by_cases e2:b=i
      · exact (key a b e1 e2 ha hb').elim
      · rw [yaJ _ _ e1] at ha;rw [yaJ _ _ e2] at hb';exact h.nd _ _ k ha hb'
theorem Sep.add(h:Sep w0 S O w L)(i:Nat)(hi:L i = .gone)(r':Res)(hK:Pure w w')(hb:∀ k,r'.has k→w.heap.size≤k)(hok:r'.ok 0 (Bl O (stl L i r')) w'):Sep w0 S O w' (stl L i r') :=
  h.upd i r' (T:=no) hK (fun _ _ h=>h.elim) (fun k hk => .inr (hb k hk)) hok
theorem Bl.add_ro{i:Nat}(hi:L i = .gone){r:Res}(hr:r.free):∀ k,Bl O (stl L i r) k→Bl O L k:=by
  rintro k (h | ⟨j,hj⟩)
  · exact .inl h
  · by_cases e:j=i
    · subst e;rw [yaS] at hj;exact absurd hj (hr.out k)
    · rw [yaJ _ _ e] at hj;exact .inr ⟨j,hj⟩
theorem Bl.sub_ro{i:Nat}{r:Res}(hr:∀ k,r.has k→(L i).has k):∀ k,Bl O (stl L i r) k→Bl O L k:=by
  rintro k (h | ⟨j,hj⟩)
  · exact .inl h
  · by_cases e:j=i
    · subst e;rw [yaS] at hj;exact .inr ⟨j,hr k hj⟩
    · rw [yaJ _ _ e] at hj;exact .inr ⟨j,hj⟩
theorem Sep.addro(h:Sep w0 S O w L)(i:Nat)(hi:L i = .gone)(Φ:FP)(hp:Φ.P (Bl O L) w):Sep w0 S O w (stl L i (.ro Φ)) :=
  h.add i hi _ (Keeps.refl _ _) (fun k hk=>by cases hk) (Φ.sub hp fun k _ hk=>Bl.add_ro hi rfl k hk)
theorem Sep.sel(h:Sep w0 S O w L)(js:List Nat)(hj:js.Nodup:=by decide):Sep w0 S O w (rl (js.map L)):=by
  have hrl:∀ (js:List Nat) (i:Nat),rl (js.map L) i=match js[i]? with | some j=>L j | none => .gone:=by
    intro js
    induction js with
    | nil=>intro i;cases i <;> rfl
    | cons a t ih => intro i; cases i with
                     | zero=>rfl
                     | succ i=>rw [List.map_cons,rl,ih i];simp
  refine h.step (T:=no) (Keeps.refl _ _) (fun _ _ h=>h.elim) (fun i k hk=>?_) (fun i=>?_) (fun a b k ha hb=>?_)
  · rw [hrl] at hk
    cases hq:js[i]? with
    | none=>rw [hq] at hk;cases hk
    | some j=>rw [hq] at hk;exact .inl ⟨j,hk⟩
  · rw [hrl]
    cases hq:js[i]? with
    | none=>exact .inr trivial
    | some j=>exact .inl ⟨j,rfl,fun _ _=>id⟩
  · rw [hrl] at ha hb
    cases hq:js[a]? with
    | none=>rw [hq] at ha;cases ha
    | some x =>
      cases hq2:js[b]? with
      | none=>rw [hq2] at hb;cases hb
      | some y =>
        rw [hq] at ha;rw [hq2] at hb
        have e:=h.nd x y k ha hb
        subst e
        have h1:=List.getElem?_eq_some_iff.1 hq
        have h2:=List.getElem?_eq_some_iff.1 hq2
        obtain ⟨l1,e1⟩:=h1
        obtain ⟨l2,e2⟩:=h2
        exact (List.getElem_inj hj).1 (e1.trans e2.symm)
theorem Sep.frz{τ:Type}(h:Sep w0 S O w L)(i:Nat){c:Cod τ}{e:TypeId}{A:Option Addr}{l cap:Nat}{xs:List τ}(hi:L i = .own c e A l cap xs):Sep w0 S O w (stl L i (.ro (FP.sl c A l cap xs))):=by
  have ho:OwnC c 0 (Bl O L) w e A l cap xs:=by have:=h.ok i;rw [hi] at this;exact this
  have hs:=Bl.sub_ro (L:=L) (O:=O) (i:=i) (r := .ro (FP.sl c A l cap xs)) (fun k hk=>by cases hk)
  refine h.upd i _ (T:=no) (Keeps.refl _ _) (fun _ _ h=>h.elim) (fun k hk=>by cases hk) (ho.rd (fun k _ hk=>hs k hk) fun k hk hk2=>?_)
  rcases hk2 with q | ⟨j,q⟩
  · have h1:=h.lt k q
    rcases h.bd i k (by rw [hi];exact hk) with h2 | h2
    · omega
    · exact h1.2 h2
  · by_cases e:j=i
    · subst e;rw [yaS] at q;cases q
    · rw [yaJ _ _ e] at q
      exact e (h.nd j i k q (by rw [hi];exact hk))
theorem Sep.own{τ:Type}(h:Sep w0 S O w L)(i:Nat){c:Cod τ}{e:TypeId}{A:Option Addr}{l cap:Nat}{xs:List τ}(hi:L i = .own c e A l cap xs):OwnC c 0 (Bl O L) w e A l cap xs:=by
  have:=h.ok i;rw [hi] at this;exact this
theorem Sep.ro(h:Sep w0 S O w L)(i:Nat){Φ:FP}(hi:L i = .ro Φ):Φ.P (Bl O L) w:=by
  have:=h.ok i;rw [hi] at this;exact this
theorem Sep.bx(h:Sep w0 S O w L)(i:Nat){e:TypeId}{g:Nat}{cells:List Value}(hi:L i = .box e g cells):Row w g e cells.length cells:=by
  have:=h.ok i;rw [hi] at this;exact this.2
theorem Sep.rdo{τ:Type}(h:Sep w0 S O w L)(i:Nat){c:Cod τ}{e:TypeId}{A:Option Addr}{l cap:Nat}{xs:List τ}(hi:L i = .own c e A l cap xs):(FP.sl c A l cap xs).P no w :=
  (h.own i hi).rd (fun _ _ h=>h.elim) fun _ _=>id
theorem Sep.rdr{τ:Type}(h:Sep w0 S O w L)(i:Nat){c:Cod τ}{A:Option Addr}{l cap:Nat}{xs:List τ}(hi:L i = .ro (FP.sl c A l cap xs)):(FP.sl c A l cap xs).P no w :=
  (FP.sl c A l cap xs).sub (h.ro i hi) fun _ _ h=>h.elim
end
section
variable {τ : Type} {c : Cod τ} {O : Nat → Prop} {w : World} {A : Option Addr} {l cap : Nat} {xs : List τ}
theorem yaD(h:(FP.sl c A l cap xs).P O w):l=xs.length:=h.1
theorem yaK(h:(FP.sl c A l cap xs).P O w){i:Int}(hx:0≤i∧i<(xs.length:Int)):Ix A l i:=by
  obtain ⟨h1,h2,h3⟩:=h
  obtain ⟨b,off,rfl,_⟩:=h3 (by omega)
  exact ⟨rfl,hx.1,by omega⟩
theorem yf0(g o:Nat)(i:Int)(sz:Nat):ixA (some ⟨g,o,none⟩) i sz=⟨g,o+i.toNat*sz,none⟩:=by simp [ixA,Addr.add_mid]
theorem yeB(h:(FP.sl c A l cap xs).P O w){i:Int}(hx:0≤i∧i<(xs.length:Int)){x:τ}(he:i.toNat<xs.length→xs[i.toNat]? = some x):∃ vs,c.R O w vs x∧¬O (ixA A i c.sz).block∧∀ (j:Nat) u,vs[j]? = some u→w.cell? ((ixA A i c.sz).add j)=some u:=by
  obtain ⟨h1,h2,h3⟩:=h
  obtain ⟨b,off,rfl,hb,ho,hc⟩:=h3 (by omega)
  obtain ⟨vs,hv,hu⟩:=hc _ _ (he (by omega))
  rw [yf0]
  exact ⟨vs,hv,ho,fun j u hj=>by rw [Addr.add_mid];exact hu j u hj⟩
theorem rd_f{f:Fl τ}(h:(FP.sl f.cod A l cap xs).P O w){i:Int}(hx:0≤i∧i<(xs.length:Int)){x:τ}(he:i.toNat<xs.length→xs[i.toNat]? = some x)(j:Nat){u:Value}(hj:(f.enc x)[j]? = some u):w.cell? ((ixA A i f.sz).add j)=some u:=by
  obtain ⟨vs,hv,ho,hu⟩:=yeB h hx he
  have hv:vs=f.enc x:=hv
  subst hv
  exact hu j u hj
theorem rd_1{f:Fl τ}(h:(FP.sl f.cod A l cap xs).P O w){i:Int}(hx:0≤i∧i<(xs.length:Int)){x:τ}(he:i.toNat<xs.length→xs[i.toNat]? = some x){u:Value}(hj:(f.enc x)[0]? = some u):w.cell? (ixA A i f.sz)=some u:=rd_f h hx he 0 hj
theorem ygm{f:Fl τ}(h:(FP.sl f.cod A l cap xs).P O w){i:Int}(hx:0≤i∧i<(xs.length:Int)){x:τ}(he:i.toNat<xs.length→xs[i.toNat]? = some x):ygE w (ixA A i f.sz) 0 (f.enc x):=by
  have H:∀ (vs pre:List Value),f.enc x=pre++vs→ygE w (ixA A i f.sz) pre.length vs:=by
    intro vs
    induction vs with
    | nil=>intro pre _;trivial
    | cons v t ih =>
      intro pre hp
      refine ⟨rd_f h hx he _ (by rw [hp];simp),?_⟩
      have:=ih (pre++[v]) (by rw [hp];simp)
      simpa using this
  exact H _ [] rfl
theorem rd_l{c:Cod τ}{xs:List (List τ)}(h:(FP.sl (cL c) A l cap xs).P O w){i:Int}(hx:0≤i∧i<(xs.length:Int)){x:List τ}(he:i.toNat<xs.length→xs[i.toNat]? = some x) :
    ∃ A' l' cap',w.cell? (ixA A i 1)=some (.slice A' l' cap')∧(FP.sl c A' l' cap' x).P O w∧¬O (ixA A i 1).block:=by
  obtain ⟨vs,⟨A',l',cap',rfl,h1,h2,h3⟩,ho,hu⟩:=yeB h hx he
  exact ⟨A',l',cap',hu 0 _ rfl,⟨h1,h2,h3⟩,ho⟩
end
theorem yaQ{l:List Int}{k:Nat}(h:k<l.length):l[k]? = some (gi l k):=by rw [yba h];exact List.getElem?_eq_getElem h
theorem gb_some{l:List Bool}{k:Nat}(h:k<l.length):l[k]? = some (gb l k):=by rw [yeU h];exact List.getElem?_eq_getElem h
theorem ydJ{l:List E3}{k:Nat}(h:k<l.length):l[k]? = some (ge l k):=by rw [yfn h];exact List.getElem?_eq_getElem h
def gx{τ:Type} [Inhabited τ](l:List τ)(k:Nat):τ:=l.getD k default
theorem ybx{τ:Type} [Inhabited τ]{l:List τ}{k:Nat}(h:k<l.length):gx l k=l[k]:=by simp [gx,h]
theorem yaY{τ:Type} [Inhabited τ]{l:List τ}{k:Nat}(h:k<l.length):l[k]? = some (gx l k):=by rw [ybx h];exact List.getElem?_eq_getElem h
section
variable {w0 w w' : World} {S O : Nat → Prop} {L : Hold}
theorem Sep.new(h:Sep w0 S O w L)(i:Nat)(hi:L i = .gone){g:Nat}{cs:Array Value}{e:TypeId}(hN:New w g w' cs e):Sep w0 S O w' (stl L i (.box e g cs.toList)) :=
  h.add i hi _ (hN.keeps _) (fun k hk=>by cases hk;rw [hN.at_];exact Nat.le_refl _) ⟨Nat.zero_le _,by simpa using hN.row⟩
theorem New.ownS{g:Nat}{cs:Array Value}{e:TypeId}(hN:New w g w' cs e){B n sz:Nat}(hB:B≤w.heap.size)(hs:cs.size=n*sz)(hn:n≤maxLen):OwnS w' B e sz (some ⟨g,0,none⟩) n n cs.toList:=by
  obtain ⟨rfl,rfl⟩:=hN
  refine ⟨by simpa using hs, .inr ⟨_,0,cs,rfl,hB,heap_alloc_new w _,Nat.le_refl _,hn,by omega,?_⟩⟩
  rw [List.drop_zero,List.take_of_length_le (by simp [hs])]
def El{τ:Type}(c:Cod τ)(O:Nat→Prop)(w:World):List Value→List τ→Prop
  | cells,[]=>cells=[]
  | cells,x::t=>∃ vs rest,cells=vs++rest∧c.R O w vs x∧El c O w rest t
theorem El.len{τ:Type}{c:Cod τ}{O:Nat→Prop}{w:World} : ∀ {xs:List τ} {cells:List Value},El c O w cells xs→cells.length=xs.length*c.sz
  | [],_,h=>by rw [h];simp
  | x::t,_,⟨vs,rest,e,hR,ht⟩=>by rw [e,List.length_append,c.len hR,ht.len,List.length_cons,Nat.add_mul];omega
theorem El.at_ {τ:Type}{c:Cod τ}{O:Nat→Prop}{w:World} : ∀ {xs:List τ} {cells:List Value},El c O w cells xs→∀ (k:Nat) x,xs[k]? = some x→∃ vs,c.R O w vs x∧∀ (j:Nat) u,vs[j]? = some u→cells[k*c.sz+j]? = some u
  | [],_,_,k,x,hx=>by simp at hx
  | y::t,_,⟨vs,rest,e,hR,ht⟩,0,x,hx=>by
    simp at hx;subst hx
    refine ⟨vs,hR,fun j u hj=>?_⟩
    rw [e,Nat.zero_mul,Nat.zero_add,List.getElem?_append_left (List.getElem?_eq_some_iff.1 hj).1];exact hj
  | y::t,_,⟨vs,rest,e,hR,ht⟩,k+1,x,hx=>by
    obtain ⟨vs',h1,h2⟩:=ht.at_ k x (by simpa using hx)
    refine ⟨vs',h1,fun j u hj=>?_⟩
    have:=h2 j u hj
    have hl:=c.len hR
    rw [e,List.getElem?_append_right (by rw [hl,Nat.add_mul];omega),hl,Nat.add_mul]
    rw [show k*c.sz+1*c.sz+j-c.sz=k*c.sz+j by omega];exact this
theorem El.keep{τ:Type}{c:Cod τ}{O O':Nat→Prop}{w w':World}(hK:∀ vs x,c.R O w vs x→c.R O' w' vs x):∀ {xs:List τ} {cells:List Value},El c O w cells xs→El c O' w' cells xs
  | [],_,h=>h
  | x::t,_,⟨vs,rest,e,hR,ht⟩=>⟨vs,rest,e,hK _ _ hR,El.keep hK ht⟩
theorem El.flat{τ:Type}(f:Fl τ)(O:Nat→Prop)(w:World):∀ (xs:List τ),El f.cod O w (xs.flatMap f.enc) xs
  | []=>rfl
  | x::t=>⟨f.enc x,t.flatMap f.enc,rfl,rfl,El.flat f O w t⟩
theorem Sep.lit{τ:Type}(h:Sep w0 S O w L)(i:Nat)(hi:L i = .gone){c:Cod τ}{g:Nat}{cs:Array Value}{e:TypeId}(hN:New w g w' cs e)(xs:List τ){n:Nat}(hn:n=xs.length)(hm:n≤1000000)(hE:El c (Bl O L) w cs.toList xs):Sep w0 S O w' (stl L i (.own c e (some ⟨g,0,none⟩) n n xs)):=by
  have ht:∀ k,Bl O (stl L i (.own c e (some ⟨g,0,none⟩) n n xs)) k→k<w.heap.size→Bl O L k:=by
    rintro k (q | ⟨j,hj⟩) hk
    · exact .inl q
    · by_cases e:j=i
      · subst e;rw [yaS] at hj;cases hj;rw [hN.at_] at hk;exact absurd hk (Nat.lt_irrefl _)
      · rw [yaJ _ _ e] at hj;exact .inr ⟨j,hj⟩
  refine h.add i hi _ (hN.keeps _) (fun k hk=>by cases hk;rw [hN.at_];exact Nat.le_refl _) ⟨hn,cs.toList,hN.ownS (Nat.zero_le _) ?_ (by unfold maxLen;omega),?_⟩
  · have:=hE.len;rw [hn];simpa using this
  · refine (El.keep (fun vs x hR=>?_) hE).at_
    exact c.keep (c.sub hR fun k hk hb=>ht k hb hk) (hN.keeps _)
theorem Sep.litf{τ:Type}(h:Sep w0 S O w L)(i:Nat)(hi:L i = .gone)(f:Fl τ){g:Nat}{cs:Array Value}{e:TypeId}(hN:New w g w' cs e)(xs:List τ){n:Nat}(hn:n=xs.length)(hm:n≤1000000)(hE:cs.toList=xs.flatMap f.enc):Sep w0 S O w' (stl L i (.own f.cod e (some ⟨g,0,none⟩) n n xs)) :=
  h.lit i hi hN xs hn hm (by rw [hE];exact El.flat f _ _ _)
theorem Sep.made{τ:Type}(h:Sep w0 S O w L)(i:Nat)(hi:L i = .gone)(c:Cod τ)(z:Value)(x:τ)(hz:∀ O w,c.R O w [z] x){g n:Nat}{e:TypeId}(hN:New w g w' (Array.replicate n z) e)(hm:n≤1000000):Sep w0 S O w' (stl L i (.own c e (some ⟨g,0,none⟩) n n (List.replicate n x))):=by
  refine h.lit i hi hN _ (by simp) hm ?_
  have H:∀ n,El c (Bl O L) w (List.replicate n z) (List.replicate n x):=fun n=>by
    induction n with
    | zero=>rfl
    | succ n ih=>exact ⟨[z],List.replicate n z,rfl,hz _ _,ih⟩
  simpa using H n
theorem Sep.nil{τ:Type}(h:Sep w0 S O w L)(i:Nat)(hi:L i = .gone)(c:Cod τ)(e:TypeId):Sep w0 S O w (stl L i (.own c e none 0 0 [])) :=
  h.add i hi _ (Keeps.refl _ _) (fun k hk=>by cases hk) (OwnC.nil c _ _ _ e)
theorem Sep.wr{τ:Type}(h:Sep w0 S O w L)(i:Nat){c:Cod τ}{e:TypeId}{A:Option Addr}{l cap:Nat}{xs:List τ}(hi:L i = .own c e A l cap xs)(hc:c.sz=1){k:Int}(hx:0≤k∧k<(xs.length:Int)):Wr w (ixA A k 1):=by
  obtain ⟨hl,cells,ho,hE⟩:=h.own i hi
  obtain ⟨vs,hR,hu⟩:=hE k.toNat xs[k.toNat] (List.getElem?_eq_getElem (by omega))
  have hv:=c.len hR
  obtain ⟨v,rfl⟩:=List.length_eq_one_iff.1 (hv.trans hc)
  obtain ⟨g,o,rfl,_,h1,h2⟩:=ho.cellAt (hu 0 v rfl)
  rw [yf0]
  rw [hc,Nat.add_zero] at h1 h2
  exact ⟨by rw [h1];rfl,h2⟩
theorem Sep.st{τ:Type}(h:Sep w0 S O w L)(i:Nat){c:Cod τ}{e:TypeId}{A:Option Addr}{l cap:Nat}{xs:List τ}(hi:L i = .own c e A l cap xs)(hc:c.sz=1){k:Int}(hx:0≤k∧k<(xs.length:Int)){v:Value}{x:τ}(hR:c.R (Bl O L) w [v] x)(e1:w'=w.setCell (ixA A k 1) v):Sep w0 S O w' (stl L i (.own c e A l cap (xs.set k.toNat x))):=by
  obtain ⟨hl,cells,ho,hE⟩:=h.own i hi
  have hk:k.toNat<xs.length:=by omega
  have hcl:cells.length=xs.length:=by rw [ho.1,hc,hl];omega
  obtain ⟨g,o,rfl,hg,h1,h2⟩:=ho.cellAt (i:=k.toNat) (List.getElem?_eq_getElem (by omega))
  rw [yf0,Nat.mul_one] at e1
  have hblk:(L i).has g:=by rw [hi];rfl
  have hK:Keeps (fun j=>j=g) w w':=by rw [e1];exact (Keeps.refl (fun j=>j=g) w).setCell (p:=⟨g,o+k.toNat,none⟩) (fun _=>rfl) v
  have hbl:∀ j,Bl O (stl L i (.own c e (some ⟨g,o,none⟩) l cap (xs.set k.toNat x))) j→Bl O L j:=Bl.sub_ro fun j hj=>by rw [hi];exact hj
  have hKB:Keeps (Bl O L) w w':=hK.mono fun j _ hj => .inr ⟨i,by rw [hj];exact hblk⟩
  refine h.upd i _ hK (fun j _ hj=>by rw [hj];exact hblk) (fun j hj => .inl (by rw [hi];exact hj)) ⟨by rw [List.length_set];exact hl,cells.set k.toNat v,by rw [e1];exact ho.set1 (by omega) v rfl,fun j y hy=>?_⟩
  rw [List.getElem?_set] at hy
  by_cases q:k.toNat=j
  · subst q
    rw [if_pos rfl,if_pos hk] at hy
    cases hy
    refine ⟨[v],c.sub (c.keep hR hKB) fun j _ hj=>hbl j hj,fun t u ht=>?_⟩
    have ht0:t=0:=by
      have:=(List.getElem?_eq_some_iff.1 ht).1
      simp at this;exact this
    subst ht0
    simp at ht
    subst ht
    rw [hc,Nat.mul_one,Nat.add_zero,List.getElem?_set,if_pos rfl,if_pos (by omega)]
  · rw [if_neg q] at hy
    obtain ⟨vs,hR',hu⟩:=hE j y hy
    refine ⟨vs,c.sub (c.keep hR' hKB) fun j _ hj=>hbl j hj,fun t u ht=>?_⟩
    have ht0:t=0:=by
      have:=(List.getElem?_eq_some_iff.1 ht).1
      rw [c.len hR',hc] at this;omega
    have:=hu t u ht
    rw [List.getElem?_set,if_neg (by rw [hc,ht0];omega)]
    exact this
theorem Sep.bwr(h:Sep w0 S O w L)(i:Nat){e:TypeId}{g:Nat}{cells:List Value}(hi:L i = .box e g cells){j:Nat}{v:Value}(hv:cells[j]? = some v):Wr w ((⟨g,0,none⟩:Addr).add j):=wr_row (h.bx i hi) hv
theorem Sep.bst(h:Sep w0 S O w L)(i:Nat){e:TypeId}{g:Nat}{cells:List Value}(hi:L i = .box e g cells)(j:Nat)(v:Value)(e1:w'=w.setCell ((⟨g,0,none⟩:Addr).add j) v):Sep w0 S O w' (stl L i (.box e g (cells.set j v))):=by
  have hr:=h.bx i hi
  have hb:=(h.ok i).lt (k:=g) (by rw [hi])
  have e2:(⟨g,0,none⟩:Addr).add j=⟨g,j,none⟩:=by rw [Addr.add_mid,Nat.zero_add]
  refine h.upd i _ (T:=fun k=>k=g) (by rw [e1,e2];exact (Keeps.refl (fun j=>j=g) w).setCell (p:=⟨g,j,none⟩) (fun _=>rfl) v) (fun k _ hk=>by rw [hi,hk]) (fun k hk => .inl (by rw [hi];exact hk)) ⟨hb.1,?_⟩
  rw [List.length_set,e1,e2];exact hr.set_ j v
theorem Sep.bstn(h:Sep w0 S O w L)(i:Nat){e:TypeId}{g:Nat}{cells:List Value}(hi:L i = .box e g cells)(j:Nat)(vs:List Value)(e1:w'=w.setCells g j vs):Sep w0 S O w' (stl L i (.box e g (setL cells j vs))):=by
  have hr:=h.bx i hi
  have hb:=(h.ok i).lt (k:=g) (by rw [hi])
  have hK:∀ (vs:List Value) (o:Nat) {a w:World},Keeps (fun k=>k=g) a w→Keeps (fun k=>k=g) a (w.setCells g o vs):=by
    intro vs
    induction vs with
    | nil=>intro o a w h;exact h
    | cons v t ih=>intro o a w h;exact ih (o+1) (h.setCell (p:=⟨g,o,none⟩) (fun _=>rfl) v)
  refine h.upd i _ (T:=fun k=>k=g) (by rw [e1];exact hK _ _ (Keeps.refl _ _)) (fun k _ hk=>by rw [hi,hk]) (fun k hk => .inl (by rw [hi];exact hk)) ⟨hb.1,?_⟩
  rw [setL_length_,e1];exact row_setn vs j hr
where setL_length_ : ∀ {vs : List Value} {o : Nat} {xs : List Value}, (setL xs o vs).length = xs.length := by
        intro vs
        induction vs with
        | nil=>intro o xs;rfl
        | cons v t ih=>intro o xs;rw [setL,ih,List.length_set]
end
end Go.Proofs.YtjepipbkiadcpaaGreat

/- Memory out of sight, more: append, calls, slices of slices, elements that are slices, functions as values. No program in sight. -/
namespace Go.Proofs.YtjepipbkiadcpaaGreat
open Go Go.RowKit Go.Shelf Go.Proofs.Tryz
def Yl{τ:Type}(c:Cod τ)(O:Nat→Prop)(w:World)(C:Option Addr)(m:Nat)(ys:List τ):Prop :=
  m=ys.length∧(0<m→∃ b off,C=some ⟨b,off,none⟩∧b<w.heap.size∧∀ (k:Nat) x,ys[k]? = some x→∃ vs,c.R O w vs x∧∀ (j:Nat) u,vs[j]? = some u→w.cell? ⟨b,off+k*c.sz+j,none⟩=some u)
theorem Yl.nil{τ:Type}(c:Cod τ)(O:Nat→Prop)(w:World)(C:Option Addr):Yl c O w C 0 []:=⟨rfl,fun h=>absurd h (by omega)⟩
section
variable {w0 w w' : World} {S O : Nat → Prop} {L : Hold}
theorem Sep.yr{τ:Type}(h:Sep w0 S O w L)(i:Nat){c:Cod τ}{A:Option Addr}{l cap:Nat}{xs:List τ}(hi:L i = .ro (FP.sl c A l cap xs)):Yl c (Bl O L) w A l xs:=by
  obtain ⟨h1,h2,h3⟩:=h.ro i hi
  refine ⟨h1,fun h0=>?_⟩
  obtain ⟨b,off,e,hb,ho,hc⟩:=h3 (by omega)
  exact ⟨b,off,e,hb,hc⟩
theorem Sep.yo{τ:Type}(h:Sep w0 S O w L)(i:Nat){c:Cod τ}{e:TypeId}{A:Option Addr}{l cap:Nat}{xs:List τ}(hi:L i = .own c e A l cap xs):Yl c (Bl O L) w A l xs:=by
  obtain ⟨hl,cells,ho,hE⟩:=h.own i hi
  refine ⟨hl,fun h0=>?_⟩
  rcases ho.2 with ⟨rfl,rfl,rfl⟩ | ⟨g,o,cur,rfl,hb,hg,q⟩
  · omega
  · refine ⟨g,o,rfl,(Array.getElem?_eq_some_iff.1 hg).1,fun k x hx=>?_⟩
    obtain ⟨vs,h1,h2⟩:=hE k x hx
    refine ⟨vs,h1,fun j u hj=>?_⟩
    obtain ⟨g',o',e',_,hc,_⟩:=ho.cellAt (h2 j u hj)
    cases e'
    rw [Nat.add_assoc];exact hc
theorem Yl.cells{τ:Type}{c:Cod τ}{C:Option Addr}{m:Nat}{ys:List τ}(h:Yl c O w C m ys)(hm:0<m) :
    ∃ (a:Addr) (news:List Value),C=some a∧news.length=m*c.sz∧(∀ j u,news[j]? = some u→w.cell? (a.add j)=some u)∧(∀ u∈news,u.oneCell'=true)∧∀ (k:Nat) x,ys[k]? = some x→∃ vs,c.R O w vs x∧∀ (j:Nat) u,vs[j]? = some u→news[k*c.sz+j]? = some u:=by
  obtain ⟨hl,hc⟩:=h
  obtain ⟨b,off,rfl,_,hc⟩:=hc hm
  have H:∀ (ys:List τ) (off:Nat),(∀ (k:Nat) x,ys[k]? = some x→∃ vs,c.R O w vs x∧∀ (j:Nat) u,vs[j]? = some u→w.cell? ⟨b,off+k*c.sz+j,none⟩=some u) →
      ∃ news:List Value,El c O w news ys∧(∀ j u,news[j]? = some u→w.cell? ⟨b,off+j,none⟩=some u)∧∀ u∈news,u.oneCell'=true:=by
    intro ys
    induction ys with
    | nil=>intro off _;exact ⟨[],rfl,fun j u hj=>by simp at hj,fun u hu=>by simp at hu⟩
    | cons y t ih =>
      intro off h
      obtain ⟨vs,hR,hu⟩:=h 0 y rfl
      obtain ⟨rest,h1,h2,h3⟩:=ih (off+c.sz) (fun k x hx=>by
        obtain ⟨vs',hR',hu'⟩:=h (k+1) x (by simpa using hx)
        refine ⟨vs',hR',fun j u hj=>?_⟩
        have:=hu' j u hj
        rw [Nat.add_mul,Nat.one_mul] at this
        rw [show off+c.sz+k*c.sz+j=off+(k*c.sz+c.sz)+j by omega];exact this)
      refine ⟨vs++rest,⟨vs,rest,rfl,hR,h1⟩,fun j u hj=>?_,fun u hm=>?_⟩
      · rcases Nat.lt_or_ge j vs.length with q | q
        · rw [List.getElem?_append_left q] at hj
          have:=hu j u hj
          rw [Nat.zero_mul,Nat.add_zero] at this;exact this
        · rw [List.getElem?_append_right q] at hj
          have:=h2 _ u hj
          rw [c.len hR] at this q
          rw [show off+c.sz+(j-c.sz)=off+j by omega] at this;exact this
      · rcases List.mem_append.1 hm with q | q
        · exact c.one hR u q
        · exact h3 u q
  obtain ⟨news,h1,h2,h3⟩:=H ys off hc
  exact ⟨_,news,rfl,by rw [hl];exact h1.len,fun j u hj=>by rw [Addr.add_mid];exact h2 j u hj,h3,h1.at_⟩
theorem Sep.app{τ:Type}(h:Sep w0 S O w L)(i:Nat){c:Cod τ}{e:TypeId}{A:Option Addr}{l cap:Nat}{xs:List τ}(hi:L i = .own c e A l cap xs){ys:List τ}{m:Nat}(hm:m=ys.length){cells news:List Value}
    (hE:∀ (k:Nat) x,xs[k]? = some x→∃ vs,c.R (Bl O L) w vs x∧∀ (j:Nat) u,vs[j]? = some u→cells[k*c.sz+j]? = some u) (hY:∀ (k:Nat) x,ys[k]? = some x→∃ vs,c.R (Bl O L) w vs x∧∀ (j:Nat) u,vs[j]? = some u→news[k*c.sz+j]? = some u)
    (hl:l=xs.length) (hcl:cells.length=l*c.sz) {A':Option Addr} {cap':Nat} (ho:OwnS w' 0 e c.sz A' (l+m) cap' (cells++news)) (hg:w.grownBy w' (A.map (·.block))) (hb:A'.map (·.block)=A.map (·.block)∨A'.map (·.block)=some w.heap.size) :
    Sep w0 S O w' (stl L i (.own c e A' (l+m) cap' (xs++ys))):=by
  have hblk:∀ k,(L i).has k=(A.map (·.block)=some k):=fun k=>by rw [hi]
  have hK:Keeps (fun k=>A.map (·.block)=some k) w w':=⟨hg.os,hg.tape,hg.output,hg.size,fun k hk hn=>hg.block k hk fun q=>hn q.symm⟩
  have hKB:Keeps (Bl O L) w w':=hK.mono fun k _ hk => .inr ⟨i,by rw [hblk];exact hk⟩
  have hbl:∀ k,k<w.heap.size→Bl O (stl L i (.own c e A' (l+m) cap' (xs++ys))) k→Bl O L k:=by
    rintro k hk (q | ⟨j,hj⟩)
    · exact .inl q
    · by_cases e:j=i
      · subst e
        rw [yaS] at hj
        have hj:A'.map (·.block)=some k:=hj
        rcases hb with q | q
        · exact .inr ⟨j,by rw [hblk,←q];exact hj⟩
        · rw [q] at hj;cases hj;omega
      · rw [yaJ _ _ e] at hj;exact .inr ⟨j,hj⟩
  have hmv:∀ vs x,c.R (Bl O L) w vs x→c.R (Bl O (stl L i (.own c e A' (l+m) cap' (xs++ys)))) w' vs x:=fun vs x hR=>by
    have h2:Keeps (fun k=>Bl O (stl L i (.own c e A' (l+m) cap' (xs++ys))) k∨Bl O L k) w w':=hKB.mono fun k _ hk => .inr hk
    exact c.sub (c.keep (c.sub hR fun k hk hq=>hq.elim (hbl k hk) id) h2) fun k _ hk => .inl hk
  refine h.upd i _ hK (fun k _ hk=>by rw [hblk];exact hk) (fun k hk=>?_) ⟨by rw [List.length_append,hl,hm],cells++news,ho,fun k x hx=>?_⟩
  · have hk:A'.map (·.block)=some k:=hk
    rcases hb with q | q
    · exact .inl (by rw [hblk,←q];exact hk)
    · rw [q] at hk;cases hk;exact .inr (Nat.le_refl _)
  · rcases Nat.lt_or_ge k xs.length with q | q
    · rw [List.getElem?_append_left q] at hx
      obtain ⟨vs,h1,h2⟩:=hE k x hx
      refine ⟨vs,hmv _ _ h1,fun j u hj=>?_⟩
      have:=h2 j u hj
      rw [List.getElem?_append_left (List.getElem?_eq_some_iff.1 this).1];exact this
    · rw [List.getElem?_append_right q] at hx
      obtain ⟨vs,h1,h2⟩:=hY _ x hx
      refine ⟨vs,hmv _ _ h1,fun j u hj=>?_⟩
      have:=h2 j u hj
      have e1:k*c.sz=(k-xs.length)*c.sz+l*c.sz:=by rw [←Nat.add_mul];congr 1;omega
      rw [List.getElem?_append_right (by rw [hcl];omega),hcl,e1]
      rw [show (k-xs.length)*c.sz+l*c.sz+j-l*c.sz=(k-xs.length)*c.sz+j by omega];exact this
section
variable {P : Program} {E : Env} {d : Option Tmp} {x y : Operand} {ty xt yt : TypeId} {ps : String} {af : Array Edge} {g : Option (Nat × Bool)} {K : Value → World → Prop}
theorem n_app0{e:TypeId}{zo:Option Value}{n b:Nat}{A C:Option Addr}{l c c':Nat}(hx:evE E x = .slice A l c)(hy:evE E y = .slice C 0 c')(hu:P.underlying xt=some (.slice e))(hu2:P.underlying yt=some (.slice e))(hi:(P.info? e).map (fun i=>(i.zero,i.size,i.bytes))=some (zo,n,b))
    (hlc:l≤c) (h:K (.slice A l c) w):ybO P ⟨d, .call ⟨.builtin .append,#[x,y],#[xt,yt]⟩,ty,ps,af,g⟩ (evE E) w K:=by
  have hf:(Builtin.firstCells n 0 (.slice C 0 c')).run P w = .ok #[] w:=by
    cases C with
    | none=>rfl
    | some a=>simp [Builtin.firstCells,loadCells,loadCellsFrom,go_sem]
  have hr:(Builtin.append_ #[xt,yt] ty #[.slice A l c, .slice C 0 c']).run P w = .ok (.slice A l c) w:=by
    cases A <;> cases C <;> simp [Builtin.append_,run_underlying hu,run_underlying hu2,ycd hi,Builtin.lenOf,hlc,Builtin.firstCells,loadCells,loadCellsFrom,storeCells,go_sem]
  unfold ybO execOp
  simp only [resolve,hx,hy,List.map_toArray,List.map_cons,List.map_nil,Sem.run_bind,Sem.run_pure,Result.andThen,invoke,builtin,hr]
  exact h
theorem yda{τ:Type}{c:Cod τ}{e:TypeId}{z:Value}{n b:Nat}{A C:Option Addr}{l cap m c':Nat}{xs ys:List τ}(hx:evE E x = .slice A l cap)(hy:evE E y = .slice C m c')(hu:P.underlying xt=some (.slice e))(hu2:P.underlying yt=some (.slice e))(hi:(P.info? e).map (fun i=>(i.zero,i.size,i.bytes))=some (some z,n+1,b))(hz:z.cells.size=n+1)
    (hn:c.sz=n+1) (hb:b≤128) (hS:Sep w0 S O w L) (i:Nat) (hL:L i = .own c e A l cap xs) (hY:Yl c (Bl O L) w C m ys) (hm:xs.length+ys.length≤1000000000)
    (h:∀ A' cap' w',Sep w0 S O w' (stl L i (.own c e A' (l+m) cap' (xs++ys)))→K (.slice A' (l+m) cap') w'):ybO P ⟨d, .call ⟨.builtin .append,#[x,y],#[xt,yt]⟩,ty,ps,af,g⟩ (evE E) w K:=by
  obtain ⟨hl,cells,ho,hE⟩:=hS.own i hL
  have hml:=hY.1
  rcases Nat.eq_zero_or_pos m with h0 | h0
  · subst h0
    refine n_app0 hx hy hu hu2 hi ho.caps ?_
    have:=h A cap w (hS.app i hL hml hE (fun k x hx=>by rw [List.length_eq_zero_iff.1 hml.symm] at hx;simp at hx) hl ho.1 (news:=[]) (by simpa using ho) ⟨rfl,rfl,rfl,Nat.le_refl _,fun _ _ _=>rfl⟩ (.inl rfl))
    exact this
  · obtain ⟨a,news,hC,hnl,hcell,h1,hN⟩:=hY.cells h0
    have hby:(l+m)*b≤140737488355328:=by
      have:(l+m)*b≤1000000000*128:=Nat.mul_le_mul (by omega) hb
      omega
    rw [hn] at ho hnl
    exact n_append2 hx hy hu hu2 hi hz ⟨_,cells,news,a,ho,hC,hnl,hcell,h1,by unfold maxLen;omega,hby,Nat.zero_le _,fun A' c'' w' ho' hg hb'=>h _ _ _ (hS.app i hL hml hE hN hl (by rw [hn];exact ho.1) (by rw [hn];exact ho') hg hb')⟩
end
theorem Res.ok.sub{B:Nat}{O O':Nat→Prop}{w:World}{r:Res}(h:r.ok B O w)(hO:∀ k,k<w.heap.size→O' k→O k):r.ok B O' w :=
  h.keep (S:=no) (Keeps.refl _ _) (fun _ _=>id) (fun _ _ h=>h.elim) hO
def pick(L Lr:Hold)(f:Nat→Option Nat):Hold:=fun j=>match f j with | none=>L j | some a=>Lr a
theorem Sep.callf{Lr:Hold}(h:Sep w0 S O w L)(hC:Sep w no (Bl O L) w' Lr)(f:Nat→Option Nat)(hf:∀ j a,f j=some a→L j = .gone)(inj:∀ i j a,f i=some a→f j=some a→i=j):Sep w0 S O w' (pick L Lr f):=by
  have hs:∀ k,Bl O (pick L Lr f) k→Bl (Bl O L) Lr k:=by
    rintro k (q | ⟨j,hj⟩)
    · exact .inl (.inl q)
    · unfold pick at hj
      cases hq:f j with
      | none=>rw [hq] at hj;exact .inl (.inr ⟨j,hj⟩)
      | some a=>rw [hq] at hj;exact .inr ⟨a,hj⟩
  have hn:∀ j,f j=none→pick L Lr f j=L j:=fun j hq=>by unfold pick;rw [hq]
  have hsm:∀ j a,f j=some a→pick L Lr f j=Lr a:=fun j a hq=>by unfold pick;rw [hq]
  refine h.step (T:=no) hC.pure (fun _ _ h=>h.elim) (fun j k hk=>?_) (fun j=>?_) (fun x y k hx hy=>?_)
  · cases hq:f j with
    | none=>rw [hn j hq] at hk;exact .inl ⟨j,hk⟩
    | some a=>rw [hsm j a hq] at hk;exact .inr ((hC.bd a k hk).elim id fun q=>q.elim)
  · cases hq:f j with
    | none=>exact .inl ⟨j,hn j hq,fun _ _=>id⟩
    | some a=>rw [hsm j a hq];exact .inr ((hC.ok a).sub fun k _ hk=>hs k hk)
  · cases hq:f x with
    | none =>
      rw [hn x hq] at hx
      cases hq2:f y with
      | none=>rw [hn y hq2] at hy;exact h.nd x y k hx hy
      | some a=>rw [hsm y a hq2] at hy;have h1:=((hC.bd a k hy).elim id fun q=>q.elim);have:=((h.ok x).lt hx).2;omega
    | some a =>
      rw [hsm x a hq] at hx
      cases hq2:f y with
      | none=>rw [hn y hq2] at hy;have h1:=((hC.bd a k hx).elim id fun q=>q.elim);have:=((h.ok y).lt hy).2;omega
      | some b=>rw [hsm y b hq2] at hy;have:=hC.nd a b k hx hy;subst this;exact inj x y a hq hq2
theorem Sep.call1{Lr:Hold}(h:Sep w0 S O w L)(hC:Sep w no (Bl O L) w' Lr)(i a:Nat)(hi:L i = .gone):Sep w0 S O w' (stl L i (Lr a)):=by
  have:=h.callf hC (fun j=>if j=i then some a else none) (fun j b hj=>by split at hj;(rename_i e;rw [e];exact hi);cases hj) (fun x y b hx hy=>by split at hx <;> split at hy <;> simp_all)
  have e:pick L Lr (fun j=>if j=i then some a else none)=stl L i (Lr a):=by
    funext j
    unfold pick
    by_cases q:j=i
    · subst q;rw [yaS];simp
    · rw [yaJ _ _ q];simp [q]
  rw [←e];exact this
theorem Sep.call2{Lr:Hold}(h:Sep w0 S O w L)(hC:Sep w no (Bl O L) w' Lr)(i a i2 a2:Nat)(hi:L i = .gone)(hi2:L i2 = .gone)(ha:a2≠a)(hne:i2≠i):Sep w0 S O w' (stl (stl L i (Lr a)) i2 (Lr a2)):=by
  have:=h.callf hC (fun j=>if j=i2 then some a2 else if j=i then some a else none) (fun j b hj=>by
    split at hj
    · rename_i e;rw [e];exact hi2
    · split at hj
      · rename_i e;rw [e];exact hi
      · cases hj) (fun x y b hx hy=>by
    split at hx <;> split at hy <;> (try split at hx) <;> (try split at hy) <;> simp_all
    all_goals omega)
  have e:pick L Lr (fun j=>if j=i2 then some a2 else if j=i then some a else none)=stl (stl L i (Lr a)) i2 (Lr a2):=by
    funext j
    unfold pick
    by_cases q:j=i2
    · subst q;rw [yaS];simp
    · rw [yaJ _ _ q]
      by_cases q2:j=i
      · subst q2;rw [yaS];simp [q]
      · rw [yaJ _ _ q2];simp [q,q2]
  rw [←e];exact this
theorem Sep.call3{Lr:Hold}(h:Sep w0 S O w L)(hC:Sep w no (Bl O L) w' Lr)(i:Nat)(i2:Nat)(i3:Nat)(hi:L i = .gone)(hi2:L i2 = .gone)(hi3:L i3 = .gone)(n1:i2≠i)(n2:i3≠i)(n3:i3≠i2):Sep w0 S O w' (stl (stl (stl L i (Lr 0)) i2 (Lr 1)) i3 (Lr 2)):=by
  have:=h.callf hC (fun j=>if j=i3 then some 2 else if j=i2 then some 1 else if j=i then some 0 else none) (fun j b hj=>by
    split at hj
    · rename_i e;rw [e];exact hi3
    · split at hj
      · rename_i e;rw [e];exact hi2
      · split at hj
        · rename_i e;rw [e];exact hi
        · cases hj) (fun x y b hx hy=>by
    split at hx <;> split at hy <;> (try split at hx) <;> (try split at hy) <;> (try split at hx) <;> (try split at hy) <;> simp_all
    all_goals omega)
  have e:pick L Lr (fun j=>if j=i3 then some 2 else if j=i2 then some 1 else if j=i then some 0 else none)=stl (stl (stl L i (Lr 0)) i2 (Lr 1)) i3 (Lr 2):=by
    funext j
    unfold pick
    by_cases q:j=i3
    · subst q;rw [yaS];simp
    · rw [yaJ _ _ q]
      by_cases q2:j=i2
      · subst q2;rw [yaS];simp [q]
      · rw [yaJ _ _ q2]
        by_cases q3:j=i
        · subst q3;rw [yaS];simp [q,q2]
        · rw [yaJ _ _ q3];simp [q,q2,q3]
  rw [←e];exact this
def Res.Flat(r:Res):Prop:=∀ B O O' w,r.ok B O w→r.ok B O' w
theorem yb0{τ:Type}(f:Fl τ)(e:TypeId)(A:Option Addr)(l cap:Nat)(xs:List τ):(Res.own f.cod e A l cap xs).Flat:=fun B O O' w ⟨hl,cells,ho,hE⟩=>⟨hl,cells,ho,hE⟩
theorem yfs:∀ j,(rl [] j).Flat:=fun j=>by cases j <;> exact fun _ _ _ _ _=>trivial
theorem yfd{r:Res}{t:List Res}(h:r.Flat)(ht:∀ j,(rl t j).Flat):∀ j,(rl (r::t) j).Flat
  | 0=>h
  | j+1=>ht j
theorem Sep.widen{Lr:Hold}(hC:Sep w no no w' Lr)(hf:∀ j,(Lr j).Flat){O':Nat→Prop}(hlt:∀ k,O' k→k<w.heap.size):Sep w no O' w' Lr:=⟨hC.pure,fun k hk=>⟨hlt k hk,id⟩,fun i=>hf i _ _ _ _ (hC.ok i),hC.bd,hC.nd⟩
theorem Sep.el{τ:Type}(h:Sep w0 S O w L)(i:Nat){c:Cod τ}{A:Option Addr}{l cap:Nat}{xs:List (List τ)}(hi:L i = .ro (FP.sl (cL c) A l cap xs)){k:Int}(hx:0≤k∧k<(xs.length:Int))(j j2:Nat)(hj:L j = .gone)(hj2:L j2 = .gone)(hne:j2≠j) :
    ∃ A' l' cap',w.cell? (ixA A k 1)=some (.slice A' l' cap')∧Sep w0 S O w (stl (stl L j (.ro (FP.sl c A' l' cap' (gx xs k.toNat)))) j2 (.ro (FP.cl (ixA A k 1) (.slice A' l' cap')))):=by
  obtain ⟨A',l',cap',h1,h2,h3⟩:=rd_l (h.ro i hi) hx (fun q=>yaY q)
  refine ⟨A',l',cap',h1,?_⟩
  have s1:=h.addro j hj _ h2
  exact s1.addro j2 (by rw [yaJ _ _ hne];exact hj2) _ ((FP.cl _ _).sub (O:=Bl O L) ⟨h3,h1⟩ fun k _ hk=>Bl.add_ro hj rfl k hk)
theorem Sep.elo{τ:Type}(h:Sep w0 S O w L)(i:Nat){c:Cod τ}{e:TypeId}{A:Option Addr}{l cap:Nat}{xs:List (List τ)}(hi:L i = .own (cL c) e A l cap xs){k:Int}(hx:0≤k∧k<(xs.length:Int))(j:Nat)(hj:L j = .gone) :
    ∃ A' l' cap',w.cell? (ixA A k 1)=some (.slice A' l' cap')∧Sep w0 S O w (stl L j (.ro (FP.sl c A' l' cap' (gx xs k.toNat)))):=by
  obtain ⟨hl,cells,ho,hE⟩:=h.own i hi
  obtain ⟨vs,⟨A',l',cap',rfl,q1,q2,q3⟩,hu⟩:=hE _ _ (yaY (show k.toNat<xs.length by omega))
  obtain ⟨g,o,rfl,_,h1,_⟩:=ho.cellAt (hu 0 _ rfl)
  refine ⟨A',l',cap',?_,h.addro j hj _ ⟨q1,q2,q3⟩⟩
  rw [yf0];exact h1
theorem Sep.clr(h:Sep w0 S O w L)(i:Nat){p:Addr}{v:Value}(hi:L i = .ro (FP.cl p v)):w.cell? p=some v:=(h.ro i hi).2
theorem sl_take{τ:Type}{c:Cod τ}{A:Option Addr}{l cap:Nat}{xs:List τ}(h:(FP.sl c A l cap xs).P O w){k:Int}(hk:0≤k∧k≤(xs.length:Int)):(FP.sl c A k.toNat cap (xs.take k.toNat)).P O w:=by
  obtain ⟨h1,h2,h3⟩:=h
  refine ⟨by rw [List.length_take];omega,by omega,fun h0=>?_⟩
  rw [List.length_take] at h0
  obtain ⟨b,off,rfl,hb,ho,hc⟩:=h3 (by omega)
  refine ⟨b,off,rfl,hb,ho,fun j x hx=>?_⟩
  rw [List.getElem?_take] at hx
  split at hx
  · exact hc _ x hx
  · cases hx
end
end Go.Proofs.YtjepipbkiadcpaaGreat

/- Words for walks whose shallow forms speak of what is read and owned alone (pf.py). No program in sight. -/
namespace Go.Proofs.YtjepipbkiadcpaaGreat
open Go Go.RowKit Go.Shelf Go.Proofs.Tryz
def allP(O:Nat→Prop)(w:World):List FP→Prop
  | []=>True
  | Φ::t=>Φ.P O w∧allP O w t
theorem Sep.startl{w:World}{O:Nat→Prop}(hO:∀ k,O k→k<w.heap.size)(Φs:List FP)(h:allP O w Φs):Sep w no O w (rl (Φs.map .ro)):=by
  have hr:∀ (Φs:List FP) (i:Nat),(rl (Φs.map .ro) i = .gone)∨∃ Φ,rl (Φs.map .ro) i = .ro Φ∧(allP O w Φs→Φ.P O w):=by
    intro Φs
    induction Φs with
    | nil=>intro i;cases i <;> exact .inl rfl
    | cons a t ih =>
      intro i
      cases i with
      | zero=>exact .inr ⟨a,rfl,fun h=>h.1⟩
      | succ i =>
        rcases ih i with q | ⟨Φ,q,hq⟩
        · exact .inl q
        · exact .inr ⟨Φ,q,fun h=>hq h.2⟩
  have hb:∀ i,(rl (Φs.map .ro) i).free:=fun i=>by
    rcases hr Φs i with q | ⟨Φ,q,_⟩ <;> rw [q] <;> rfl
  have hB:∀ k,Bl O (rl (Φs.map .ro)) k→O k:=by
    rintro k (q | ⟨j,hj⟩)
    · exact q
    · exact absurd hj ((hb j).out _)
  refine ⟨Keeps.refl _ _,fun k hk=>⟨hO k hk,id⟩,fun i=>?_,fun i k hi=>absurd hi ((hb i).out _),fun i j k hi=>absurd hi ((hb i).out _)⟩
  rcases hr Φs i with q | ⟨Φ,q,hq⟩
  · rw [q];trivial
  · rw [q];exact Φ.sub (hq h) fun k _ hk=>hB k hk
section
variable {P : Program} {E : Env} {w : World} {d : Option Tmp} {x y z : Operand} {ty xt yt : TypeId} {ps : String} {af : Array Edge} {g : Option (Nat × Bool)}
theorem yaF{A:Option Addr}{l c n:Nat}{e:TypeId}(hx:evE E x = .slice A l c)(hu:P.underlying xt=some (.slice e))(hl:l=n):(execOp (evE E) ⟨d, .call ⟨.builtin .len,#[x],#[xt]⟩,ty,ps,af,g⟩).run P w = .ok (.value (.int .i64 (n:Int))) w:=by
  subst hl;exact v_len hx hu
end
section
variable {P : Program} {E : Env} {w : World} {d : Option Tmp} {x y z : Operand} {ty xt yt : TypeId} {ps : String} {af : Array Edge} {g : Option (Nat × Bool)}
theorem ygZ{A:Option Addr}{l c l2 c2:Nat}{e:TypeId}{b:Bool}(hx:evE E x = .slice A l c)(hy:evE E y = .slice none l2 c2)(hu:P.underlying xt=some (.slice e))(hb:Option.isNone A=b):(execOp (evE E) ⟨d, .binOp .eql xt x y yt,ty,ps,af,g⟩).run P w = .ok (.value (.bool b)) w:=by
  subst hb;exact v_seql hx hy hu
end
def asc:List (Nat×Nat)→Nat→Option Nat
  | [],_=>none
  | (i,a)::t,j=>bif Nat.beq j i then some a else asc t j
theorem asc_mem:∀ {l:List (Nat×Nat)} {j a:Nat},asc l j=some a→(j,a)∈l
  | [],_,_,h=>by cases h
  | (i,b)::t,j,a,h=>by
    unfold asc at h
    cases hq:Nat.beq j i with
    | true =>
      rw [hq] at h
      simp at h
      have:=Nat.eq_of_beq_eq_true hq
      subst this;subst h
      exact List.mem_cons_self
    | false=>rw [hq] at h;simp at h;exact List.mem_cons_of_mem _ (asc_mem h)
theorem ycc:∀ {l:List (Nat×Nat)},(l.map (·.2)).Nodup→∀ i j a,asc l i=some a→asc l j=some a→i=j:=by
  intro l hn i j a hi hj
  have h1:=asc_mem hi
  have h2:=asc_mem hj
  clear hi hj
  induction l with
  | nil=>cases h1
  | cons x t ih =>
    rw [List.map_cons,List.nodup_cons] at hn
    rcases List.mem_cons.1 h1 with q | q <;> rcases List.mem_cons.1 h2 with r | r
    · rw [←q] at r;exact (Prod.mk.inj r).1.symm
    · exact absurd (List.mem_map.2 ⟨_,r,by rw [←q]⟩) hn.1
    · exact absurd (List.mem_map.2 ⟨_,q,by rw [←r]⟩) hn.1
    · exact ih hn.2 q r
theorem yax{o:Option Nat}{a:Nat}(h:o=some a):o≠none:=by rw [h];exact nofun
def LentS(L:Hold)(f:Nat→Option Nat)(k:Nat):Prop:=∃ j,f j≠none∧(L j).has k
def LentO(O:Nat→Prop)(L:Hold)(f:Nat→Option Nat)(k:Nat):Prop:=O k∨∃ j,f j=none∧(L j).has k
def allJ(p:Nat→Prop):List Nat→Prop
  | []=>True
  | a::t=>p a∧allJ p t
theorem allJ.out{p:Nat→Prop} : ∀ {l:List Nat},allJ p l→∀ j∈l,p j
  | a::t,h,j,hj=>by
    rcases List.mem_cons.1 hj with rfl | q
    · exact h.1
    · exact allJ.out h.2 j q
theorem rl_map(L:Hold):∀ (js:List Nat) (i:Nat),rl (js.map L) i=match js[i]? with | some j=>L j | none => .gone
  | [],i=>by cases i <;> rfl
  | a::t,0=>rfl
  | a::t,i+1=>by rw [List.map_cons,rl,rl_map L t i];simp
section
variable {w0 w w' : World} {S O : Nat → Prop} {L : Hold}
theorem Sep.lend(h:Sep w0 S O w L)(f:Nat→Option Nat)(js:List Nat)(hj:js.Nodup)(hf:allJ (fun j=>f j≠none∨(L j).free) js):Sep w (LentS L f) (LentO O L f) w (rl (js.map L)):=by
  have hm:∀ i k,(rl (js.map L) i).has k→∃ j,j∈js∧js[i]? = some j∧(L j).has k:=fun i k hk=>by
    rw [rl_map] at hk
    cases hq:js[i]? with
    | none=>rw [hq] at hk;cases hk
    | some j=>rw [hq] at hk;exact ⟨j,List.mem_of_getElem? hq,rfl,hk⟩
  refine ⟨Keeps.refl _ _,fun k hk=>?_,fun i=>?_,fun i k hk=>?_,fun a b k ha hb=>?_⟩
  · rcases hk with hk | ⟨j,hj,hb⟩
    · refine ⟨Nat.lt_of_lt_of_le (h.lt k hk).1 h.pure.size,?_⟩
      rintro ⟨j,_,hb⟩
      have:=h.lt k hk
      rcases h.bd j k hb with q | q
      · omega
      · exact this.2 q
    · refine ⟨((h.ok j).lt hb).2,?_⟩
      rintro ⟨j2,hj2,hb2⟩
      have:=h.nd j j2 k hb hb2
      subst this
      exact hj2 hj
  · rw [rl_map]
    cases hq:js[i]? with
    | none=>trivial
    | some j =>
      refine (h.ok j).sub fun k _ hk=>?_
      rcases hk with (q | ⟨j2,_,q⟩) | ⟨i2,q⟩
      · exact .inl q
      · exact .inr ⟨j2,q⟩
      · obtain ⟨j3,_,_,q3⟩:=hm i2 k q
        exact .inr ⟨j3,q3⟩
  · obtain ⟨j,hj1,_,hb⟩:=hm i k hk
    refine .inr ⟨j,?_,hb⟩
    rcases hf.out j hj1 with q | q
    · exact q
    · exact absurd hb (q.out _)
  · obtain ⟨j1,_,h1,b1⟩:=hm a k ha
    obtain ⟨j2,_,h2,b2⟩:=hm b k hb
    have:=h.nd j1 j2 k b1 b2
    subst this
    obtain ⟨l1,e1⟩:=List.getElem?_eq_some_iff.1 h1
    obtain ⟨l2,e2⟩:=List.getElem?_eq_some_iff.1 h2
    exact (List.getElem_inj hj).1 (e1.trans e2.symm)
theorem Sep.back(h:Sep w0 S O w L)(f:Nat→Option Nat)(inj:∀ i j a,f i=some a→f j=some a→i=j){Lr:Hold}(hC:Sep w (LentS L f) (LentO O L f) w' Lr):Sep w0 S O w' (pick L Lr f):=by
  have hn:∀ j,f j=none→pick L Lr f j=L j:=fun j hq=>by unfold pick;rw [hq]
  have hsm:∀ j a,f j=some a→pick L Lr f j=Lr a:=fun j a hq=>by unfold pick;rw [hq]
  have hs:∀ k,Bl O (pick L Lr f) k→Bl (LentO O L f) Lr k:=by
    rintro k (q | ⟨j,hj⟩)
    · exact .inl (.inl q)
    · cases hq:f j with
      | none=>rw [hn j hq] at hj;exact .inl (.inr ⟨j,hq,hj⟩)
      | some a=>rw [hsm j a hq] at hj;exact .inr ⟨a,hj⟩
  refine h.step (T:=LentS L f) hC.pure (fun k _ ⟨j,_,hj⟩=>⟨j,hj⟩) (fun j k hk=>?_) (fun j=>?_) (fun x y k hx hy=>?_)
  · cases hq:f j with
    | none=>rw [hn j hq] at hk;exact .inl ⟨j,hk⟩
    | some a =>
      rw [hsm j a hq] at hk
      rcases hC.bd a k hk with q | ⟨j2,_,q⟩
      · exact .inr q
      · exact .inl ⟨j2,q⟩
  · cases hq:f j with
    | none =>
      refine .inl ⟨j,hn j hq,fun k hk=>?_⟩
      rintro ⟨j2,h2,hb⟩
      have:=h.nd j j2 k hk hb
      subst this
      exact h2 hq
    | some a=>rw [hsm j a hq];exact .inr ((hC.ok a).sub fun k _ hk=>hs k hk)
  · have cross:∀ x y b,f x=none→f y=some b→(L x).has k→(Lr b).has k→False:=fun x y b hx hy h1 h2=>by
      rcases hC.bd b k h2 with q | ⟨j2,q2,q⟩
      · have:=((h.ok x).lt h1).2;omega
      · have:=h.nd x j2 k h1 q
        subst this
        exact q2 hx
    cases hq:f x with
    | none =>
      rw [hn x hq] at hx
      cases hq2:f y with
      | none=>rw [hn y hq2] at hy;exact h.nd x y k hx hy
      | some b=>rw [hsm y b hq2] at hy;exact (cross x y b hq hq2 hx hy).elim
    | some a =>
      rw [hsm x a hq] at hx
      cases hq2:f y with
      | none=>rw [hn y hq2] at hy;exact (cross y x a hq2 hq hy hx).elim
      | some b=>rw [hsm y b hq2] at hy;have:=hC.nd a b k hx hy;subst this;exact inj x y a hq hq2
end
def FP.st(Φ:World→Prop):FP:=⟨fun O w=>∀ w',Keeps O w w'→Φ w',fun h hk w' hk'=>h w' (hk.trans hk'),fun h hs w' hk=>h w' (hk.mono hs)⟩
theorem nil_sl{τ:Type}(c:Cod τ)(O:Nat→Prop)(w:World):(FP.sl c none 0 0 []).P O w:=⟨rfl,Nat.le_refl _,Sl.nil _ _ _ _⟩
theorem ro_R{τ:Type}{c:Cod τ}{O:Nat→Prop}{w:World}{A:Option Addr}{l cap:Nat}{xs:List τ}(h:(FP.sl c A l cap xs).P O w):(cL c).R O w [.slice A l cap] xs:=⟨A,l,cap,rfl,h⟩
theorem rd_nil{τ:Type}{c:Cod τ}{O:Nat→Prop}{w:World}{A:Option Addr}{l cap:Nat}{xs:List τ}(h:(FP.sl c A l cap xs).P O w):A.isNone=true→xs=[]:=fun hA=>by
  rcases Nat.eq_zero_or_pos xs.length with h0 | h0
  · exact List.length_eq_zero_iff.1 h0
  · obtain ⟨b,off,e,_⟩:=h.2.2 h0
    rw [e] at hA;cases hA
theorem ybh{P:Program}{f:FuncId}{vs vs':Array Value}{w:World}{R:Ending→World→Prop}(e:vs=vs')(h:Calls P f vs w R):Calls P f vs' w R:=by subst e;exact h
theorem le_cap{τ:Type}{c:Cod τ}{O:Nat→Prop}{w:World}{A:Option Addr}{l cap:Nat}{xs:List τ}(h:(FP.sl c A l cap xs).P O w){k:Int}(hk:0≤k∧k≤((xs.length:Nat):Int)):0≤k∧k≤((cap:Nat):Int):=by
  have h1:=h.1;have h2:=h.2.1;omega
end Go.Proofs.YtjepipbkiadcpaaGreat

/- Iterators: what a generator and the loop over it owe each other; each side has its own blocks. No program in sight. -/
namespace Go.Proofs.YtjepipbkiadcpaaGreat
open Go Go.RowKit Go.Shelf Go.Proofs.Tryz
theorem n_yield{P:Program}{E:Env}{w:World}{d:Option Tmp}{ty:TypeId}{ps:String}{af:Array Edge}{g:Option (Nat×Bool)}{K:Value→World→Prop}{l m:Nat}{args:Array Operand}{ats:Array TypeId}{vs:Array Value}{fo:Operand}
    (hf:evE E fo = .func (.yield l) #[] #[]) (ha:args.map (evE E)=vs) (h:YieldAt Fence.wide m P l vs w fun e w''=>∃ v,e = .returned v∧K v w''):ybO P ⟨d, .call ⟨.value fo,args,ats⟩,ty,ps,af,g⟩ (evE E) w K:=by
  obtain ⟨fn,tmps,assign,body,hy,hR⟩:=h
  unfold ybO execOp
  simp only [resolve,hf,ha,Deferred.ofValue,Sem.run_bind,Sem.run_pure,Result.andThen,invoke,Array.empty_append,Array.append_empty,hy]
  exact ⟨trivial,fun c cs _=>hR.2 c cs (room_wide _)⟩
theorem WTa.ofx{F:Fence}{n:Nat}{P:Program}{Q:Exit→Act→World→Prop}{a:Act}{w:World}{t:List Item}{c:Code}
    (h:c.wpIn F n P (fun e a' w'=>match e with
      | .normal=>WTa F n P t Q a' w'
      | .ret=>Q .ret a' w'
      | .exit id=>(match exitTo id t with | some k'=>WTa F n P k' Q a' w' | none=>Q (.exit id) a' w')
      | _=>False) a w):WTa F n P (.code c::t) Q a w:=by
  intro b k cs hro hb hr
  obtain ⟨e,a',w',hw,harr⟩:=h b (t++k) cs hro hb hr
  cases e with
  | normal =>
    obtain ⟨e2,a2,w2,hq,harr2⟩:=hw b k cs hro hb hr
    exact ⟨e2,a2,w2,hq, .of_steps harr harr2⟩
  | ret=>exact ⟨.ret,a',w',hw,harr⟩
  | exit id =>
    cases he:exitTo id t with
    | some k' =>
      simp only [he] at hw
      obtain ⟨e2,a2,w2,hq,harr2⟩:=hw b k cs hro hb hr
      exact ⟨e2,a2,w2,hq, .of_steps (harr.1 _ (yei k he)) harr2⟩
    | none =>
      simp only [he] at hw
      refine ⟨.exit id,a',w',hw,?_⟩
      have h1:=harr.1
      have h2:=harr.2
      rw [yeC k he] at h1 h2
      exact ⟨h1,h2⟩
  | goto l=>exact hw.elim
  | panic ch=>exact hw.elim
  | outgrown=>exact hw.elim
theorem Keeps.trans' {A B T S:Nat→Prop}{a b c d:World}(h:Keeps A a b)(k:Keeps B b c)(l:Keeps S c d)(h1:∀ k,A k→T k)(h2:∀ k,B k→T k)(h3:∀ k,S k→T k):Keeps T a d :=
  ((h.mono fun k _ e=>h1 k e).trans (k.mono fun k _ e=>h2 k e)).trans (l.mono fun k _ e=>h3 k e)
abbrev BS:=Nat→Prop
structure RK(T:BS)(W:World)(T':BS)(W':World):Prop where
  keeps:Keeps T W W'
  sub:∀ k,T' k→T k∨W.heap.size≤k
  lt:∀ k,T' k→k<W'.heap.size
def GenOk{α:Type}(J:BS→BS→List α→World→Prop):Prop :=
  ∀ {T G G':BS} {pre:List α} {W W':World},J T G pre W→Keeps G W W'→(∀ k,G' k→G k∨W.heap.size≤k)→(∀ k,G' k→k<W'.heap.size)→J T G' pre W'
def TwoOk{α:Type}(J:BS→BS→List α→World→Prop):Prop :=
  ∀ {T G:BS} {pre:List α} {W:World},J T G pre W→(∀ k,T k→¬G k∧k<W.heap.size)∧∀ k,G k→k<W.heap.size
structure Sess(P:Program)(l:Nat){α:Type}(enc:α→Array Value)(pass:α→FP)(Pr:List α→Prop)(J Jx:BS→BS→List α→World→Prop):Prop where
  gen:GenOk J
  genx:GenOk Jx
  two:TwoOk J
  twox:TwoOk Jx
  yld:∀ {T G:BS} {pre:List α} {x:α} {W:World},J T G pre W→Pr (pre++[x])→(pass x).P (fun k=>T k∨G k) W →
    YieldAt Fence.wide 1 P l (enc x) W fun e W'=>∃ T',RK T W T' W'∧((e = .returned (.bool true)∧J T' G (pre++[x]) W')∨(e = .returned (.bool false)∧Jx T' G (pre++[x]) W'))
def GenSays(P:Program)(gf:FuncId)(lb:Array Value){α:Type}(enc:α→Array Value)(pass:α→FP)(Pr R:List α→Prop)(T0 G0:BS)(w:World):Prop :=
  ∀ (l:Nat) (J Jx:BS→BS→List α→World→Prop) (T1:BS) (w1:World),Sess P l enc pass Pr J Jx→J T1 G0 [] w1→Pure w w1→(∀ k,T1 k→T0 k∨w.heap.size≤k) →
    CallsIn Fence.wide 2 P gf (#[.func (.yield l) #[] #[]]++lb) w1 fun e w'=>(∃ v,e = .returned v)∧((∃ xs T G,R xs∧J T G xs w')∨∃ pre T G,Jx T G pre w')
structure RL1(l:Nat)(busy:Obj)(T:BS)(W:World)(T':BS)(W':World):Prop where
  keeps:Keeps (fun k=>T k∨k=l) W W'
  sub:∀ k,T' k→T k∨W.heap.size≤k
  lt:∀ k,T' k→k<W'.heap.size
  at_:W'.heap[l]? = some busy
def rndPost(l:Nat)(busy:Obj){α:Type}(I:BS→BS→List α→World→Prop)(Ix:Option Nat→BS→BS→List α→World→Prop)(T G:BS)(xs:List α)(W:World):Exit→Act→World→Prop
  | .normal,_,W'=>∃ T',RL1 l busy T W T' W'∧I T' G xs W'
  | .ret,_,W'=>∃ T',RL1 l busy T W T' W'∧Ix none T' G xs W'
  | .exit id,_,W'=>∃ T',RL1 l busy T W T' W'∧Ix (some id) T' G xs W'
  | _,_,_=>False
def jumpOf:Option Nat→Code
  | none => .ret
  | some id => .exit id
theorem ydQ(W:World)(l:Nat)(o:Obj):(W.putObj l o).heap.size=W.heap.size:=by simp
theorem ydV(W:World)(l:Nat)(o:Obj):Keeps (fun k=>k=l) W (W.putObj l o) :=
  ⟨rfl,rfl,rfl,by simp,fun k hk hn=>World.putObj_heap_other hn⟩
def JumpTo(P:Program)(N:Nat)(t:List Item)(Q:Exit→Act→World→Prop)(E:Env)(ds:List Deferred)(w:World):Option Nat→Prop
  | none=>∀ a,Rep N E ds a→Q .ret a w
  | some id=>match exitTo id t with
    | some k'=>WT Fence.wide 3 P N k' Q E ds w
    | none=>∀ a,Rep N E ds a→Q (.exit id) a w
theorem wpIn_iter{P:Program}{N:Nat}{Q:Exit→Act→World→Prop}{E:Env}{ds:List Deferred}{w:World}{t:List Item}{fo:Operand}{ps:Array Tmp}{assign body:Code}{gf:FuncId}{lb:Array Value}{a:Act}
    (hr:a.eval fo = .func (.func gf) #[] lb) (he:Enters P gf) {α:Type} {enc:α→Array Value} {pass:α→FP} {Pr R:List α→Prop} (hps:∀ x,(enc x).size=ps.size)
    (T0 G0:BS) (I:BS→BS→List α→World→Prop) (Ix:Option Nat→BS→BS→List α→World→Prop) (hI:GenOk I) (hI2:TwoOk I) (hIx:∀ c,GenOk (Ix c)) (hIx2:∀ c,TwoOk (Ix c)) (h0:I T0 G0 [] w)
    (hgen:GenSays P gf lb enc pass Pr R T0 G0 w)
    (hround:∀ (l:Nat) (T G:BS) (pre:List α) (x:α) (W:World) (rdy busy:Obj),I T G pre W→Pr (pre++[x])→(pass x).P (fun k=>T k∨G k) W→G l→W.heap[l]? = some rdy →
      assign.wpIn (Fence.wide.inRound l) 1 P (Exit.then (fun a1 W1=>W1.heap[l]? = some rdy∧∀ W2,W2=W1.putObj l busy→body.wpIn (Fence.wide.inRound l) 1 P (rndPost l busy I Ix T G (pre++[x]) W) a1 W2) (fun _ _ _=>False))
        { tmps:=(ps.zip (enc x)).foldl (fun t (p,v)=>t.setIfInBounds p v) a.tmps,defers:=[] } W)
    (hdone:∀ (D:Nat) (T G:BS) (xs:List α) (W:World),w.heap.size≤D→¬T D→G D→R xs→I T G xs W→W.heap[D]? = some (.deferred (some []))→Q .normal { a with defers:={ target := .collected D,args:=#[] }::a.defers } W)
    (hstop:∀ (D:Nat) (T G:BS) (c:Option Nat) (xs:List α) (W:World),w.heap.size≤D→¬T D→G D→Ix c T G xs W→W.heap[D]? = some (.deferred (some []))→(jumpOf c).wpIn Fence.wide 3 P Q { a with defers:={ target := .collected D,args:=#[] }::a.defers } W) :
    (Code.rangeFunc fo ps assign body).wpIn Fence.wide 3 P Q a w:=by
  refine wpIn_rangeFunc ?_
  intro fn hfn
  obtain ⟨D,hD⟩:∃ D,D=w.heap.size:=⟨_,rfl⟩
  obtain ⟨L,hL⟩:∃ L,L=w.heap.size+1:=⟨_,rfl⟩
  obtain ⟨rec,hrec⟩:∃ rec:LoopState→Option Code→Loop,rec=fun st pe=>{ state:=st,pending:=pe,fn,tmps:=a.tmps,params:=ps,assign,body,defers:=w.heap.size }:=⟨_,rfl⟩
  obtain ⟨W1,hW1⟩:∃ W1,(w.alloc (.deferred (some []))).alloc (.loop (rec .ready none))=W1:=⟨_,rfl⟩
  have hL1:W1.heap[L]? = some (.loop (rec .ready none)):=by
    rw [←hW1,hL];have:=World.alloc_heap_new (w.alloc (.deferred (some []))) (.loop (rec .ready none));rwa [World.size_alloc] at this
  have hK1:W1.heap[D]? = some (.deferred (some [])):=by
    rw [←hW1,hD];exact (Below.heap_alloc _ _ _ (by simp)).trans (World.alloc_heap_new w _)
  have hP1:Pure w W1:=by rw [←hW1];exact ((Keeps.refl _ _).alloc _).alloc _
  have hs1:W1.heap.size=w.heap.size+2:=by rw [←hW1];simp
  have two0:=hI2 h0
  refine ⟨L,[{ target := .collected D,args:=#[] }],W1,{ target := .fn (.func gf) lb,args:=#[.func (.yield L) #[] #[]] },W1,gf,#[.func (.yield L) #[] #[]]++lb,W1,?_,?_,fun _ _=>trivial,?_,fun h=>(by cases h),?_⟩
  · rw [←hW1,hrec,hL,hD];exact run_enterLoop_outer _ _ _ _ _
  · simp only [resolve,hr]
    simp [go_sem]
  · simp [invoke,go_sem,he _ _]
  · have key:=hgen L
      (fun Tg G pre W=>∃ T,(∀ k,Tg k↔T k∨k=L∨k=D)∧I T (fun k=>G k∨k=L∨k=D) pre W∧W.heap[L]? = some (.loop (rec .ready none))∧W.heap[D]? = some (.deferred (some []))∧¬G L∧¬G D∧¬T D)
      (fun Tg G pre W=>∃ T c,(∀ k,Tg k↔T k∨k=L∨k=D)∧Ix c T (fun k=>G k∨k=L∨k=D) pre W∧W.heap[L]? = some (.loop (rec .done (some (jumpOf c))))∧W.heap[D]? = some (.deferred (some []))∧¬G L∧¬G D∧¬T D)
      (fun k=>T0 k∨k=L∨k=D) W1 ⟨?_,?_,?_,?_,?_⟩ ⟨T0,fun _=>Iff.rfl,?_,hL1,hK1,?_,?_,?_⟩ hP1 (fun k hk=>?_)
    · refine (show CallsIn Fence.wide (3-1) P gf _ W1 _ from key).mono ?_
      rintro e W2 ⟨⟨v,rfl⟩,(⟨xs,Tg,G,hR,T,hT,hi,hl,hd,g1,g2,g3⟩ | ⟨pre,Tg,G,T,c,hT,hi,hl,hd,g1,g2,g3⟩)⟩
      · refine ⟨none,W2.putObj L (.loop { rec .ready none with state := .exhausted }),by have:=run_endLoop (P:=P) hl (by rw [hrec];simp);rw [hrec] at this ⊢;exact this,?_⟩
        have hLl:L<W2.heap.size:=(Array.getElem?_eq_some_iff.1 hl).1
        have hlt:=(hI2 hi).2
        exact hdone D T _ xs _ (by omega) g3 (.inr (.inr rfl)) hR (hI hi ((ydV _ _ _).mono fun k _ e => .inr (.inl e)) (fun k h => .inl h) (fun k h=>by rw [ydQ];exact hlt k h)) ((World.putObj_heap_other (by omega)).trans hd)
      · refine ⟨some (jumpOf c),W2.putObj L (.loop { rec .done (some (jumpOf c)) with state := .exhausted }),by have:=run_endLoop (P:=P) hl (by rw [hrec];simp);rw [hrec] at this ⊢;exact this,?_⟩
        have hlt:=(hIx2 c hi).2
        exact hstop D T _ c pre _ (by omega) g3 (.inr (.inr rfl)) (hIx c hi ((ydV _ _ _).mono fun k _ e => .inr (.inl e)) (fun k h => .inl h) (fun k h=>by rw [ydQ];exact hlt k h)) ((World.putObj_heap_other (by omega)).trans hd)
    · -- the generator's steps
      rintro Tg G G' pre W W' ⟨T,hT,hi,hl,hd,g1,g2,g3⟩ hK hG hGl
      have lL:=(Array.getElem?_eq_some_iff.1 hl).1
      have lD:=(Array.getElem?_eq_some_iff.1 hd).1
      refine ⟨T,hT,hI hi (hK.mono fun k _ h => .inl h) (fun k h=>?_) (fun k h=>?_),(hK.block L lL g1).trans hl,(hK.block D lD g2).trans hd,fun h=>?_,fun h=>?_,g3⟩
      · rcases h with h | h
        · rcases hG k h with q | q
          · exact .inl (.inl q)
          · exact .inr q
        · exact .inl (.inr h)
      · rcases h with h | h | h
        · exact hGl k h
        · rw [h];exact Nat.lt_of_lt_of_le lL hK.size
        · rw [h];exact Nat.lt_of_lt_of_le lD hK.size
      · rcases hG L h with q | q
        · exact g1 q
        · omega
      · rcases hG D h with q | q
        · exact g2 q
        · omega
    · rintro Tg G G' pre W W' ⟨T,c,hT,hi,hl,hd,g1,g2,g3⟩ hK hG hGl
      have lL:=(Array.getElem?_eq_some_iff.1 hl).1
      have lD:=(Array.getElem?_eq_some_iff.1 hd).1
      refine ⟨T,c,hT,hIx c hi (hK.mono fun k _ h => .inl h) (fun k h=>?_) (fun k h=>?_),(hK.block L lL g1).trans hl,(hK.block D lD g2).trans hd,fun h=>?_,fun h=>?_,g3⟩
      · rcases h with h | h
        · rcases hG k h with q | q
          · exact .inl (.inl q)
          · exact .inr q
        · exact .inl (.inr h)
      · rcases h with h | h | h
        · exact hGl k h
        · rw [h];exact Nat.lt_of_lt_of_le lL hK.size
        · rw [h];exact Nat.lt_of_lt_of_le lD hK.size
      · rcases hG L h with q | q
        · exact g1 q
        · omega
      · rcases hG D h with q | q
        · exact g2 q
        · omega
    · rintro Tg G pre W ⟨T,hT,hi,hl,hd,g1,g2,g3⟩
      have lL:=(Array.getElem?_eq_some_iff.1 hl).1
      refine ⟨fun k hk=>?_,fun k hk=>(hI2 hi).2 k (.inl hk)⟩
      rcases (hT k).1 hk with q | q
      · exact ⟨fun hg=>((hI2 hi).1 k q).1 (.inl hg),((hI2 hi).1 k q).2⟩
      · rcases q with q | q
        · rw [q];exact ⟨g1,lL⟩
        · rw [q];exact ⟨g2,(Array.getElem?_eq_some_iff.1 hd).1⟩
    · rintro Tg G pre W ⟨T,c,hT,hi,hl,hd,g1,g2,g3⟩
      have lL:=(Array.getElem?_eq_some_iff.1 hl).1
      refine ⟨fun k hk=>?_,fun k hk=>(hIx2 c hi).2 k (.inl hk)⟩
      rcases (hT k).1 hk with q | q
      · exact ⟨fun hg=>((hIx2 c hi).1 k q).1 (.inl hg),((hIx2 c hi).1 k q).2⟩
      · rcases q with q | q
        · rw [q];exact ⟨g1,lL⟩
        · rw [q];exact ⟨g2,(Array.getElem?_eq_some_iff.1 hd).1⟩
    · -- one round
      rintro Tg G pre x W ⟨T,hT,hi,hl,hd,g1,g2,g3⟩ hPr hpass
      have lL:=(Array.getElem?_eq_some_iff.1 hl).1
      have lD:=(Array.getElem?_eq_some_iff.1 hd).1
      have hy:=run_yield (P:=P) (args:=enc x) hl (by rw [hrec];exact hps x)
      rw [hrec] at hy
      have hp2:(pass x).P (fun k=>T k∨(G k∨k=L∨k=D)) W:=(pass x).sub hpass (fun k _ h=>by
        rcases h with h | h | h
        · exact .inl ((hT k).2 (.inl h))
        · exact .inr h
        · exact .inl ((hT k).2 (.inr h)))
      refine ⟨fn,_,assign,body,hy,roundIn_of_wpIn hfn (wpIn_mono (hround L T _ pre x W _ (.loop { rec .ready none with state := .busy }) hi hPr hp2 (.inr (.inl rfl)) hl) ?_)⟩
      rintro e1 a1 V1 hq
      cases e1 with
      | exit id=>exact hq.elim
      | ret=>exact hq.elim
      | goto l=>exact hq.elim
      | panic c=>exact hq.elim
      | outgrown=>exact hq.elim
      | normal =>
      obtain ⟨hl1,hb1⟩:=hq
      refine ⟨_,run_beginRound hl1 (by rw [hrec]),wpIn_mono (hb1 _ rfl) ?_⟩
      have fin:∀ (T':BS) (jump:Option Code) (W3:World),RL1 L (.loop { rec .ready none with state := .busy }) T W T' W3 →
          (Instr.endRound L jump).run P W3 = .ok (.bool jump.isNone) (W3.putObj L (.loop (rec (if jump.isNone then .ready else .done) jump))) ∧
          (W3.putObj L (.loop (rec (if jump.isNone then .ready else .done) jump))).heap[L]? = some (.loop (rec (if jump.isNone then .ready else .done) jump)) ∧
          (W3.putObj L (.loop (rec (if jump.isNone then .ready else .done) jump))).heap[D]? = some (.deferred (some [])) ∧
          RK Tg W (fun k=>T' k∨k=L∨k=D) (W3.putObj L (.loop (rec (if jump.isNone then .ready else .done) jump)))∧Keeps (fun k=>k=L) W3 (W3.putObj L (.loop (rec (if jump.isNone then .ready else .done) jump)))∧L<W3.heap.size∧¬T' D:=fun T' jump W3 hk3=>by
        have hl3:W3.heap[L]? = some (.loop { rec .ready none with state := .busy }):=hk3.at_
        have hd3:W3.heap[D]? = some (.deferred (some [])):=(hk3.keeps.block D (by omega) (fun h=>h.elim g3 (fun e=>by omega))).trans hd
        have lL3:=(Array.getElem?_eq_some_iff.1 hl3).1
        have hrun:=run_endRound (P:=P) jump hl3
        rw [hrec] at hrun ⊢
        have hkk:=ydV W3 L (.loop ((fun st pe=>({ state:=st,pending:=pe,fn,tmps:=a.tmps,params:=ps,assign,body,defers:=w.heap.size } : Loop)) (if jump.isNone then .ready else .done) jump))
        refine ⟨hrun,World.putObj_heap_same lL3,(World.putObj_heap_other (by omega)).trans hd3,⟨(Keeps.refl (fun _=>False) W).trans' hk3.keeps hkk (T:=Tg) (fun k e=>e.elim) (fun k e=>e.elim (fun e=>(hT k).2 (.inl e)) (fun e=>(hT k).2 (.inr (.inl e)))) (fun k e=>(hT k).2 (.inr (.inl e))),fun k h=>?_,fun k h=>?_⟩,hkk,lL3,fun h=>?_⟩
        · rcases h with h | h
          · rcases hk3.sub k h with q | q
            · exact .inl ((hT k).2 (.inl q))
            · exact .inr (by omega)
          · exact .inl ((hT k).2 (.inr h))
        · rw [ydQ]
          rcases h with h | h
          · exact hk3.lt k h
          · rcases h with h | h
            · rw [h];exact lL3
            · rw [h];exact (Array.getElem?_eq_some_iff.1 hd3).1
        · rcases hk3.sub D h with q | q
          · exact g3 q
          · omega
      rintro e a3 W3 hp
      cases e with
      | normal =>
        obtain ⟨T',hk3,hi3⟩:=hp
        obtain ⟨hr3,hl4,hd4,hrk,hkk,lL3,hTD⟩:=fin T' none W3 hk3
        exact ⟨_,_,hr3,_,hrk, .inl ⟨rfl,T',fun _=>Iff.rfl,hI hi3 (hkk.mono fun k _ e => .inr (.inl e)) (fun k h => .inl h) (fun k h=>by rw [ydQ];exact (hI2 hi3).2 k h),hl4,hd4,g1,g2,hTD⟩⟩
      | ret =>
        obtain ⟨T',hk3,hi3⟩:=hp
        obtain ⟨hr3,hl4,hd4,hrk,hkk,lL3,hTD⟩:=fin T' (some .ret) W3 hk3
        exact ⟨_,_,hr3,_,hrk, .inr ⟨rfl,T',none,fun _=>Iff.rfl,hIx none hi3 (hkk.mono fun k _ e => .inr (.inl e)) (fun k h => .inl h) (fun k h=>by rw [ydQ];exact (hIx2 none hi3).2 k h),hl4,hd4,g1,g2,hTD⟩⟩
      | exit id =>
        obtain ⟨T',hk3,hi3⟩:=hp
        obtain ⟨hr3,hl4,hd4,hrk,hkk,lL3,hTD⟩:=fin T' (some (.exit id)) W3 hk3
        exact ⟨_,_,hr3,_,hrk, .inr ⟨rfl,T',some id,fun _=>Iff.rfl,hIx (some id) hi3 (hkk.mono fun k _ e => .inr (.inl e)) (fun k h => .inl h) (fun k h=>by rw [ydQ];exact (hIx2 (some id) hi3).2 k h),hl4,hd4,g1,g2,hTD⟩⟩
      | goto t=>exact hp.elim
      | panic ch=>exact hp.elim
      | outgrown=>exact hp.elim
    · have hsz:∀ k,G0 k→k<w.heap.size:=two0.2
      exact hI h0 (G:=G0) (hP1.mono fun k _ h=>h.elim) (fun k h=>h.elim .inl (fun e => .inr (by omega))) (fun k h=>h.elim (fun h=>by have:=hsz k h;omega) (fun e=>by omega))
    · intro h;have:=two0.2 L h;omega
    · intro h;have:=two0.2 D h;omega
    · intro h;have:=(two0.1 D h).2;omega
    · rcases hk with h | h
      · exact .inl h
      · exact .inr (by omega)
theorem wt_iter{P:Program}{N:Nat}{Q:Exit→Act→World→Prop}{E:Env}{ds:List Deferred}{w:World}{t:List Item}{fo:Operand}{ps:Array Tmp}{assign body:Code}{gf:FuncId}{lb:Array Value}
    (hr:evE E fo = .func (.func gf) #[] lb) (he:Enters P gf) {α:Type} {val:α→Array Value} {pass:α→FP} {Pr R:List α→Prop} (hps:∀ x,(val x).size=ps.size) (hpN:ps.toList.all (fun p=>Nat.blt p N)=true)
    (T0 G0:BS) (I:BS→BS→List α→World→Prop) (Ix:Option Nat→BS→BS→List α→World→Prop) (hI:GenOk I) (hI2:TwoOk I) (hIx:∀ c,GenOk (Ix c)) (hIx2:∀ c,TwoOk (Ix c)) (h0:I T0 G0 [] w)
    (hgen:GenSays P gf lb val pass Pr R T0 G0 w)
    (hround:∀ (l:Nat) (T G:BS) (pre:List α) (x:α) (W:World) (rdy busy:Obj),I T G pre W→Pr (pre++[x])→(pass x).P (fun k=>T k∨G k) W→G l→W.heap[l]? = some rdy →
      WT (Fence.wide.inRound l) 1 P N [.code assign] (fun e a1 W1=>e = .normal∧∃ E1,Rep N E1 [] a1∧W1.heap[l]? = some rdy∧∀ W2,W2=W1.putObj l busy→WT (Fence.wide.inRound l) 1 P N [.code body] (rndPost l busy I Ix T G (pre++[x]) W) E1 [] W2) (setE E (ps.toList.zip (val x).toList)) [] W)
    (hdone:∀ (D:Nat) (T G:BS) (xs:List α) (W:World),w.heap.size≤D→¬T D→G D→R xs→I T G xs W→W.heap[D]? = some (.deferred (some []))→WT Fence.wide 3 P N t Q E ({ target := .collected D,args:=#[] }::ds) W)
    (hstop:∀ (D:Nat) (T G:BS) (c:Option Nat) (xs:List α) (W:World),w.heap.size≤D→¬T D→G D→Ix c T G xs W→W.heap[D]? = some (.deferred (some []))→JumpTo P N t Q E ({ target := .collected D,args:=#[] }::ds) W c) :
    WT Fence.wide 3 P N (.code (.rangeFunc fo ps assign body)::t) Q E ds w:=by
  intro a ra
  let mk:Env→Act:=fun E'=>{ tmps:=Array.ofFn (n:=N) fun i=>E' i,defers:=[] }
  have hmk:∀ E':Env,(∀ t,N≤t→E' t=undef)→Rep N E' [] (mk E'):=by
    intro E' h
    refine ⟨by simp [mk],fun t=>?_,rfl⟩
    simp only [mk,Array.getD_eq_getD_getElem?]
    rcases Nat.lt_or_ge t N with ht | ht
    · simp [ht]
    · simp [ht,h t ht]
  have hun:∀ {E':Env} {ds':List Deferred} {a':Act},Rep N E' ds' a'→∀ t,N≤t→E' t=undef:=by
    intro E' ds' a' h t ht
    rw [←h.get t]
    simp [Array.getD_eq_getD_getElem?,h.size,ht]
  have hpr:∀ x,Rep N (setE E (ps.toList.zip (val x).toList)) [] { tmps:=(ps.zip (val x)).foldl (fun t (p,v)=>t.setIfInBounds p v) a.tmps,defers:=[] }:=by
    intro x
    have h1:Rep N E [] { tmps:=a.tmps,defers:=[] }:=⟨ra.size,ra.get,rfl⟩
    have h2:=setE_rep (ps.toList.zip (val x).toList) E [] _ h1 (fun p hp=>by
      have:=List.all_eq_true.1 hpN p.1 (List.of_mem_zip hp).1
      simpa using this)
    have h3:(ps.zip (val x)).foldl (fun t (p,v)=>t.setIfInBounds p v) a.tmps=(ps.toList.zip (val x).toList).foldl (fun t p=>t.setIfInBounds p.1 p.2) a.tmps:=by
      rw [←Array.foldl_toList,Array.toList_zip]
    rw [h3];exact h2
  refine WTa.ofx (wpIn_iter (N:=N) (E:=E) (ds:=ds) (t:=t) (a:=a) (by rw [ra.eval,hr]) he hps T0 G0 I Ix hI hI2 hIx hIx2 h0 hgen ?_ ?_ ?_)
  · intro l T G pre x W rdy busy hi hp hq hg hl
    refine wpIn_mono (WTa.code (hround l T G pre x W rdy busy hi hp hq hg hl _ (hpr x))) ?_
    rintro e a1 W1 ⟨rfl,E1,r1,h1,h2⟩
    exact ⟨h1,fun W2 hW=>WTa.code (h2 W2 hW _ r1)⟩
  · intro D T G xs W hD hT hG hR hi hd
    exact hdone D T G xs W hD hT hG hR hi hd _ ⟨ra.size,ra.get,by rw [ra.defers]⟩
  · intro D T G c xs W hD hT hG hi hd
    have hj:=hstop D T G c xs W hD hT hG hi hd
    have ra2:Rep N E ({ target := .collected D,args:=#[] }::ds) { a with defers:={ target := .collected D,args:=#[] }::a.defers }:=⟨ra.size,ra.get,by rw [ra.defers]⟩
    cases c with
    | none=>exact WTa.code (WTa.ret (hj _ ra2))
    | some id =>
      refine WTa.code (WTa.leave rfl ?_)
      unfold JumpTo at hj
      cases hq:exitTo id t with
      | none=>simp only [hq] at hj ⊢;exact hj _ ra2
      | some k'=>simp only [hq] at hj ⊢;exact hj _ ra2
def OwnB(L:Hold):BS:=fun k=>∃ i,(L i).has k
structure Two(w0:World)(S O G:BS)(W:World)(L:Hold):Prop where
  pure:Keeps S w0 W
  lt:∀ k,O k→k<w0.heap.size∧¬S k
  g:∀ k,G k→k<W.heap.size∧(w0.heap.size≤k∨S k)∧∀ i,¬(L i).has k
  ok:∀ i,(L i).ok 0 (Bl (fun k=>O k∨G k) L) W
  bd:∀ i k,(L i).has k→w0.heap.size≤k∨S k
  nd:∀ i j k,(L i).has k→(L j).has k→i=j
section
variable {w0 w w' W W' : World} {S O G G' T : BS} {L L' : Hold}
theorem yia{js:List Nat}{i k:Nat}(h:(rl (js.map L) i).has k):∃ j,js[i]? = some j∧(L j).has k:=by
  rw [rl_map] at h
  cases hq:js[i]? with
  | none=>rw [hq] at h;cases h
  | some j=>rw [hq] at h;exact ⟨j,rfl,h⟩
theorem Sep.give(h:Sep w0 S O w L)(js gs:List Nat)(hj:js.Nodup)(hg:gs.Nodup)(hf:allJ (fun j=>(j∉js)∨(L j).free) gs) :
    Two w0 S O (OwnB (rl (gs.map L))) w (rl (js.map L))∧Sep w (OwnB (rl (gs.map L))) (Bl O (rl (js.map L))) w (rl (gs.map L)):=by
  have hdis:∀ a b k,(rl (js.map L) a).has k→(rl (gs.map L) b).has k→False:=fun a b k ha hb=>by
    obtain ⟨j1,e1,b1⟩:=yia ha
    obtain ⟨j2,e2,b2⟩:=yia hb
    have:=h.nd j1 j2 k b1 b2
    subst this
    rcases hf.out j1 (List.mem_of_getElem? e2) with q | q
    · exact q (List.mem_of_getElem? e1)
    · exact absurd b1 (q.out _)
  have hO:∀ k,(OwnB L) k→¬O k:=fun k ⟨i,hi⟩ hk=>by
    have:=h.lt k hk
    rcases h.bd i k hi with q | q
    · omega
    · exact this.2 q
  have hsz:∀ i k,(L i).has k→k<w.heap.size:=fun i k hk=>((h.ok i).lt hk).2
  have ndl:∀ (l:List Nat),l.Nodup→∀ a b k,(rl (l.map L) a).has k→(rl (l.map L) b).has k→a=b:=fun l hl a b k ha hb=>by
    obtain ⟨j1,e1,b1⟩:=yia ha
    obtain ⟨j2,e2,b2⟩:=yia hb
    have:=h.nd j1 j2 k b1 b2
    subst this
    obtain ⟨l1,q1⟩:=List.getElem?_eq_some_iff.1 e1
    obtain ⟨l2,q2⟩:=List.getElem?_eq_some_iff.1 e2
    exact (List.getElem_inj hl).1 (q1.trans q2.symm)
  have okl:∀ (l:List Nat) (O':BS),(∀ k,O' k→Bl O L k)→∀ i,(rl (l.map L) i).ok 0 O' w:=fun l O' ho i=>by
    rw [rl_map]
    cases hq:l[i]? with
    | none=>trivial
    | some j=>exact (h.ok j).sub fun k _ hk=>ho k hk
  have inl:∀ (l:List Nat) k,OwnB (rl (l.map L)) k→OwnB L k:=fun l k ⟨i,hi⟩=>by
    obtain ⟨j,_,hb⟩:=yia hi
    exact ⟨j,hb⟩
  refine ⟨⟨h.pure,h.lt,fun k hk=>?_,?_,fun i k hk=>?_,ndl js hj⟩,⟨Keeps.refl _ _,fun k hk=>?_,?_,fun i k hk => .inr ⟨i,hk⟩,ndl gs hg⟩⟩
  · obtain ⟨j,hb⟩:=inl gs k hk
    obtain ⟨i,hi⟩:=hk
    exact ⟨hsz j k hb,h.bd j k hb,fun a ha=>hdis a i k ha hi⟩
  · refine okl js _ fun k hk=>?_
    rcases hk with (q | q) | q
    · exact .inl q
    · exact .inr (inl gs k q)
    · exact .inr (inl js k q)
  · obtain ⟨j,_,hb⟩:=yia hk
    exact h.bd j k hb
  · rcases hk with q | ⟨i,q⟩
    · exact ⟨Nat.lt_of_lt_of_le (h.lt k q).1 h.pure.size,fun hg=>hO k (inl gs k hg) q⟩
    · obtain ⟨j,_,hb⟩:=yia q
      exact ⟨hsz j k hb,fun ⟨b,hb2⟩=>hdis i b k q hb2⟩
  · refine okl gs _ fun k hk=>?_
    rcases hk with (q | q) | q
    · exact .inl q
    · exact .inr (inl js k q)
    · exact .inr (inl gs k q)
theorem Two.gen(h:Two w0 S O G W L)(hK:Keeps G W W')(hG:∀ k,G' k→G k∨W.heap.size≤k)(hl:∀ k,G' k→k<W'.heap.size):Two w0 S O G' W' L:=by
  have hlt:∀ i k,(L i).has k→k<W.heap.size:=fun i k hk=>((h.ok i).lt hk).2
  refine ⟨h.pure.then hK (fun k hk q=>(h.g k q).2.1.elim (fun r=>by omega) id),h.lt,fun k hk=>⟨hl k hk,?_,fun i hi=>?_⟩,fun i=>?_,h.bd,h.nd⟩
  · rcases hG k hk with q | q
    · exact (h.g k q).2.1
    · exact .inl (Nat.le_trans h.pure.size q)
  · rcases hG k hk with q | q
    · exact (h.g k q).2.2 i hi
    · have:=hlt i k hi;omega
  · refine (h.ok i).keep hK (fun k hk hg=>(h.g k hg).2.2 i hk) (fun k _ hg => .inl (.inr hg)) fun k hk hO=>?_
    rcases hO with (q | q) | q
    · exact .inl (.inl q)
    · rcases hG k q with r | r
      · exact .inl (.inr r)
      · omega
    · exact .inr q
theorem Two.round(h:Two w0 S O G W L):Sep W (OwnB L) (fun k=>O k∨G k) W L:=by
  refine ⟨Keeps.refl _ _,fun k hk=>?_,h.ok,fun i k hk => .inr ⟨i,hk⟩,h.nd⟩
  rcases hk with q | q
  · refine ⟨Nat.lt_of_lt_of_le (h.lt k q).1 h.pure.size,fun ⟨i,hi⟩=>?_⟩
    rcases h.bd i k hi with r | r
    · have:=(h.lt k q).1;omega
    · exact (h.lt k q).2 r
  · exact ⟨(h.g k q).1,fun ⟨i,hi⟩=>(h.g k q).2.2 i hi⟩
theorem Two.back(h:Two w0 S O G W L)(hS:Sep W (OwnB L) (fun k=>O k∨G k) W' L'):Two w0 S O G W' L'∧RK (Bl O L) W (Bl O L') W':=by
  have hbd:∀ i k,(L' i).has k→OwnB L k∨W.heap.size≤k:=fun i k hk=>(hS.bd i k hk).symm
  refine ⟨⟨h.pure.then hS.pure (fun k hk ⟨i,hi⟩=>(h.bd i k hi).elim (fun r=>by omega) id),h.lt,fun k hk=>⟨Nat.lt_of_lt_of_le (h.g k hk).1 hS.pure.size,(h.g k hk).2.1,fun i hi=>?_⟩,hS.ok,fun i k hk=>?_,hS.nd⟩,⟨hS.pure.mono fun k _ q => .inr q,fun k hk=>?_,fun k hk=>?_⟩⟩
  · rcases hbd i k hi with ⟨j,q⟩ | q
    · exact (h.g k hk).2.2 j q
    · have:=(h.g k hk).1;omega
  · rcases hbd i k hk with ⟨j,q⟩ | q
    · exact h.bd j k q
    · exact .inl (Nat.le_trans h.pure.size q)
  · rcases hk with q | ⟨i,q⟩
    · exact .inl (.inl q)
    · rcases hbd i k q with r | r
      · exact .inl (.inr r)
      · exact .inr r
  · rcases hk with q | ⟨i,q⟩
    · exact Nat.lt_of_lt_of_le (h.lt k q).1 (Nat.le_trans h.pure.size hS.pure.size)
    · exact ((hS.ok i).lt q).2
end
def IV{α:Type}(w0:World)(S O:BS)(V:List α→List Res→Prop):BS→BS→List α→World→Prop:=fun T G pre W=>∃ LL,T=Bl O (rl LL)∧Two w0 S O G W (rl LL)∧V pre LL
theorem IV.gen{α:Type}(w0:World)(S O:BS)(V:List α→List Res→Prop):GenOk (IV w0 S O V):=by
  rintro T G G' pre W W' ⟨L,rfl,h,hV⟩ hK hG hl
  exact ⟨L,rfl,h.gen hK hG hl,hV⟩
theorem IV.two{α:Type}(w0:World)(S O:BS)(V:List α→List Res→Prop):TwoOk (IV w0 S O V):=by
  rintro T G pre W ⟨L,rfl,h,hV⟩
  refine ⟨fun k hk=>?_,fun k hk=>(h.g k hk).1⟩
  rcases hk with q | ⟨i,q⟩
  · refine ⟨fun hg=>?_,Nat.lt_of_lt_of_le (h.lt k q).1 h.pure.size⟩
    rcases (h.g k hg).2.1 with r | r
    · have:=(h.lt k q).1;omega
    · exact (h.lt k q).2 r
  · exact ⟨fun hg=>(h.g k hg).2.2 i q,((h.ok i).lt q).2⟩
def dfr(D:Nat):Res := .obj D (.deferred (some []))
theorem yh5:∀ (LL:List Res) (r:Res),rl (LL++[r])=stl (rl LL) LL.length r
  | [],r=>by funext i;cases i <;> rfl
  | x::t,r=>by
    funext i
    cases i with
    | zero=>rfl
    | succ i =>
      show rl (t++[r]) i=_
      rw [yh5 t r]
      by_cases e:i=t.length
      · subst e;rw [yaS,List.length_cons,yaS]
      · rw [yaJ _ _ e,List.length_cons,yaJ _ _ (by omega)];rfl
theorem ydT:∀ (LL:List Res),rl LL LL.length = .gone
  | []=>rfl
  | _::t=>ydT t
theorem Two.take{w0 W:World}{S O G:BS}{L:Hold}(h:Two w0 S O G W L){D i:Nat}{o:Obj}(hi:L i = .gone)(hD:G D)(hd:W.heap[D]? = some o) :
    (∀ j,(stl L i (.obj D o) j).ok 0 (Bl (fun k=>O k∨G k) L) W)∧(∀ k,Bl (fun k=>O k∨(G k∧k≠D)) (stl L i (.obj D o)) k→Bl (fun k=>O k∨G k) L k)∧(∀ a b k,(stl L i (.obj D o) a).has k→(stl L i (.obj D o) b).has k→a=b)∧∀ j k,(stl L i (.obj D o) j).has k→OwnB L k∨k=D:=by
  refine ⟨fun j=>?_,?_,fun a b k ha hb'=>?_,fun j k hk=>?_⟩
  · by_cases e:j=i
    · subst e;rw [yaS];exact ⟨Nat.zero_le _,hd⟩
    · rw [yaJ _ _ e];exact h.ok j
  · rintro k ((q | q) | ⟨j,q⟩)
    · exact .inl (.inl q)
    · exact .inl (.inr q.1)
    · by_cases e:j=i
      · subst e;rw [yaS] at q;cases q;exact .inl (.inr hD)
      · rw [yaJ _ _ e] at q;exact .inr ⟨j,q⟩
  · have key:∀ a b,a≠i→b=i→(stl L i (.obj D o) a).has k→(stl L i (.obj D o) b).has k→False:=fun a b h1 h2 ha hb'=>by
      subst h2
      rw [yaJ _ _ h1] at ha
      rw [yaS] at hb'
      cases hb'
      exact (h.g D hD).2.2 a ha
    by_cases e1:a=i
    · by_cases e2:b=i
      · omega
      · exact (key b a e2 e1 hb' ha).elim
    · by_cases e2:b=i
      · exact (key a b e1 e2 ha hb').elim
      · rw [yaJ _ _ e1] at ha;rw [yaJ _ _ e2] at hb';exact h.nd _ _ k ha hb'
  · by_cases e:j=i
    · subst e;rw [yaS] at hk;cases hk;exact .inr rfl
    · rw [yaJ _ _ e] at hk;exact .inl ⟨j,hk⟩
theorem Two.mark{w0 W:World}{S O G:BS}{LL:List Res}(h:Two w0 S O G W (rl LL)){D:Nat}(hD:G D)(hd:W.heap[D]? = some (.deferred (some []))):Sep w0 S O W (rl (LL++[dfr D])):=by
  obtain ⟨h1,h2,h3,h4⟩:=h.take (ydT LL) hD hd
  rw [yh5]
  refine ⟨h.pure,h.lt,fun j=>(h1 j).sub fun k _ hk=>h2 k (hk.elim (fun q => .inl (.inl q)) .inr),fun j k hk=>?_,h3⟩
  rcases h4 j k hk with ⟨i,q⟩ | q
  · exact h.bd i k q
  · rw [q];exact (h.g D hD).2.1
theorem Two.open_ {w0 W:World}{S O G:BS}{LL:List Res}(h:Two w0 S O G W (rl LL)){l:Nat}{o:Obj}(hG:G l)(hl:W.heap[l]? = some o):Sep W (fun k=>OwnB (rl LL) k∨k=l) (fun k=>O k∨(G k∧k≠l)) W (rl (LL++[.obj l o])):=by
  obtain ⟨h1,h2,h3,h4⟩:=h.take (ydT LL) hG hl
  rw [yh5]
  have hr:=h.round
  refine ⟨Keeps.refl _ _,fun k hk=>?_,fun j=>(h1 j).sub fun k _ hk=>h2 k hk,fun j k hk => .inr (h4 j k hk),h3⟩
  rcases hk with q | q
  · have:=hr.lt k (.inl q)
    refine ⟨this.1,fun h5=>h5.elim this.2 fun e=>?_⟩
    subst e
    rcases (h.g k hG).2.1 with r | r
    · have:=(h.lt k q).1;omega
    · exact (h.lt k q).2 r
  · have:=hr.lt k (.inr q.1)
    exact ⟨this.1,fun h5=>h5.elim this.2 q.2⟩
theorem Sep.flip{w0 w w':World}{S O:BS}{L:Hold}(h:Sep w0 S O w L)(i:Nat){l:Nat}{o:Obj}(hi:L i = .obj l o)(o':Obj)(hw:w'=w.putObj l o'):Sep w0 S O w' (stl L i (.obj l o')):=by
  have hl:w.heap[l]? = some o:=by have:=h.ok i;rw [hi] at this;exact this.2
  subst hw
  exact h.upd i _ (T:=fun k=>k=l) (ydV _ _ _) (fun k _ e=>by rw [hi,e]) (fun k hk=>by cases hk;rw [hi];exact .inl rfl) ⟨Nat.zero_le _,World.putObj_heap_same (Array.getElem?_eq_some_iff.1 hl).1⟩
theorem Two.close{w0 W W':World}{S O G:BS}{LL LL':List Res}(h:Two w0 S O G W (rl LL)){l:Nat}{busy:Obj}(hG:G l)
    (hS:Sep W (fun k=>OwnB (rl LL) k∨k=l) (fun k=>O k∨(G k∧k≠l)) W' (rl (LL'++[.obj l busy]))):Two w0 S O G W' (rl LL')∧RL1 l busy (Bl O (rl LL)) W (Bl O (rl LL')) W':=by
  rw [yh5] at hS
  have ho:∀ i,i≠LL'.length→stl (rl LL') LL'.length (.obj l busy) i=rl LL' i:=fun i hi=>yaJ _ _ hi
  have hne:∀ i k,(rl LL' i).has k→i≠LL'.length:=fun i k hk e=>by rw [e,ydT] at hk;cases hk
  have hbl:∀ k,Bl (fun k=>O k∨G k) (rl LL') k→Bl (fun k=>O k∨(G k∧k≠l)) (stl (rl LL') LL'.length (.obj l busy)) k:=by
    rintro k ((q | q) | ⟨j,q⟩)
    · exact .inl (.inl q)
    · by_cases e:k=l
      · exact .inr ⟨LL'.length,by rw [yaS,e]⟩
      · exact .inl (.inr ⟨q,e⟩)
    · exact .inr ⟨j,by rw [ho j (hne j k q)];exact q⟩
  have hnl:∀ i k,(rl LL' i).has k→k≠l:=fun i k hk e=>by
    subst e
    have:=hS.nd i LL'.length k (by rw [ho i (hne i k hk)];exact hk) (by rw [yaS])
    exact hne i k hk this
  have hbd:∀ i k,(rl LL' i).has k→OwnB (rl LL) k∨W.heap.size≤k:=fun i k hk=>by
    rcases hS.bd i k (by rw [ho i (hne i k hk)];exact hk) with q | q | q
    · exact .inr q
    · exact .inl q
    · exact absurd q (hnl i k hk)
  have hok:∀ i,(rl LL' i).ok 0 (Bl (fun k=>O k∨G k) (rl LL')) W':=fun i=>by
    by_cases e:i=LL'.length
    · rw [e,ydT];trivial
    · have:=hS.ok i
      rw [ho i e] at this
      exact this.sub fun k _ hk=>hbl k hk
  have hat:W'.heap[l]? = some busy:=by have:=hS.ok LL'.length;rw [yaS] at this;exact this.2
  refine ⟨⟨h.pure.then hS.pure (fun k hk q=>?_),h.lt,fun k hk=>⟨Nat.lt_of_lt_of_le (h.g k hk).1 hS.pure.size,(h.g k hk).2.1,fun i hi=>?_⟩,hok,fun i k hk=>?_,fun i j k hi hj=>hS.nd i j k (by rw [ho i (hne i k hi)];exact hi) (by rw [ho j (hne j k hj)];exact hj)⟩,⟨hS.pure.mono fun k _ q=>q.elim (fun q => .inl (.inr q)) .inr,fun k hk=>?_,fun k hk=>?_,hat⟩⟩
  · rcases q with ⟨i,q⟩ | q
    · exact (h.bd i k q).elim (fun r=>by omega) id
    · rw [q] at hk ⊢;exact (h.g l hG).2.1.elim (fun r=>by omega) id
  · rcases hbd i k hi with ⟨j,q⟩ | q
    · exact (h.g k hk).2.2 j q
    · have:=(h.g k hk).1;omega
  · rcases hbd i k hk with ⟨j,q⟩ | q
    · exact h.bd j k q
    · exact .inl (Nat.le_trans h.pure.size q)
  · rcases hk with q | ⟨i,q⟩
    · exact .inl (.inl q)
    · rcases hbd i k q with r | r
      · exact .inl (.inr r)
      · exact .inr r
  · rcases hk with q | ⟨i,q⟩
    · exact Nat.lt_of_lt_of_le (h.lt k q).1 (Nat.le_trans h.pure.size hS.pure.size)
    · exact ((hok i).lt q).2
def rndS{α:Type}(l:Nat)(busy:Obj)(W:World)(S O:BS)(V:List α→List Res→Prop)(Vx:Option Nat→List α→List Res→Prop)(xs:List α):Exit→Act→World→Prop
  | .normal,_,W'=>∃ LL,V xs LL∧Sep W S O W' (rl (LL++[.obj l busy]))
  | .ret,_,W'=>∃ LL,Vx none xs LL∧Sep W S O W' (rl (LL++[.obj l busy]))
  | .exit id,_,W'=>∃ LL,Vx (some id) xs LL∧Sep W S O W' (rl (LL++[.obj l busy]))
  | _,_,_=>False
theorem wt_iterS{P:Program}{N:Nat}{Q:Exit→Act→World→Prop}{E:Env}{ds:List Deferred}{w0 w:World}{S O:BS}{L:Hold}{t:List Item}{fo:Operand}{ps:Array Tmp}{assign body:Code}{gf:FuncId}{lb:Array Value}
    (hS:Sep w0 S O w L) (js gs:List Nat) (hj:js.Nodup) (hg:gs.Nodup) (hf:allJ (fun j=>(j∉js)∨(L j).free) gs)
    (hr:evE E fo = .func (.func gf) #[] lb) (he:Enters P gf) {α:Type} {val:α→Array Value} {pass:α→FP} {Pr R:List α→Prop} (hps:∀ x,(val x).size=ps.size) (hpN:ps.toList.all (fun p=>Nat.blt p N)=true)
    (V:List α→List Res→Prop) (Vx:Option Nat→List α→List Res→Prop) (h0:V [] (js.map L))
    (hgen:∀ T G,Sep w G T w (rl (gs.map L))→GenSays P gf lb val pass Pr R T G w)
    (hround:∀ (l:Nat) (rdy busy:Obj) (S1 O1:BS) (pre:List α) (x:α) (W:World) (LL:List Res),V pre LL→Pr (pre++[x])→(pass x).P (Bl O1 (rl (LL++[.obj l rdy]))) W→Sep W S1 O1 W (rl (LL++[.obj l rdy])) →
      WT (Fence.wide.inRound l) 1 P N [.code assign] (fun e a1 W1=>e = .normal∧∃ E1 L1,Rep N E1 [] a1∧Sep W S1 O1 W1 L1∧(∃ i,L1 i = .obj l rdy)∧∀ W2,W2=W1.putObj l busy→WT (Fence.wide.inRound l) 1 P N [.code body] (rndS l busy W S1 O1 V Vx (pre++[x])) E1 [] W2) (setE E (ps.toList.zip (val x).toList)) [] W)
    (hdone:∀ (D:Nat) (xs:List α) (W:World) (LL:List Res),R xs→V xs LL→Sep w0 S O W (rl (LL++[dfr D]))→WT Fence.wide 3 P N t Q E (mark D::ds) W)
    (hstop:∀ (D:Nat) (c:Option Nat) (xs:List α) (W:World) (LL:List Res),Vx c xs LL→Sep w0 S O W (rl (LL++[dfr D]))→JumpTo P N t Q E (mark D::ds) W c) :
    WT Fence.wide 3 P N (.code (.rangeFunc fo ps assign body)::t) Q E ds w:=by
  obtain ⟨hT,hG⟩:=hS.give js gs hj hg hf
  refine wt_iter hr he hps hpN (Bl O (rl (js.map L))) (OwnB (rl (gs.map L))) (IV w0 S O V) (fun c=>IV w0 S O (Vx c)) (IV.gen _ _ _ _) (IV.two _ _ _ _) (fun c=>IV.gen _ _ _ _) (fun c=>IV.two _ _ _ _) ⟨_,rfl,hT,h0⟩ (hgen _ _ hG) ?_ ?_ ?_
  · rintro l T G pre x W rdy busy ⟨LL,rfl,h,hV⟩ hPr hp hGl hl
    have hb:=hround l rdy busy (fun k=>OwnB (rl LL) k∨k=l) (fun k=>O k∨(G k∧k≠l)) pre x W LL hV hPr ((pass x).sub hp fun k _ hk=>by
      rw [yh5] at hk
      rcases (h.take (ydT LL) hGl hl).2.1 k hk with (q | q) | q
      · exact .inl (.inl q)
      · exact .inr q
      · exact .inl (.inr q)) (h.open_ hGl hl)
    intro a ra b k cs h1 h2 h3
    obtain ⟨e,a',w',⟨rfl,E1,L1,r1,s1,⟨i,hi⟩,hq⟩,harr⟩:=hb a ra b k cs h1 h2 h3
    refine ⟨.normal,a',w',⟨rfl,E1,r1,by have:=s1.ok i;rw [hi] at this;exact this.2,fun W2 hW2=>?_⟩,harr⟩
    intro a2 ra2 b2 k2 cs2 g1 g2 g3
    obtain ⟨e,a3,w3,hq,harr3⟩:=hq W2 hW2 a2 ra2 b2 k2 cs2 g1 g2 g3
    refine ⟨e,a3,w3,?_,harr3⟩
    cases e with
    | normal=>obtain ⟨L2,v2,s2⟩:=hq;obtain ⟨t2,r2⟩:=h.close hGl s2;exact ⟨_,r2,L2,rfl,t2,v2⟩
    | ret=>obtain ⟨L2,v2,s2⟩:=hq;obtain ⟨t2,r2⟩:=h.close hGl s2;exact ⟨_,r2,L2,rfl,t2,v2⟩
    | exit id=>obtain ⟨L2,v2,s2⟩:=hq;obtain ⟨t2,r2⟩:=h.close hGl s2;exact ⟨_,r2,L2,rfl,t2,v2⟩
    | goto t=>exact hq.elim
    | panic ch=>exact hq.elim
    | outgrown=>exact hq.elim
  · rintro D T G xs W hD hTD hGD hR ⟨L',rfl,h,hV⟩ hd
    exact hdone D xs W L' hR hV (h.mark hGD hd)
  · rintro D T G c xs W hD hTD hGD ⟨L',rfl,h,hV⟩ hd
    exact hstop D c xs W L' hV (h.mark hGD hd)
section
variable {P : Program} {l : Nat} {α : Type} {val : α → Array Value} {pass : α → FP} {Pr : List α → Prop} {J Jx K : BS → BS → List α → World → Prop}
theorem Sep.yielded{wb w W':World}{G T T':BS}{L:Hold}(h:Sep wb G T w L)(hr:RK T w T' W'):Sep W' (OwnB L) T' W' L:=by
  have hlt:∀ i k,(L i).has k→k<w.heap.size:=fun i k hk=>((h.ok i).lt hk).2
  have hnT:∀ i k,(L i).has k→¬T k:=fun i k hk hT=>by
    rcases h.bd i k hk with r | r
    · have:=(h.lt k hT).1;omega
    · exact (h.lt k hT).2 r
  refine ⟨Keeps.refl _ _,fun k hk=>⟨hr.lt k hk,fun ⟨i,hi⟩=>?_⟩,fun i=>?_,fun i k hk => .inr ⟨i,hk⟩,h.nd⟩
  · rcases hr.sub k hk with q | q
    · exact hnT i k hi q
    · have:=hlt i k hi;omega
  · refine (h.ok i).keep hr.keeps (fun k hk=>hnT i k hk) (fun k _ hk => .inl hk) fun k hk hO=>?_
    rcases hO with q | q
    · rcases hr.sub k q with r | r
      · exact .inl r
      · omega
    · exact .inr q
theorem gen_yield(hs:Sess P l val pass Pr J Jx){T G:BS}{pre:List α}{x:α}{wb w:World}{L:Hold}(hJ:J T G pre wb)(hS:Sep wb G T w L)(hPr:Pr (pre++[x]))(hp:(pass x).P (Bl T L) w)
    {Rr:Ending→World→Prop} (h1:∀ T' W',J T' (OwnB L) (pre++[x]) W'→Sep W' (OwnB L) T' W' L→Rr (.returned (.bool true)) W') (h2:∀ T' W',Jx T' (OwnB L) (pre++[x]) W'→Sep W' (OwnB L) T' W' L→Rr (.returned (.bool false)) W') :
    YieldAt Fence.wide 1 P l (val x) w Rr:=by
  have hJ2:J T (OwnB L) pre w:=hs.gen hJ hS.pure (fun k ⟨i,hi⟩=>(hS.bd i k hi).elim (fun q => .inr (by have:=hS.pure.size;omega)) .inl) (fun k ⟨i,hi⟩=>((hS.ok i).lt hi).2)
  obtain ⟨fn,tmps,assign,body,hy,hR⟩:=hs.yld hJ2 hPr hp
  refine ⟨fn,tmps,assign,body,hy,hR.mono ?_⟩
  rintro e W' ⟨T',hr,(⟨rfl,hj⟩ | ⟨rfl,hj⟩)⟩
  · exact h1 T' W' hj (hS.yielded hr)
  · exact h2 T' W' hj (hS.yielded hr)
theorem gen_end(hs:Sess P l val pass Pr J Jx){T G:BS}{pre:List α}{wb w:World}{L:Hold}{R:List α→Prop}(hJ:J T G pre wb)(hS:Sep wb G T w L)(hR:R pre) :
    (∃ xs T G,R xs∧J T G xs w)∨∃ pre T G,Jx T G pre w :=
  .inl ⟨pre,T,OwnB L,hR,hs.gen hJ hS.pure (fun k ⟨i,hi⟩=>(hS.bd i k hi).elim (fun q => .inr (by have:=hS.pure.size;omega)) .inl) (fun k ⟨i,hi⟩=>((hS.ok i).lt hi).2)⟩
theorem gen_endx(hs:Sess P l val pass Pr J Jx){T G:BS}{pre:List α}{wb w:World}{L:Hold}{R:List α→Prop}(hJ:Jx T G pre wb)(hS:Sep wb G T w L) :
    (∃ xs T G,R xs∧J T G xs w)∨∃ pre T G,Jx T G pre w :=
  .inr ⟨pre,T,OwnB L,hs.genx hJ hS.pure (fun k ⟨i,hi⟩=>(hS.bd i k hi).elim (fun q => .inr (by have:=hS.pure.size;omega)) .inl) (fun k ⟨i,hi⟩=>((hS.ok i).lt hi).2)⟩
end
theorem gen_start{P:Program}{l:Nat}{α:Type}{val:α→Array Value}{pass:α→FP}{Pr:List α→Prop}{J Jx:BS→BS→List α→World→Prop}{T T1 G:BS}{w w1:World}{L:Hold}
    (h:Sep w G T w L) (hs:Sess P l val pass Pr J Jx) (hJ:J T1 G [] w1) (hp:Pure w w1) (hT:∀ k,T1 k→T k∨w.heap.size≤k):∃ G1,J T1 G1 [] w1∧Sep w1 G1 T1 w1 L:=by
  have hS:=h.yielded (T':=T1) ⟨hp.mono fun k _ q=>q.elim,hT,fun k hk=>((hs.two hJ).1 k hk).2⟩
  refine ⟨OwnB L,hs.gen hJ (Keeps.refl _ _) (fun k ⟨i,hi⟩=>?_) (fun k ⟨i,hi⟩=>((hS.ok i).lt hi).2),hS⟩
  rcases h.bd i k hi with q | q
  · have:=((h.ok i).lt hi).2;omega
  · exact .inl q
theorem callsIn_gen{P:Program}{f:FuncId}{fn:Func}{c:Code}{args:Array Value}{l:List Value}{w:World}{R:Ending→World→Prop}{N:Nat}(hf:P.funcs[f]? = some fn)(hb:fn.body=some c)(hN:fn.ntmps=N)(hl:l.length≤N)(ha:args=l.toArray)
    (h:WT Fence.wide 2 P N [.code c] (bodyPost P fn R) (lenv l) [] w):CallsIn Fence.wide 2 P f args w R:=by
  subst ha
  refine callsIn_of_wp hf hb trivial (WTa.code (h _ ⟨?_,lenv_eq l _,rfl⟩)) rfl
  simp
  omega
def FP.tt:FP:=⟨fun _ _=>True,fun h _=>h,fun h _=>h⟩
theorem leaves_marks2{F:Fence}{n:Nat}{P:Program}{fn:Func}{tmps:Array Value}{R:Ending→World→Prop} : ∀ (rs:List Nat) (W:World),rs.Nodup→(∀ r∈rs,W.heap[r]? = some (Obj.deferred (some []))) →
    (∀ W':World,Keeps (fun k=>k∈rs) W W'→LeavesIn F n P fn tmps R [] .returning W')→LeavesInM F n P fn tmps R (rs.map mark) .returning W:=by
  intro rs
  induction rs with
  | nil=>intro W _ _ h;exact h W (Keeps.refl _ _)
  | cons r rs ih =>
    intro W hn hd h
    have hr:=hd r (by simp)
    have hnr:=List.nodup_cons.1 hn
    refine ⟨by simp, .inl ⟨r,_,rfl,run_takeDeferred hr,?_⟩⟩
    refine ih (W.putObj r (.deferred none)) hnr.2 (fun q hq=>?_) fun W' hK=>?_
    · rw [World.putObj_heap_other (by rintro rfl;exact hnr.1 hq)];exact hd q (by simp [hq])
    · exact h W' (((ydV W r _).mono fun k _ e=>by subst e;simp).trans (hK.mono fun k _ e=>by simp [e]))
theorem Sep.unmark{w0 w w':World}{S O:BS}{L:Hold}(h:Sep w0 S O w L){rs:List Nat}(is js:List Nat)(hj:js.Nodup)(hd:∀ i∈is,i∉js)(hm:∀ r∈rs,∃ i∈is,(L i).has r)(hK:Keeps (fun k=>k∈rs) w w'):Sep w0 S O w' (rl (js.map L)):=by
  have h2:=h.step (w':=w') (L':=fun j=>if j∈is then .gone else L j) (T:=fun k=>k∈rs) hK (fun k _ hk=>by obtain ⟨i,_,hi⟩:=hm k hk;exact ⟨i,hi⟩)
    (fun j k hk=>by
      by_cases e:j∈is
      · simp only [if_pos e] at hk;cases hk
      · simp only [if_neg e] at hk;exact .inl ⟨j,hk⟩)
    (fun j=>by
      by_cases e:j∈is
      · simp only [if_pos e];exact .inr trivial
      · refine .inl ⟨j,by simp only [if_neg e],fun k hk hr=>?_⟩
        obtain ⟨i,hi,hb⟩:=hm k hr
        have:=h.nd i j k hb hk
        subst this
        exact e hi)
    (fun a b k ha hb=>by
      by_cases e1:a∈is
      · simp only [if_pos e1] at ha;cases ha
      · by_cases e2:b∈is
        · simp only [if_pos e2] at hb;cases hb
        · simp only [if_neg e1] at ha;simp only [if_neg e2] at hb;exact h.nd a b k ha hb)
  have h3:=h2.sel js hj
  have e:js.map (fun j=>if j∈is then Res.gone else L j)=js.map L:=List.map_congr_left fun j hjj=>by
    rw [if_neg fun q=>hd j q hjj]
  rw [e] at h3
  exact h3
section
variable {P : Program} {fn : Func} {N : Nat} {t : List Item} {R : Ending → World → Prop} {E : Env} {w : World} {rs : List Nat} {a : Act}
theorem wt_retn(hn:rs.Nodup)(hd:∀ r∈rs,w.heap[r]? = some (Obj.deferred (some [])))(h:∀ a,Rep N E (rs.map mark) a→∀ W',Keeps (fun k=>k∈rs) w W'→LeavesIn Fence.wide 3 P fn a.tmps R [] .returning W'):WT Fence.wide 3 P N (.code .ret::t) (bodyPostM Fence.wide 3 P fn R) E (rs.map mark) w :=
  yhZ fun a r=>by
    have hd':=r.defers
    show LeavesInM _ _ _ _ _ _ a.defers _ _
    rw [hd']
    exact leaves_marks2 rs w hn hd fun W' hk=>h a r W' hk
theorem wt_retk2{t1 t2:Tmp}{v1 v2:Value}(hn:rs.Nodup)(hd:∀ r∈rs,w.heap[r]? = some (Obj.deferred (some [])))(hr:fn.results = #[.tmp t1, .tmp t2])(h1:E t1=v1)(h2:E t2=v2)(h:∀ w',Keeps (fun k=>k∈rs) w w'→R (.returned (.tuple #[v1,v2])) w'):WT Fence.wide 3 P N (.code .ret::t) (bodyPostM Fence.wide 3 P fn R) E (rs.map mark) w :=
  wt_retn hn hd fun a r W' hk=>⟨_,results_tmp2 hr _ _ _,by rw [r.get,r.get,h1,h2];exact h W' hk⟩
end
theorem Sep.marked{w0 w:World}{S O:BS}{L:Hold}(h:Sep w0 S O w L)(i:Nat){D:Nat}(hi:L i=dfr D):∀ r∈[D],w.heap[r]? = some (Obj.deferred (some [])):=fun r hr=>by
  rw [List.mem_singleton] at hr
  subst hr
  have:=h.ok i
  rw [hi] at this
  exact this.2
theorem unmark1{L:Hold}(i:Nat){D:Nat}(hi:L i=dfr D):∀ r∈[D],∃ j∈[i],(L j).has r:=fun r hr=>by
  rw [List.mem_singleton] at hr
  subst hr
  exact ⟨i,by simp,by rw [hi];rfl⟩
section
variable {P : Program} {fn : Func} {N : Nat} {t : List Item} {R : Ending → World → Prop} {E : Env} {w : World} {rs : List Nat}
end
end Go.Proofs.YtjepipbkiadcpaaGreat
