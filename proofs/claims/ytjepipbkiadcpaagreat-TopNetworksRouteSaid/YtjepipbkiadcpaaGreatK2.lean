/- Texts laid together: Sem, Tab, Gt, Map, Ret, Arr, Dr, Ot, Alt, Cpk, Kt, Chips, Slices, Forest, Links, Joins, Begin, Burn, Use, Sb, Sc, Rep, Bfs, Dist, Fire2, Settle, Lend, Sum, Result, Math, GoodL, GoodS, GoodT, Graph, Connect, Parts, Conn2, Con, Red, Reduce, Unb, Awake, Rm, RedIn, Wr, Inv, Ln, Wl, ItP. -/
import Derived.Maps.Keyed
import Derived.DeepKeys4
import Derived.Test.YtjepipbkiadcpaaGreatProg
import Derived.ChangeAlike
import Derived.Handy
import Derived.Deep.QuietTactic
import Derived.BigQuiet
import Derived.Deep.RegionHeld3
import Derived.Laws.OwnMore
import Derived.Deep.Draws
import Derived.RangeFuncNested
import Derived.RangeFuncBound
import Derived.RangeFuncCalls
import Derived.RangeFuncLeaves
import Derived.RangeFuncFrom
import Derived.Shelf.Abstract
import Derived.Shelf.RegionOpen
import Derived.OwnWalkIn
import Derived.TacticsInMore
import Derived.LoopNIn
import Derived.LoopIn
import Derived.Deep.RegionWith
import Derived.Deep.LoopGhost
import Derived.Maps.Own
import Derived.Maps.OwnOps
import Derived.Deep.AppendLies
import Derived.Deep.RegionLaw
import Derived.Test.YtjepipbkiadcpaaGreatK1
set_option linter.unusedVariables false
set_option linter.unusedSimpArgs false
set_option linter.unusedSectionVars false
/- Things of any shape: lists of slices and variables of one's own, of which one at a time is taken out and put back. No program in sight. -/
namespace Go.Proofs.YtjepipbkiadcpaaGreat
open Go Go.RowKit Go.Shelf Go.Proofs.Tryz
theorem ydC{a b:Nat}(d:Nat.beq a b=false):a≠b:=fun e=>by subst e;rw [Nat.beq_refl] at d;cases d
def SP.none:SP:=⟨fun _=>False,fun _=>True,fun _ h=>h.elim,fun _ _=>trivial⟩
def SP.own{τ:Type}(f:Fl τ)(e:TypeId)(A:Option Addr)(l cap:Nat)(xs:List τ):SP where
  has k:=A.map (·.block)=some k
  ok w:=OwnC f.cod 0 no w e A l cap xs
  lt:=fun ⟨_,cells,ho,_⟩ hk=>(ho.at_ hk).2
  keep:=fun ⟨hl,cells,ho,hc⟩ hk=>⟨hl,cells,ho.keep_ hk,hc⟩
def SP.box(e:TypeId)(g:Nat)(cells:List Value):SP where
  has k:=some g=some k
  ok w:=Row w g e cells.length cells
  lt:=fun h hk=>by cases hk;exact h.lt
  keep:=fun h hk=>h.keep (hk g rfl)
def SP.star(p:Prop)(l:List SP):SP where
  has k:=∃ i Φ,l[i]? = some Φ∧SP.has Φ k
  ok w:=p∧(∀ (i:Nat) Φ,l[i]? = some Φ→SP.ok Φ w)∧∀ (i j:Nat) Φ Ψ k,l[i]? = some Φ→l[j]? = some Ψ→SP.has Φ k→SP.has Ψ k→i=j
  lt:=fun h ⟨i,Φ,hi,hk⟩=>Φ.lt (h.2.1 i Φ hi) hk
  keep:=fun h hk=>⟨h.1,fun i Φ hi=>Φ.keep (h.2.1 i Φ hi) fun k q=>hk k ⟨i,Φ,hi,q⟩,h.2.2⟩
section
variable {w0 w : World} {S O : Nat → Prop} {L L' : Hold}
theorem Sep.form(h:Sep w0 S O w L)(hb:∀ j k,(L' j).has k→∃ i,(L i).has k)(hok:∀ j,L' j=L j∨(L' j).ok 0 (Bl O L') w)(nd:∀ i j k,(L' i).has k→(L' j).has k→i=j):Sep w0 S O w L' :=
  h.step (T:=no) (Keeps.refl _ _) (fun _ _ q=>q.elim) (fun j k hk => .inl (hb j k hk)) (fun j=>(hok j).elim (fun e => .inl ⟨j,e,fun _ _=>id⟩) .inr) nd
theorem OwnC.flat{τ:Type}{f:Fl τ}{B B':Nat}{O O':Nat→Prop}{w w':World}{e:TypeId}{A:Option Addr}{l cap:Nat}{xs:List τ}(h:OwnC f.cod B O w e A l cap xs)(hB:B'≤B):OwnC f.cod B' O' w e A l cap xs:=by
  obtain ⟨hl,cells,ho,hc⟩:=h
  exact ⟨hl,cells,ho.base hB,hc⟩
theorem Sep.one(h:Sep w0 S O w L)(i:Nat){r:Res}(hb:∀ k,r.has k→(L i).has k)(hok:r.ok 0 (Bl O (stl L i r)) w):Sep w0 S O w (stl L i r) :=
  h.upd i r (T:=no) (Keeps.refl _ _) (fun _ _ q=>q.elim) (fun k hk => .inl (hb k hk)) hok
theorem Sep.semown(h:Sep w0 S O w L)(i:Nat){τ:Type}{f:Fl τ}{e:TypeId}{A:Option Addr}{l cap:Nat}{xs:List τ}(hi:L i = .sem (SP.own f e A l cap xs)):Sep w0 S O w (stl L i (.own f.cod e A l cap xs)):=by
  refine h.one i (fun k hk=>by rw [hi];exact hk) ?_
  have:=h.ok i
  rw [hi] at this
  exact OwnC.flat (w':=w) this.1 (Nat.le_refl _)
theorem Sep.ownsem(h:Sep w0 S O w L)(i:Nat){τ:Type}{f:Fl τ}{e:TypeId}{A:Option Addr}{l cap:Nat}{xs:List τ}(hi:L i = .own f.cod e A l cap xs):Sep w0 S O w (stl L i (.sem (SP.own f e A l cap xs))):=by
  refine h.one i (fun k hk=>by rw [hi];exact hk) ?_
  have:=h.ok i
  rw [hi] at this
  exact ⟨OwnC.flat (w':=w) this (Nat.le_refl _),fun _ _=>Nat.zero_le _⟩
theorem Sep.sembox(h:Sep w0 S O w L)(i:Nat){e:TypeId}{g:Nat}{cells:List Value}(hi:L i = .sem (SP.box e g cells)):Sep w0 S O w (stl L i (.box e g cells)):=by
  refine h.one i (fun k hk=>by rw [hi];exact hk) ?_
  have:=h.ok i
  rw [hi] at this
  exact ⟨Nat.zero_le _,this.1⟩
theorem Sep.boxsem(h:Sep w0 S O w L)(i:Nat){e:TypeId}{g:Nat}{cells:List Value}(hi:L i = .box e g cells):Sep w0 S O w (stl L i (.sem (SP.box e g cells))):=by
  refine h.one i (fun k hk=>by rw [hi];exact hk) ?_
  have:=h.ok i
  rw [hi] at this
  exact ⟨this.2,fun _ _=>Nat.zero_le _⟩
theorem Sep.snil(h:Sep w0 S O w L)(i:Nat)(hi:L i = .gone){p:Prop}(hp:p):Sep w0 S O w (stl L i (.sem (SP.star p []))):=by
  refine h.one i (fun k hk=>?_) ⟨⟨hp,fun j Φ hj=>by simp at hj,fun a b Φ Ψ k ha=>by simp at ha⟩,fun _ _=>Nat.zero_le _⟩
  obtain ⟨j,Φ,hj,_⟩:=hk
  simp at hj
theorem set_get{l:List SP}{a i:Nat}{Φ Ψ:SP}(h:(l.set a Φ)[i]? = some Ψ):(i=a∧Ψ=Φ)∨(i≠a∧l[i]? = some Ψ):=by
  rw [List.getElem?_set] at h
  split at h
  · rename_i e
    split at h
    · cases h;exact .inl ⟨e.symm,rfl⟩
    · cases h
  · rename_i e;exact .inr ⟨fun q=>e q.symm,h⟩
theorem Sep.stake(h:Sep w0 S O w L)(i j a:Nat)(d:Nat.beq j i=false){p:Prop}{l:List SP}{Φ:SP}(hi:L i = .sem (SP.star p l))(hj:L j = .gone)(ha:l[a]? = some Φ) :
    Sep w0 S O w (stl (stl L i (.sem (SP.star p (l.set a SP.none)))) j (.sem Φ)):=by
  have hij:j≠i:=ydC d
  have hok:=h.ok i
  rw [hi] at hok
  obtain ⟨⟨o0,o1,o2⟩,_⟩:=hok
  have hLi:∀ k,(L i).has k↔∃ b Ψ,l[b]? = some Ψ∧SP.has Ψ k:=fun k=>by rw [hi];exact Iff.rfl
  have e1:∀ x,x≠i→x≠j→stl (stl L i (.sem (SP.star p (l.set a SP.none)))) j (.sem Φ) x=L x:=fun x q1 q2=>by rw [yaJ _ _ q2,yaJ _ _ q1]
  have ei:stl (stl L i (.sem (SP.star p (l.set a SP.none)))) j (.sem Φ) i = .sem (SP.star p (l.set a SP.none)):=by rw [yaJ _ _ (fun q=>hij q.symm),yaS]
  have hset:∀ k,(Res.sem (SP.star p (l.set a SP.none))).has k→∃ b Ψ,b≠a∧l[b]? = some Ψ∧SP.has Ψ k:=fun k hk=>by
    obtain ⟨b,Ψ,hb,hk⟩:=hk
    rcases set_get hb with ⟨_,rfl⟩ | ⟨q,hb⟩
    · exact hk.elim
    · exact ⟨b,Ψ,q,hb,hk⟩
  refine h.form (fun x k hk=>?_) (fun x=>?_) (fun x y k hx hy=>?_)
  · by_cases q2:x=j
    · subst q2;rw [yaS] at hk;exact ⟨i,(hLi k).2 ⟨a,Φ,ha,hk⟩⟩
    · by_cases q1:x=i
      · subst q1;rw [ei] at hk;obtain ⟨b,Ψ,_,hb,hk⟩:=hset k hk;exact ⟨x,(hLi k).2 ⟨b,Ψ,hb,hk⟩⟩
      · rw [e1 x q1 q2] at hk;exact ⟨x,hk⟩
  · by_cases q2:x=j
    · subst q2;rw [yaS];exact .inr ⟨o1 a Φ ha,fun _ _=>Nat.zero_le _⟩
    · by_cases q1:x=i
      · subst q1
        rw [ei]
        refine .inr ⟨⟨o0,fun b Ψ hb=>?_,fun b c Ψ Χ k hb hc hk hk'=>?_⟩,fun _ _=>Nat.zero_le _⟩
        · rcases set_get hb with ⟨_,rfl⟩ | ⟨_,hb⟩
          · trivial
          · exact o1 b Ψ hb
        · rcases set_get hb with ⟨_,rfl⟩ | ⟨_,hb⟩
          · exact hk.elim
          · rcases set_get hc with ⟨_,rfl⟩ | ⟨_,hc⟩
            · exact hk'.elim
            · exact o2 b c Ψ Χ k hb hc hk hk'
      · exact .inl (e1 x q1 q2)
  · have key:∀ x y,x≠y→(stl (stl L i (.sem (SP.star p (l.set a SP.none)))) j (.sem Φ) x).has k→(stl (stl L i (.sem (SP.star p (l.set a SP.none)))) j (.sem Φ) y).has k→y=j∨(y=i∧x≠j)→False:=fun x y hne hx hy hd=>by
      rcases hd with e | ⟨e,hxj⟩
      · rw [e,yaS] at hy
        rw [e] at hne
        by_cases q1:x=i
        · rw [q1,ei] at hx
          obtain ⟨b,Ψ,hba,hb,hk⟩:=hset k hx
          exact hba (o2 b a Ψ Φ k hb ha hk hy)
        · rw [e1 x q1 hne] at hx
          exact q1 (h.nd x i k hx ((hLi k).2 ⟨a,Φ,ha,hy⟩))
      · rw [e,ei] at hy
        rw [e] at hne
        obtain ⟨b,Ψ,hba,hb,hk⟩:=hset k hy
        rw [e1 x hne hxj] at hx
        exact hne (h.nd x i k hx ((hLi k).2 ⟨b,Ψ,hb,hk⟩))
    apply Classical.byContradiction
    intro hne
    by_cases y1:y=j
    · exact key x y hne hx hy (.inl y1)
    · by_cases x1:x=j
      · exact key y x (fun q=>hne q.symm) hy hx (.inl x1)
      · by_cases y2:y=i
        · exact key x y hne hx hy (.inr ⟨y2,x1⟩)
        · by_cases x2:x=i
          · exact key y x (fun q=>hne q.symm) hy hx (.inr ⟨x2,y1⟩)
          · rw [e1 x x2 x1] at hx;rw [e1 y y2 y1] at hy;exact hne (h.nd x y k hx hy)
theorem Sep.sput0(h:Sep w0 S O w L)(i j:Nat)(d:Nat.beq j i=false){p p':Prop}(hp:p→p'){l l':List SP}{Φ:SP}(hi:L i = .sem (SP.star p l))(hj:L j = .sem Φ)
    (hl:∀ (b:Nat) Ψ,l'[b]? = some Ψ→l[b]? = some Ψ∨Ψ=Φ) (hu:∀ (b c:Nat) Ψ Χ k,l'[b]? = some Ψ→l'[c]? = some Χ→Ψ=Φ→Χ=Φ→SP.has Ψ k→b=c):Sep w0 S O w (stl (stl L j .gone) i (.sem (SP.star p' l'))):=by
  have hij:j≠i:=ydC d
  have hok:=h.ok i
  rw [hi] at hok
  obtain ⟨⟨o0,o1,o2⟩,_⟩:=hok
  have hokj:=h.ok j
  rw [hj] at hokj
  have hLi:∀ k,(L i).has k↔∃ b Ψ,l[b]? = some Ψ∧SP.has Ψ k:=fun k=>by rw [hi];exact Iff.rfl
  have hLj:∀ k,(L j).has k↔SP.has Φ k:=fun k=>by rw [hj]
  have hap:∀ (b:Nat) Ψ k,l[b]? = some Ψ→SP.has Ψ k→SP.has Φ k→False:=fun b Ψ k hb hk hk'=>hij (h.nd j i k ((hLj k).2 hk') ((hLi k).2 ⟨b,Ψ,hb,hk⟩))
  have e1:∀ x,x≠i→x≠j→stl (stl L j .gone) i (.sem (SP.star p' l')) x=L x:=fun x q1 q2=>by rw [yaJ _ _ q1,yaJ _ _ q2]
  have ej:stl (stl L j .gone) i (.sem (SP.star p' l')) j = .gone:=by rw [yaJ _ _ hij,yaS]
  have hnew:∀ k,(Res.sem (SP.star p' l')).has k→(L i).has k∨(L j).has k:=fun k ⟨b,Ψ,hb,hk⟩=>by
    rcases hl b Ψ hb with q | rfl
    · exact .inl ((hLi k).2 ⟨b,Ψ,q,hk⟩)
    · exact .inr ((hLj k).2 hk)
  refine h.form (fun x k hk=>?_) (fun x=>?_) (fun x y k hx hy=>?_)
  · by_cases q1:x=i
    · subst q1;rw [yaS] at hk;exact (hnew k hk).elim (fun q=>⟨x,q⟩) (fun q=>⟨j,q⟩)
    · by_cases q2:x=j
      · subst q2;rw [ej] at hk;cases hk
      · rw [e1 x q1 q2] at hk;exact ⟨x,hk⟩
  · by_cases q1:x=i
    · subst q1
      rw [yaS]
      refine .inr ⟨⟨hp o0,fun b Ψ hb=>?_,fun b c Ψ Χ k hb hc hk hk'=>?_⟩,fun _ _=>Nat.zero_le _⟩
      · rcases hl b Ψ hb with q | rfl
        · exact o1 b Ψ q
        · exact hokj.1
      · rcases hl b Ψ hb with q | q
        · rcases hl c Χ hc with q' | q'
          · exact o2 b c Ψ Χ k q q' hk hk'
          · exact (hap b Ψ k q hk (q'▸hk')).elim
        · rcases hl c Χ hc with q' | q'
          · exact (hap c Χ k q' hk' (q▸hk)).elim
          · exact hu b c Ψ Χ k hb hc q q' hk
    · by_cases q2:x=j
      · subst q2;rw [ej];exact .inr trivial
      · exact .inl (e1 x q1 q2)
  · have key:∀ x y,x≠y→y=i→(stl (stl L j .gone) i (.sem (SP.star p' l')) x).has k→(stl (stl L j .gone) i (.sem (SP.star p' l')) y).has k→False:=fun x y hne hyi hx hy=>by
      subst hyi
      rw [yaS] at hy
      by_cases q2:x=j
      · subst q2;rw [ej] at hx;cases hx
      · rw [e1 x hne q2] at hx
        rcases hnew k hy with q | q
        · exact hne (h.nd x y k hx q)
        · exact q2 (h.nd x j k hx q)
    apply Classical.byContradiction
    intro hne
    by_cases y1:y=i
    · exact key x y hne y1 hx hy
    · by_cases x1:x=i
      · exact key y x (fun q=>hne q.symm) x1 hy hx
      · by_cases x2:x=j
        · subst x2;rw [ej] at hx;cases hx
        · by_cases y2:y=j
          · subst y2;rw [ej] at hy;cases hy
          · rw [e1 x x1 x2] at hx;rw [e1 y y1 y2] at hy;exact hne (h.nd x y k hx hy)
end
def rgS(n:Nat)(F:Nat→SP):List SP:=(List.range n).map F
theorem yha{n a:Nat}{F:Nat→SP}(h:a<n):(rgS n F)[a]? = some (F a):=by unfold rgS;rw [List.getElem?_map,List.getElem?_range h];rfl
theorem yhM{n b:Nat}{F:Nat→SP}{Ψ:SP}(h:(rgS n F)[b]? = some Ψ):b<n∧Ψ=F b:=by
  have hb:b<n:=by
    have:=(List.getElem?_eq_some_iff.1 h).1
    simpa [rgS] using this
  rw [yha hb] at h
  exact ⟨hb,(Option.some.inj h).symm⟩
section
variable {w0 w : World} {S O : Nat → Prop} {L : Hold}
theorem Sep.rgout(h:Sep w0 S O w L)(i j:Nat)(d:Nat.beq j i=false){p:Prop}{n a:Nat}{F:Nat→SP}(hi:L i = .sem (SP.star p (rgS n F)))(hj:L j = .gone)(ha:a<n) :
    Sep w0 S O w (stl (stl L i (.sem (SP.star p ((rgS n F).set a SP.none)))) j (.sem (F a))):=h.stake i j a d hi hj (yha ha)
theorem Sep.rgin(h:Sep w0 S O w L)(i j:Nat)(d:Nat.beq j i=false){p p':Prop}(hp:p→p'){n a:Nat}{F F':Nat→SP}{Φ:SP}(hi:L i = .sem (SP.star p ((rgS n F).set a SP.none)))(hj:L j = .sem Φ)(ha:F' a=Φ)(hF:∀ b,b<n→b≠a→F' b=F b) :
    Sep w0 S O w (stl (stl L j .gone) i (.sem (SP.star p' (rgS n F')))):=by
  have key:∀ (b:Nat) Ψ,(rgS n F')[b]? = some Ψ→(b=a∧Ψ=Φ)∨(b≠a∧((rgS n F).set a SP.none)[b]? = some Ψ):=fun b Ψ hb=>by
    obtain ⟨hbn,rfl⟩:=yhM hb
    by_cases e:b=a
    · subst e;exact .inl ⟨rfl,ha⟩
    · refine .inr ⟨e,?_⟩
      rw [List.getElem?_set_ne (fun q=>e q.symm),hF b hbn e]
      exact yha hbn
  refine h.sput0 i j d hp hi hj (fun b Ψ hb=>(key b Ψ hb).elim (fun q => .inr q.2) (fun q => .inl q.2)) fun b c Ψ Χ k hb hc e1 e2 hk=>?_
  subst e1
  have hap:∀ b:Nat,((rgS n F).set a SP.none)[b]? = some Ψ→False:=fun b hb=>by
    have hij:j≠i:=ydC d
    exact hij (h.nd j i k (by rw [hj];exact hk) (by rw [hi];exact ⟨b,Ψ,hb,hk⟩))
  rcases key b Ψ hb with ⟨q,_⟩ | ⟨_,q⟩
  · subst e2
    rcases key c _ hc with ⟨q',_⟩ | ⟨_,q'⟩
    · rw [q,q']
    · exact (hap c q').elim
  · exact (hap b q).elim
theorem Sep.rgadd(h:Sep w0 S O w L)(i j:Nat)(d:Nat.beq j i=false){p p':Prop}(hp:p→p'){n:Nat}{F F':Nat→SP}{Φ:SP}(hi:L i = .sem (SP.star p (rgS n F)))(hj:L j = .sem Φ)(ha:F' n=Φ)(hF:∀ b,b<n→F' b=F b) :
    Sep w0 S O w (stl (stl L j .gone) i (.sem (SP.star p' (rgS (n+1) F')))):=by
  have key:∀ (b:Nat) Ψ,(rgS (n+1) F')[b]? = some Ψ→(b=n∧Ψ=Φ)∨(rgS n F)[b]? = some Ψ:=fun b Ψ hb=>by
    obtain ⟨hbn,rfl⟩:=yhM hb
    by_cases e:b=n
    · subst e;exact .inl ⟨rfl,ha⟩
    · refine .inr ?_
      rw [hF b (by omega)]
      exact yha (by omega)
  refine h.sput0 i j d hp hi hj (fun b Ψ hb=>(key b Ψ hb).elim (fun q => .inr q.2) .inl) fun b c Ψ Χ k hb hc e1 e2 hk=>?_
  subst e1
  have hap:∀ b:Nat,(rgS n F)[b]? = some Ψ→False:=fun b hb=>by
    have hij:j≠i:=ydC d
    exact hij (h.nd j i k (by rw [hj];exact hk) (by rw [hi];exact ⟨b,Ψ,hb,hk⟩))
  rcases key b Ψ hb with ⟨q,_⟩ | q
  · subst e2
    rcases key c _ hc with ⟨q',_⟩ | q'
    · rw [q,q']
    · exact (hap c q').elim
  · exact (hap b q).elim
theorem Sep.rgnil(h:Sep w0 S O w L)(i:Nat)(hi:L i = .gone){p:Prop}(hp:p)(F:Nat→SP):Sep w0 S O w (stl L i (.sem (SP.star p (rgS 0 F)))):=h.snil i hi hp
theorem Sep.rgfact(h:Sep w0 S O w L)(i:Nat){p:Prop}{l:List SP}(hi:L i = .sem (SP.star p l)):p:=by
  have:=h.ok i
  rw [hi] at this
  exact this.1.1
end
end Go.Proofs.YtjepipbkiadcpaaGreat

/- A table whose rows are slices of one's own: the outer slice holds their addresses, the rows are one thing. No program in sight. -/
namespace Go.Proofs.YtjepipbkiadcpaaGreat
open Go Go.RowKit Go.Shelf Go.Proofs.Tryz
def fA:Fl (Option Addr×Nat×Nat):=⟨1,fun x=>[.slice x.1 x.2.1 x.2.2],fun _=>rfl,fun x u hu=>by rw [List.mem_singleton] at hu;subst hu;rfl⟩
def cA:Cod (Option Addr×Nat×Nat):=fA.cod
section
variable {w0 w w' : World} {S O : Nat → Prop} {L : Hold} {e e2 : TypeId} {G : List Nat} {T : List (List Int)}
end
end Go.Proofs.YtjepipbkiadcpaaGreat

/- Tables whose rows are one's own, of any capacity: one row at a time is taken out and put back. No program in sight. -/
namespace Go.Proofs.YtjepipbkiadcpaaGreat
open Go Go.RowKit Go.Shelf Go.Proofs.Tryz
theorem ygs{τ σ:Type}{Q:List τ}{T:List σ}{a:Int}(hl:Q.length=T.length)(h:0≤a∧a<(T.length:Int)):0≤a∧a<(Q.length:Int):=by omega
abbrev AT:=Option Addr×Nat×Nat
theorem ybm{τ:Type} [Inhabited τ]{T:List τ}{a k:Nat}{r:τ}(ha:a<T.length):gx (T.set a r) k=if k=a then r else gx T k:=by
  unfold gx
  simp only [List.getD_eq_getElem?_getD,List.getElem?_set]
  by_cases e:k=a
  · subst e;simp [ha]
  · rw [if_neg (by omega),if_neg e]
theorem yeg{τ:Type} [Inhabited τ]{T:List τ}{k:Nat}{r:τ} : gx (T++[r]) k=if k<T.length then gx T k else if k=T.length then r else default:=by
  unfold gx
  simp only [List.getD_eq_getElem?_getD]
  by_cases h:k<T.length
  · rw [if_pos h,List.getElem?_append_left h]
  · rw [if_neg h,List.getElem?_append_right (by omega)]
    by_cases e:k=T.length
    · subst e;simp
    · rw [if_neg e,List.getElem?_eq_none (by simp;omega)];rfl
theorem yfv{τ:Type} [Inhabited τ]{T:List τ}{a:Nat} : T.set a (gx T a)=T:=by
  refine List.ext_getElem? fun k=>?_
  rw [List.getElem?_set]
  by_cases e:a=k
  · subst e
    by_cases h:a<T.length
    · rw [if_pos rfl,if_pos h];unfold gx;simp [h]
    · rw [if_pos rfl,if_neg h,List.getElem?_eq_none (by omega)]
  · rw [if_neg e]
def rwF(e:TypeId)(Q:List AT)(T:List (List Int))(i:Nat):SP:=SP.own (fI .i64) e (gx Q i).1 (gx Q i).2.1 (gx Q i).2.2 (gx T i)
def gtS(e:TypeId)(Q:List AT)(T:List (List Int)):SP:=SP.star (Q.length=T.length) (rgS T.length (rwF e Q T))
def gtH(e:TypeId)(Q:List AT)(T:List (List Int))(a:Nat):SP:=SP.star (Q.length=T.length) ((rgS T.length (rwF e Q T)).set a SP.none)
section
variable {w0 w w' : World} {S O : Nat → Prop} {L : Hold} {e e2 : TypeId} {Q : List AT} {T : List (List Int)}
theorem Sep.gtnil(h:Sep w0 S O w L)(i:Nat)(hi:L i = .gone)(e:TypeId):Sep w0 S O w (stl L i (.sem (gtS e [] []))):=h.rgnil i hi rfl _
theorem Sep.gtlen(h:Sep w0 S O w L)(i:Nat)(hi:L i = .sem (gtS e Q T)):Q.length=T.length:=h.rgfact i hi
theorem Sep.gtlenH(h:Sep w0 S O w L)(i:Nat){a:Nat}(hi:L i = .sem (gtH e Q T a)):Q.length=T.length:=h.rgfact i hi
theorem Sep.gtout(h:Sep w0 S O w L)(i j:Nat)(d:Nat.beq j i=false)(hi:L i = .sem (gtS e Q T))(hj:L j = .gone){a:Int}(ha:0≤a∧a<(T.length:Int)) :
    Sep w0 S O w (stl (stl L i (.sem (gtH e Q T a.toNat))) j (.own cI e (gx Q a.toNat).1 (gx Q a.toNat).2.1 (gx Q a.toNat).2.2 (gx T a.toNat))):=by
  have h1:=h.rgout i j d hi hj (a:=a.toNat) (by omega)
  have h2:=h1.semown j (yaS _ _ _)
  have e1:∀ (L0:Hold) (r r':Res),stl (stl L0 j r) j r'=stl L0 j r':=fun L0 r r'=>by
    funext x
    by_cases q:x=j
    · subst q;rw [yaS,yaS]
    · rw [yaJ _ _ q,yaJ _ _ q,yaJ _ _ q]
  rw [e1] at h2
  exact h2
theorem ydY(L0:Hold)(j:Nat)(r r':Res):stl (stl L0 j r) j r'=stl L0 j r':=by
  funext x
  by_cases q:x=j
  · subst q;rw [yaS,yaS]
  · rw [yaJ _ _ q,yaJ _ _ q,yaJ _ _ q]
theorem Sep.gtin(h:Sep w0 S O w L)(i j:Nat)(d:Nat.beq j i=false){a:Int}(hi:L i = .sem (gtH e Q T a.toNat)){A:Option Addr}{l c:Nat}{xs:List Int}(hj:L j = .own cI e A l c xs)(ha:0≤a∧a<(T.length:Int)) :
    Sep w0 S O w (stl (stl L j .gone) i (.sem (gtS e (Q.set a.toNat (A,l,c)) (T.set a.toNat xs)))):=by
  have hij:j≠i:=ydC d
  have hQ:Q.length=T.length:=h.rgfact i hi
  have h1:=h.ownsem j (f:=fI .i64) hj
  have hi1:stl L j (.sem (SP.own (fI .i64) e A l c xs)) i = .sem (gtH e Q T a.toNat):=by rw [yaJ _ _ (fun q=>hij q.symm),hi]
  have h2:=h1.rgin i j d (p':=(Q.set a.toNat (A,l,c)).length=(T.set a.toNat xs).length) (fun q=>by rw [List.length_set,List.length_set];exact q) hi1 (yaS _ _ _)
    (F':=rwF e (Q.set a.toNat (A,l,c)) (T.set a.toNat xs)) (by unfold rwF;rw [ybm (by omega),ybm (by omega),if_pos rfl,if_pos rfl])
    (fun b hb hne=>by unfold rwF;rw [ybm (by omega),ybm (by omega),if_neg hne,if_neg hne])
  rw [ydY] at h2
  have e1:gtS e (Q.set a.toNat (A,l,c)) (T.set a.toNat xs)=SP.star ((Q.set a.toNat (A,l,c)).length=(T.set a.toNat xs).length) (rgS T.length (rwF e (Q.set a.toNat (A,l,c)) (T.set a.toNat xs))):=by
    have hlen:(T.set a.toNat xs).length=T.length:=List.length_set
    unfold gtS;rw [hlen]
  rw [e1];exact h2
theorem Sep.gtin' (h:Sep w0 S O w L)(i j:Nat)(d:Nat.beq j i=false){a:Int}(hi:L i = .sem (gtH e Q T a.toNat)){xs:List Int}(hj:L j = .own cI e (gx Q a.toNat).1 (gx Q a.toNat).2.1 (gx Q a.toNat).2.2 xs)(ha:0≤a∧a<(T.length:Int)) :
    Sep w0 S O w (stl (stl L j .gone) i (.sem (gtS e Q (T.set a.toNat xs)))):=by
  have h1:=h.gtin i j d hi hj ha
  have e1:((gx Q a.toNat).1,(gx Q a.toNat).2.1,(gx Q a.toNat).2.2)=gx Q a.toNat:=rfl
  rw [e1,yfv] at h1
  exact h1
theorem Sep.gtadd(h:Sep w0 S O w L)(i j:Nat)(d:Nat.beq j i=false)(hi:L i = .sem (gtS e Q T)){A:Option Addr}{l c:Nat}{xs:List Int}(hj:L j = .own cI e A l c xs) :
    Sep w0 S O w (stl (stl L j .gone) i (.sem (gtS e (Q++[(A,l,c)]) (T++[xs])))):=by
  have hij:j≠i:=ydC d
  have hQ:Q.length=T.length:=h.rgfact i hi
  have h1:=h.ownsem j (f:=fI .i64) hj
  have hi1:stl L j (.sem (SP.own (fI .i64) e A l c xs)) i = .sem (gtS e Q T):=by rw [yaJ _ _ (fun q=>hij q.symm),hi]
  have h2:=h1.rgadd i j d (p':=(Q++[(A,l,c)]).length=(T++[xs]).length) (fun q=>by rw [List.length_append,List.length_append,q];rfl) hi1 (yaS _ _ _)
    (F':=rwF e (Q++[(A,l,c)]) (T++[xs])) (by unfold rwF;rw [yeg,yeg];simp [hQ])
    (fun b hb=>by unfold rwF;rw [yeg,yeg];simp [hQ,hb])
  rw [ydY] at h2
  have e1:gtS e (Q++[(A,l,c)]) (T++[xs])=SP.star ((Q++[(A,l,c)]).length=(T++[xs]).length) (rgS (T.length+1) (rwF e (Q++[(A,l,c)]) (T++[xs]))):=by
    have hlen:(T++[xs]).length=T.length+1:=by rw [List.length_append];rfl
    unfold gtS;rw [hlen]
  rw [e1];exact h2
theorem Sep.gtok(h:Sep w0 S O w L)(i:Nat)(hi:L i = .sem (gtS e Q T)){a:Nat}(ha:a<T.length):OwnC cI 0 no w e (gx Q a).1 (gx Q a).2.1 (gx Q a).2.2 (gx T a):=by
  have:=h.ok i
  rw [hi] at this
  exact this.1.2.1 a _ (yha ha)
theorem Sep.gtrd(h:Sep w0 S O w L)(i j:Nat)(hi:L i = .sem (gtS e Q T)){A:Option Addr}{l cap:Nat}(hj:L j = .own cA e2 A l cap Q):(FP.sl (cL cI) A l cap T).P no w:=by
  have hQ:=h.gtlen i hi
  have ho:=h.ok j
  rw [hj] at ho
  obtain ⟨hl,cells,ho,hc⟩:=ho
  refine ⟨by rw [←hQ];exact hl,ho.caps,fun h0=>?_⟩
  rcases ho.2 with ⟨rfl,rfl,rfl⟩ | ⟨g,o,cur,rfl,hb,hg,q⟩
  · omega
  · refine ⟨g,o,rfl,(Array.getElem?_eq_some_iff.1 hg).1,fun q=>q,fun k x hx=>?_⟩
    have hk:k<T.length:=(List.getElem?_eq_some_iff.1 hx).1
    obtain ⟨vs,h1,h2⟩:=hc k (gx Q k) (yaY (by omega))
    have hr:=(h.gtok i hi hk).rd (O':=no) (fun _ _ q=>q) (fun _ _ q=>q)
    have ex:gx T k=x:=by have:=yaY hk;rw [hx] at this;exact (Option.some.inj this).symm
    rw [ex] at hr
    refine ⟨vs,?_,fun j u hj=>?_⟩
    · have h1:vs=[.slice (gx Q k).1 (gx Q k).2.1 (gx Q k).2.2]:=h1
      rw [h1]
      exact ⟨_,_,_,rfl,hr⟩
    · obtain ⟨g',o',e',_,hcell,_⟩:=ho.cellAt (h2 j u hj)
      cases e'
      have:(cL cI).sz=cA.sz:=rfl
      rw [Nat.add_assoc,this];exact hcell
theorem Sep.gtzero(h:Sep w0 S O w L)(i:Nat)(hi:L i = .gone)(e:TypeId)(n:Nat):Sep w0 S O w (stl L i (.sem (gtS e (List.replicate n (none,0,0)) (List.replicate n [])))):=by
  have hQ:∀ k,gx (List.replicate n ((none,0,0):AT)) k=(none,0,0):=fun k=>by
    unfold gx
    rw [List.getD_eq_getElem?_getD,List.getElem?_replicate]
    split <;> rfl
  have hT:∀ k,gx (List.replicate n ([]:List Int)) k=[]:=fun k=>by
    unfold gx
    rw [List.getD_eq_getElem?_getD,List.getElem?_replicate]
    split <;> rfl
  have hno:∀ k,¬(Res.sem (gtS e (List.replicate n (none,0,0)) (List.replicate n []))).has k:=fun k ⟨b,Ψ,hb,hk⟩=>by
    obtain ⟨_,rfl⟩:=yhM hb
    unfold rwF at hk
    rw [hQ] at hk
    cases hk
  refine h.one i (fun k hk=>(hno k hk).elim) ⟨⟨by simp,fun b Ψ hb=>?_,fun b c Ψ Χ k hb hc hk hk'=>(hno k ⟨b,Ψ,hb,hk⟩).elim⟩,fun k hk=>Nat.zero_le _⟩
  obtain ⟨_,rfl⟩:=yhM hb
  unfold rwF
  rw [hQ,hT]
  exact OwnC.nil _ _ _ _ _
theorem Sep.gtback(h:Sep w0 S O w L)(i j:Nat)(d:Nat.beq j i=false){a:Int}(hi:L i = .sem (gtH e Q T a.toNat))(hj:L j = .own cI e (gx Q a.toNat).1 (gx Q a.toNat).2.1 (gx Q a.toNat).2.2 (gx T a.toNat))(ha:0≤a∧a<(T.length:Int)) :
    Sep w0 S O w (stl (stl L j .gone) i (.sem (gtS e Q T))):=by
  have h1:=h.gtin' i j d hi hj ha
  rw [yfv] at h1
  exact h1
theorem Sep.gtfrz(h:Sep w0 S O w L)(i j:Nat)(hij:Nat.beq i j=false)(hi:L i = .sem (gtS e Q T)){A:Option Addr}{l cap:Nat}(hj:L j = .own cA e2 A l cap Q):Sep w0 S O w (stl (stl L i .gone) j (.own (cL cI) e2 A l cap T)):=by
  have hij:i≠j:=ydC hij
  have hQ:=h.gtlen i hi
  obtain ⟨hl,cells,ho,hE⟩:=h.own j hj
  have hhas:∀ x k,(stl (stl L i .gone) j (.own (cL cI) e2 A l cap T) x).has k→x≠i∧(L x).has k:=by
    intro x k hx
    by_cases e1:x=j
    · subst e1;rw [yaS] at hx;exact ⟨hij.symm,by rw [hj];exact hx⟩
    · rw [yaJ _ _ e1] at hx
      by_cases e2:x=i
      · subst e2;rw [yaS] at hx;cases hx
      · rw [yaJ _ _ e2] at hx;exact ⟨e2,hx⟩
  have hnb:∀ k g,k<T.length→(gx Q k).1.map (·.block)=some g→¬Bl O (stl (stl L i .gone) j (.own (cL cI) e2 A l cap T)) g:=by
    intro k g hk hg
    have hb:(L i).has g:=by rw [hi];exact ⟨k,_,yha hk,hg⟩
    rintro (q | ⟨x,hx⟩)
    · have h1:=h.lt g q
      rcases h.bd i g hb with h2 | h2
      · omega
      · exact h1.2 h2
    · obtain ⟨h1,h2⟩:=hhas x g hx
      exact h1 (h.nd x i g h2 hb)
  refine h.step (T:=no) (Keeps.refl _ _) (fun _ _ h=>h.elim) (fun x k hk => .inl ⟨x,(hhas x k hk).2⟩) (fun x=>?_) (fun a b k ha hb=>h.nd a b k (hhas a k ha).2 (hhas b k hb).2)
  by_cases e1:x=j
  · subst e1
    rw [yaS]
    refine .inr ⟨by rw [hl,hQ],cells,ho,fun k xs hx=>?_⟩
    have hkT:k<T.length:=(List.getElem?_eq_some_iff.1 hx).1
    obtain ⟨vs,hR,hu⟩:=hE k _ (yaY (by omega))
    have hvs:vs=[.slice (gx Q k).1 (gx Q k).2.1 (gx Q k).2.2]:=hR
    have ex:gx T k=xs:=by have:=yaY hkT;rw [hx] at this;exact (Option.some.inj this).symm
    have hok:OwnC (fI .i64).cod 0 (Bl O (stl (stl L i .gone) x (.own (cL cI) e2 A l cap T))) w e (gx Q k).1 (gx Q k).2.1 (gx Q k).2.2 (gx T k):=OwnC.flat (w':=w) (h.gtok i hi hkT) (Nat.le_refl _)
    have hr:=hok.rd (fun k _ hk=>hk) (fun g hg=>hnb k g hkT hg)
    rw [ex] at hr
    exact ⟨vs,⟨_,_,_,hvs,hr⟩,hu⟩
  · rw [yaJ _ _ e1]
    by_cases e2:x=i
    · subst e2;rw [yaS];exact .inr trivial
    · rw [yaJ _ _ e2];exact .inl ⟨x,rfl,fun _ _=>id⟩
end
end Go.Proofs.YtjepipbkiadcpaaGreat

/- Maps of one's own, keyed by arrays of numbers: what they hold as a list of pairs. No program in sight. -/
namespace Go.Proofs.YtjepipbkiadcpaaGreat
open Go Go.RowKit Go.Shelf Go.Proofs.Tryz
def kE(l:List Int):Value := .agg (l.map (Value.int .i64)).toArray
section
variable {τ : Type}
def mget:List (List Int×τ)→List Int→Option τ
  | [],_=>none
  | p::t,k=>if p.1=k then some p.2 else mget t k
def mput:List (List Int×τ)→List Int→τ→List (List Int×τ)
  | [],k,v=>[(k,v)]
  | p::t,k,v=>if p.1=k then (k,v)::t else p::mput t k v
def KeyOk(n:Nat)(k:List Int):Prop:=k.length=n∧∀ x∈k,In64 x
def KOk(n:Nat)(m:List (List Int×τ)):Prop:=m.Pairwise (fun p q=>p.1≠q.1)∧∀ p∈m,KeyOk n p.1
theorem KOk.nil(n:Nat):KOk n ([]:List (List Int×τ)):=⟨.nil,fun p h=>by simp at h⟩
theorem mput_mem{m:List (List Int×τ)}{k:List Int}{v:τ}{p:List Int×τ}(h:p∈mput m k v):p.1=k∨p∈m:=by
  induction m with
  | nil=>simp [mput] at h;left;rw [h]
  | cons a t ih =>
    unfold mput at h
    split at h
    · rcases List.mem_cons.1 h with h | h
      · left;rw [h]
      · right;exact List.mem_cons_of_mem _ h
    · rcases List.mem_cons.1 h with h | h
      · right;rw [h];exact List.mem_cons_self
      · rcases ih h with h | h
        · exact .inl h
        · exact .inr (List.mem_cons_of_mem _ h)
theorem KOk.put{n:Nat}{m:List (List Int×τ)}(h:KOk n m){k:List Int}(hk:KeyOk n k)(v:τ):KOk n (mput m k v):=by
  refine ⟨?_,fun p hp=>?_⟩
  · obtain ⟨h1, -⟩:=h
    induction m with
    | nil=>exact .cons (fun _ h=>by simp at h) .nil
    | cons a t ih =>
      unfold mput
      rw [List.pairwise_cons] at h1
      split
      · rename_i e
        rw [List.pairwise_cons]
        exact ⟨fun q hq=>by have:=h1.1 q hq;rw [e] at this;exact this,h1.2⟩
      · rename_i e
        rw [List.pairwise_cons]
        refine ⟨fun q hq=>?_,ih h1.2⟩
        rcases mput_mem hq with h | h
        · rw [h];exact e
        · exact h1.1 q h
  · rcases mput_mem hp with h1 | h1
    · rw [h1];exact hk
    · exact h.2 p h1
theorem mget_put{m:List (List Int×τ)}{k k':List Int}{v:τ} : mget (mput m k v) k'=if k=k' then some v else mget m k':=by
  induction m with
  | nil=>rfl
  | cons a t ih =>
    unfold mput
    by_cases e:a.1=k
    · rw [if_pos e]
      show (if k=k' then some v else mget t k')=_
      by_cases e2:k=k'
      · rw [if_pos e2,if_pos e2]
      · rw [if_neg e2,if_neg e2]
        show _=if a.1=k' then some a.2 else mget t k'
        rw [if_neg (by rw [e];exact e2)]
    · rw [if_neg e]
      show (if a.1=k' then some a.2 else mget (mput t k v) k')=_
      rw [ih]
      by_cases e2:k=k'
      · subst e2;simp [e]
      · rw [if_neg e2,if_neg e2];rfl
theorem mput_length{m:List (List Int×τ)}{k:List Int}{v:τ} : (mput m k v).length=if (mget m k).isSome then m.length else m.length+1:=by
  induction m with
  | nil=>rfl
  | cons a t ih =>
    unfold mput mget
    by_cases e:a.1=k
    · rw [if_pos e,if_pos e];rfl
    · rw [if_neg e,if_neg e,List.length_cons,ih]
      split <;> rfl
theorem mget_mem{m:List (List Int×τ)}{k:List Int}{v:τ}(h:mget m k=some v):(k,v)∈m:=by
  induction m with
  | nil=>cases h
  | cons a t ih =>
    unfold mget at h
    split at h
    · rename_i e
      cases h
      rw [←e];exact List.mem_cons_self
    · exact List.mem_cons_of_mem _ (ih h)
theorem mget_at{m:List (List Int×τ)}(hd:m.Pairwise (fun p q=>p.1≠q.1)){k:List Int}{v:τ}{j:Nat}(h:m[j]? = some (k,v)):mget m k=some v:=by
  induction m generalizing j with
  | nil=>simp at h
  | cons a t ih =>
    rw [List.pairwise_cons] at hd
    unfold mget
    cases j with
    | zero=>simp at h;subst h;rw [if_pos rfl]
    | succ j =>
      rw [List.getElem?_cons_succ] at h
      rw [if_neg (hd.1 _ (List.mem_of_getElem? h))]
      exact ih hd.2 h
end
section
variable {τ : Type} {P : Program} {w : World} {k e mt : TypeId} {n : Nat} {vE : τ → Value} {m : List (List Int × τ)} {b : Nat} {key : List Int}
structure KeyT(P:Program)(k:TypeId)(n:Nat):Prop where
  law:Maps.Keyed P k
  of:∀ l,KeyOk n l→∃ t,keyOf P k (kE l)=some t
end
theorem n_val{P:Program}{o:Oper}{ρ:Operand→Value}{w:World}{K:Value→World→Prop}{v:Value}(h:(execOp ρ o).run P w = .ok (.value v) w)(hk:K v w):ybO P o ρ w K:=by
  unfold ybO;rw [h];exact hk
section
variable {τ : Type} {P : Program} {E : Env} {w : World} {d : Option Tmp} {x y z : Operand} {ty xt k e : TypeId} {ps : String} {af : Array Edge} {g : Option (Nat × Bool)} {K : Value → World → Prop} {n b : Nat} {vE : τ → Value} {m : List (List Int × τ)} {key : List Int}
end
section
variable {τ : Type} {w0 w w' : World} {S O : Nat → Prop} {L : Hold} {vE : τ → Value} {m : List (List Int × τ)} {b : Nat}
end
section
variable {τ : Type} {c : Cod τ} {O : Nat → Prop} {w : World} {A : Option Addr} {l cap : Nat} {xs : List τ}
end
section
variable {P : Program} {E : Env} {w : World} {d : Option Tmp} {x y z : Operand} {ty xt yt : TypeId} {ps : String} {af : Array Edge} {g : Option (Nat × Bool)} {K : Value → World → Prop}
def cpy(xs ys:List Int):List Int:=ys.take xs.length++xs.drop ys.length
theorem cpy_length(xs ys:List Int):(cpy xs ys).length=xs.length:=by unfold cpy;simp;omega
theorem OwnS.setN{B:Nat}{e:TypeId}{l c g:Nat} : ∀ (vs:List Value) (k:Nat) {w:World} {xs:List Value},OwnS w B e 1 (some ⟨g,0,none⟩) l c xs→k+vs.length≤xs.length→OwnS (w.setCells g k vs) B e 1 (some ⟨g,0,none⟩) l c (xs.take k++vs++xs.drop (k+vs.length))
  | [],k,w,xs,h,hk=>by
    have e:w.setCells g k []=w:=rfl
    rw [e];simpa using h
  | v::t,k,w,xs,h,hk=>by
    simp only [List.length_cons] at hk
    have h1:=h.set1 (i:=k) (by omega) v rfl
    rw [Nat.zero_add] at h1
    have h2:=OwnS.setN t (k+1) h1 (by rw [List.length_set];omega)
    have e1:(xs.set k v).take (k+1)=xs.take k++[v]:=by
      rw [List.take_add_one,List.take_set_of_le (Nat.le_refl k),List.getElem?_set_self (by omega)];rfl
    have e2:(xs.set k v).drop (k+1+t.length)=xs.drop (k+(t.length+1)):=by
      rw [List.drop_set_of_lt (by omega),show k+1+t.length=k+(t.length+1) by omega]
    rw [e1,e2,List.append_assoc (xs.take k)] at h2
    exact h2
theorem Sep.copied{w0 w':World}{S O:Nat→Prop}{L:Hold}(h:Sep w0 S O w L)(i:Nat){t:TypeId}{gb l cp:Nat}{xs ys:List Int}(hi:L i = .own cI t (some ⟨gb,0,none⟩) l cp xs)(hw:w'=w.setCells gb 0 ((ys.take l).map (Value.int .i64))) :
    Sep w0 S O w' (stl L i (.own cI t (some ⟨gb,0,none⟩) l cp (cpy xs ys))):=by
  obtain ⟨hl,cells,ho,hE⟩:=h.own i hi
  have hcl:cells=xs.map (Value.int .i64):=by
    refine List.ext_getElem? fun j=>?_
    rw [List.getElem?_map]
    cases hq:xs[j]? with
    | none =>
      have:=List.getElem?_eq_none_iff.1 hq
      rw [List.getElem?_eq_none (by rw [ho.1];show l*1≤j;omega)];rfl
    | some q =>
      obtain ⟨vs,hv,hc⟩:=hE j q hq
      have hv:vs=[.int .i64 q]:=hv
      subst hv
      have:=hc 0 _ rfl
      have e3:j*cI.sz+0=j:=by show j*1+0=j;omega
      rw [e3] at this
      exact this
  subst hcl
  have hn:=OwnS.setN ((ys.take l).map (Value.int .i64)) 0 ho (by simp;omega)
  have ecp:(xs.map (Value.int .i64)).take 0++(ys.take l).map (Value.int .i64)++(xs.map (Value.int .i64)).drop (0+((ys.take l).map (Value.int .i64)).length)=(cpy xs ys).map (Value.int .i64):=by
    have e4:((ys.take l).map (Value.int .i64)).length=min l ys.length:=by simp
    unfold cpy
    rw [List.take_zero,List.nil_append,Nat.zero_add,e4,List.map_append,hl,←List.map_drop]
    congr 2
    by_cases c:ys.length≤xs.length
    · rw [Nat.min_eq_right c]
    · rw [List.drop_eq_nil_of_le (by omega),List.drop_eq_nil_of_le (by omega)]
  rw [ecp] at hn
  have hblk:(L i).has gb:=by rw [hi];rfl
  have hK:∀ (vs:List Value) (o:Nat) {a w:World},Keeps (fun k=>k=gb) a w→Keeps (fun k=>k=gb) a (w.setCells gb o vs):=by
    intro vs
    induction vs with
    | nil=>intro o a w h;exact h
    | cons v t ih=>intro o a w h;exact ih (o+1) (h.setCell (p:=⟨gb,o,none⟩) (fun _=>rfl) v)
  refine h.upd i _ (T:=fun k=>k=gb) (by rw [hw];exact hK _ _ (Keeps.refl _ _)) (fun k _ e=>by rw [e];exact hblk) (fun k hk => .inl (by rw [hi];exact hk)) ⟨by rw [cpy_length];exact hl,_,by rw [hw];exact hn,fun j q hj=>⟨[.int .i64 q],rfl,fun u v hu=>?_⟩⟩
  have hu0:u=0:=by
    have:=(List.getElem?_eq_some_iff.1 hu).1
    simp at this;exact this
  subst hu0
  simp at hu
  subst hu
  have e3:j*cI.sz+0=j:=by show j*1+0=j;omega
  rw [e3,List.getElem?_map,hj];rfl
end
end Go.Proofs.YtjepipbkiadcpaaGreat

/- A function's end whose results lie partly in memory; pointers that may be nil; products as elements. No program in sight. -/
namespace Go.Proofs.YtjepipbkiadcpaaGreat
open Go Go.RowKit Go.Shelf Go.Proofs.Tryz
def RvE(P:Program)(E:Env)(w:World):ResultVar→Value→Prop
  | .tmp t,v=>E t=v
  | .cell t y,v=>∃ a,E t = .pointer (some a)∧(loadVar y a).run P w = .ok v w
section
variable {P : Program} {E : Env} {w : World} {t : Tmp} {y : TypeId}
theorem rv_t{v:Value}(h:E t=v):RvE P E w (.tmp t) v:=h
theorem rv_n{p:Addr}{u:TypeDesc}{vs:List Value}{zo:Option Value}{b:Nat}(h:E t = .pointer (some p))(hu:P.underlying y=some u)(hn:aggD u=true)(hi:(P.info? y).map (fun i=>(i.zero,i.size,i.bytes))=some (zo,vs.length,b))(hc:ygE w p 0 vs):RvE P E w (.cell t y) (.agg vs.toArray):=by
  refine ⟨p,h,?_⟩
  have:=yfr (P:=P) vs 0 #[] hc
  simp only [loadVar,Sem.run_bind,Result.andThen,ygW hu hn,ycd hi,if_true]
  simp only [loadCells,this,Sem.run_bind,Result.andThen,Sem.run_pure]
  simp
def rv1(tmps:Array Value):ResultVar→Sem Value
  | .tmp t=>pure (tmps.getD t undef)
  | .cell a t=>do loadVar t (←asAddr (tmps.getD a undef))
theorem rv1_run{rv:ResultVar}{v:Value}{N:Nat}{ds:List Deferred}{a:Act}(r:Rep N E ds a)(h:RvE P E w rv v):(rv1 a.tmps rv).run P w = .ok v w:=by
  cases rv with
  | tmp t =>
    show (Sem.run P (pure (a.tmps.getD t undef)) w)=_
    rw [r.get]
    rw [show E t=v from h];rfl
  | cell t y =>
    obtain ⟨p,h1,h2⟩:=h
    show Sem.run P (do loadVar y (←asAddr (a.tmps.getD t undef))) w=_
    rw [r.get,h1]
    simp only [asAddr,Sem.run_bind,Sem.run_pure,Result.andThen,h2]
end
section
variable {P : Program} {fn : Func} {F : Fence} {n : Nat} {N : Nat} {t : List Item} {R : Ending → World → Prop} {E : Env} {w : World} {q1 q2 q3 : ResultVar} {v1 v2 v3 : Value}
theorem results_eq(fn:Func)(tmps:Array Value):results fn tmps=(do let vs ←fn.results.mapM (rv1 tmps);pure (if h:vs.size=1 then vs[0] else .tuple vs)):=rfl
theorem yf4(hr:fn.results = #[q1])(h1:RvE P E w q1 v1)(h:R (.returned v1) w):WT F n P N (.code .ret::t) (bodyPost P fn R) E [] w :=
  yhZ fun a r=>⟨r.defers,_,by
    rw [results_eq,hr]
    simp [Sem.run_bind,Result.andThen,rv1_run r h1],h⟩
theorem ybc(hr:fn.results = #[q1,q2])(h1:RvE P E w q1 v1)(h2:RvE P E w q2 v2)(h:R (.returned (.tuple #[v1,v2])) w):WT F n P N (.code .ret::t) (bodyPost P fn R) E [] w :=
  yhZ fun a r=>⟨r.defers,_,by
    rw [results_eq,hr]
    simp [Sem.run_bind,Result.andThen,rv1_run r h1,rv1_run r h2],h⟩
end
def cPr{α β:Type}(a:Cod α)(b:Cod β):Cod (α×β) where
  sz:=a.sz+b.sz
  R:=fun O w vs x=>∃ u v,vs=u++v∧a.R O w u x.1∧b.R O w v x.2
  len:=fun ⟨u,v,h,h1,h2⟩=>by rw [h,List.length_append,a.len h1,b.len h2]
  one:=fun ⟨u,v,h,h1,h2⟩ y hy=>by
    subst h
    rcases List.mem_append.1 hy with q | q
    · exact a.one h1 y q
    · exact b.one h2 y q
  keep:=fun ⟨u,v,h,h1,h2⟩ hk=>⟨u,v,h,a.keep h1 hk,b.keep h2 hk⟩
  sub:=fun ⟨u,v,h,h1,h2⟩ hs=>⟨u,v,h,a.sub h1 hs,b.sub h2 hs⟩
theorem R_ro{τ:Type}{c:Cod τ}{O:Nat→Prop}{w:World}{u:List Value}{xs:List τ}(h:(cL c).R O w u xs):∃ A l cap,u=[.slice A l cap]∧(FP.sl c A l cap xs).P O w:=h
theorem setL_app:∀ (vs pre xs:List Value),xs.length=vs.length→setL (pre++xs) pre.length vs=pre++vs
  | [],pre,xs,h=>by
    rw [List.eq_nil_of_length_eq_zero h];rfl
  | v::vs,pre,[],h=>by cases h
  | v::vs,pre,x::xs,h=>by
    have h1:=setL_app vs (pre++[v]) xs (by simpa using h)
    simp only [setL]
    rw [show (pre++x::xs).set pre.length v=(pre++[v])++xs by simp,show pre.length+1=(pre++[v]).length by simp,h1]
    simp
theorem Sep.bstall{w0 w w':World}{S O:Nat→Prop}{L:Hold}(h:Sep w0 S O w L)(i:Nat){e:TypeId}{g:Nat}{cells:List Value}(hi:L i = .box e g cells)(vs:List Value)(hl:cells.length=vs.length)(e1:w'=w.setCells g 0 vs):Sep w0 S O w' (stl L i (.box e g vs)):=by
  have:=h.bstn i hi 0 vs e1
  rwa [show setL cells 0 vs=vs from setL_app vs [] cells hl] at this
theorem yhs{w:World}{g:Nat}{e:TypeId}{size:Nat}{xs:List Value}(h:Row w g e size xs):∀ (vs:List Value) (k:Nat),xs.drop k=vs→ygE w ⟨g,0,none⟩ k vs
  | [],_,_=>trivial
  | v::vs,k,hk=>by
    have h1:xs[k]? = some v:=by rw [←List.head?_drop,hk];rfl
    refine ⟨?_,yhs h vs (k+1) (by rw [←List.tail_drop,hk];rfl)⟩
    have:(⟨g,0,none⟩:Addr).add k=⟨g,k,none⟩:=by simpa using Addr.add_mid g 0 k
    rw [this]
    exact h.cell h1
theorem yeE{w:World}{g:Nat}{e:TypeId}{size:Nat}{xs:List Value}(h:Row w g e size xs):ygE w ⟨g,0,none⟩ 0 xs:=yhs h xs 0 rfl
end Go.Proofs.YtjepipbkiadcpaaGreat

/- Arrays of numbers as values: stored whole, handed back whole. -/
namespace Go.Proofs.YtjepipbkiadcpaaGreat
open Go Go.RowKit Go.Shelf Go.Proofs.Tryz
theorem Sep.stored{w0 w w':World}{S O:Nat→Prop}{L:Hold}(h:Sep w0 S O w L)(i:Nat){t:TypeId}{gb l cp:Nat}{xs ys:List Int}(hi:L i = .own cI t (some ⟨gb,0,none⟩) l cp xs)(hy:ys.length=l)(hw:w'=w.setCells gb 0 (ys.map (Value.int .i64))) :
    Sep w0 S O w' (stl L i (.own cI t (some ⟨gb,0,none⟩) l cp ys)):=by
  have hl:=(h.own i hi).1
  have e:cpy xs ys=ys:=by unfold cpy;rw [List.take_of_length_le (by omega),List.drop_eq_nil_of_le (by omega),List.append_nil]
  have:=h.copied (w':=w') i hi (ys:=ys) (by rw [hw,List.take_of_length_le (by omega)])
  rwa [e] at this
end Go.Proofs.YtjepipbkiadcpaaGreat

/- A drawn region in which two operations, each with effects, stand in an order that is open: both orders are walked. -/
namespace Go.Proofs.YtjepipbkiadcpaaGreat
open Go Go.Proofs.Tryz
section
variable {P : Program} {ops : Array Oper} {Q : Act → World → Prop} {F : Fence} {n : Nat} {Q' : Exit → Act → World → Prop}
theorem set_down{i:Nat}{oi:Oper}{listed:Array Bool}(hil:i<listed.size)(hoi:ops[i]? = some oi)(hall:∀ e∈oi.after,Region.binds .any e=true→listed.getD e.on true=true)(hdw:yf5 ops listed):yf5 ops (listed.setIfInBounds i true):=by
  intro j oj hj hlj e he hb
  have hmono:∀ x:Nat,listed.getD x true=true→(listed.setIfInBounds i true).getD x true=true:=by
    intro x hx
    by_cases hki:i=x
    · subst hki;simp [hil]
    · rw [getD_set_ne true hki];exact hx
  by_cases hji:i=j
  · subst hji
    rw [hoi] at hj
    cases hj
    exact hmono _ (hall e he hb)
  · rw [getD_set_ne true hji] at hlj
    exact hmono _ (hdw j oj hj hlj e he hb)
end
section
variable {F : Fence} {n : Nat} {P : Program} {N : Nat} {Q : Exit → Act → World → Prop} {E : Env} {ds : List Deferred} {w : World} {t : List Item}
end
section
variable {P : Program} {ops : Array Oper} {Q : Act → World → Prop} {F : Fence} {n : Nat} {Q' : Exit → Act → World → Prop}
end
section
variable {F : Fence} {n : Nat} {P : Program} {N : Nat} {Q : Exit → Act → World → Prop} {E : Env} {ds : List Deferred} {w : World} {t : List Item}
end
end Go.Proofs.YtjepipbkiadcpaaGreat

/- Drawn regions whose operations with effects stand in several open orders: a tree of orders is walked. -/
namespace Go.Proofs.YtjepipbkiadcpaaGreat
open Go Go.Proofs.Tryz
inductive OT where
  | nil:OT
  | one (i:Nat) (s:List Nat) (t:OT):OT
  | both (a b:OT):OT
namespace OT
def ids:OT→List Nat
  | nil=>[]
  | one i _ t=>i::t.ids
  | both a b=>a.ids++b.ids
def nodes:OT→List (Nat×List Nat)
  | nil=>[]
  | one i s t=>(i,s)::t.nodes
  | both a b=>a.nodes++b.nodes
def cands:OT→List Nat
  | nil=>[]
  | one i _ _=>[i]
  | both a b=>a.cands++b.cands
def len:OT→Nat
  | nil=>0
  | one _ _ t=>t.len+1
  | both a b=>max a.len b.len
theorem ids_nodes:∀ (T:OT) (i:Nat),i∈T.ids↔∃ s,(i,s)∈T.nodes
  | nil,i=>by simp [ids,nodes]
  | one j s t,i=>by
    simp only [ids,nodes,List.mem_cons,ids_nodes t i,Prod.mk.injEq]
    constructor
    · rintro (rfl | ⟨s',h⟩)
      · exact ⟨s, .inl ⟨rfl,rfl⟩⟩
      · exact ⟨s', .inr h⟩
    · rintro ⟨s',⟨rfl,_⟩ | h⟩
      · exact .inl rfl
      · exact .inr ⟨s',h⟩
  | both a b,i=>by
    simp only [ids,nodes,List.mem_append,ids_nodes a i,ids_nodes b i]
    constructor
    · rintro (⟨s,h⟩ | ⟨s,h⟩)
      · exact ⟨s, .inl h⟩
      · exact ⟨s, .inr h⟩
    · rintro ⟨s,h | h⟩
      · exact .inl ⟨s,h⟩
      · exact .inr ⟨s,h⟩
def same(a b:OT):Bool:=(a.ids.all fun i=>b.ids.contains i)&&(b.ids.all fun i=>a.ids.contains i)
theorem same.iff{a b:OT}(h:same a b=true)(i:Nat):i∈a.ids↔i∈b.ids:=by
  simp only [same,Bool.and_eq_true,List.all_eq_true,List.contains_iff_mem] at h
  exact ⟨h.1 i,h.2 i⟩
end OT
def seqT(P:Program)(ops:Array Oper)(Q:Act→World→Prop):OT→List (Nat×Sem Next×Value)→Act→World→Prop
  | .nil,_,a,w=>Q a w
  | .one i s t,pend,a,w=>match ops[i]? with
    | none=>seqT P ops Q t pend a w
    | some o=>if Region.wanted o (yielded ops a.tmps)=true then
        (if ya2 o.op=true then ∃ v,(execOp a.eval o).run P w = .ok (.value v) w∧seqT P ops Q t ((i,execOp a.eval o,v)::pend) (a.put o.dst v) w
         else ybG o.op=true∧ybO P o a.eval w fun v w'=>(∀ p∈pend,p.1∈s→p.2.1.run P w' = .ok (.value p.2.2) w')∧seqT P ops Q t pend (a.put o.dst v) w')
      else seqT P ops Q t pend (a.put o.dst undef) w
  | .both x y,pend,a,w=>seqT P ops Q x pend a w∧seqT P ops Q y pend a w
def okN(ops:Array Oper)(j:Nat)(x:Nat×List Nat):Bool :=
  match ops[j]?,ops[x.1]? with
  | some oj,some oi=>!(x.1==j)&&(oj.after.all fun e=>!Region.binds .any e || !(e.on==x.1))&&((ya2 oj.op&&oj.apart ops oi&&(ya2 oi.op || (ybG oi.op&&x.2.contains j))) || dep ops ops.size j x.1)
  | _,_=>false
def OT.ok(ops:Array Oper):Option (List Nat)→OT→Bool
  | none, .nil=>true
  | some _, .nil=>false
  | none, .one j s t=>OT.ok ops none t&&t.nodes.all (okN ops j)
  | some c, .one p s t=>OT.ok ops none t&&(match ops[p]? with | some o=>ybG o.op && !ya2 o.op&&t.nodes.all fun x=>!(x.1==p)&&(o.after.all fun e=>!Region.binds .any e || !(e.on==x.1))&&(c.contains x.1 || c.any fun q=>dep ops ops.size q x.1) | none=>false)
  | c, .both a b=>let c':=c.getD (a.cands++b.cands);OT.ok ops (some c') a&&OT.ok ops (some c') b&&OT.same a b
section
variable {P : Program} {ops : Array Oper} {Q : Act → World → Prop} {i j : Nat}
theorem yeu:∀ (T:OT) (pend pend':List (Nat×Sem Next×Value)) (a:Act) (w:World),(∀ p,p∈pend'→p∈pend)→seqT P ops Q T pend a w→seqT P ops Q T pend' a w
  | .nil,_,_,_,_,_,h=>h
  | .both x y,_,_,_,_,hp,h=>⟨yeu x _ _ _ _ hp h.1,yeu y _ _ _ _ hp h.2⟩
  | .one i s R,pend,pend',a,w,hp,h=>by
    simp only [seqT] at h ⊢
    cases ho:ops[i]? with
    | none=>simp only [ho] at h ⊢;exact yeu R _ _ _ _ hp h
    | some o =>
      simp only [ho] at h ⊢
      split
      · rename_i c
        rw [if_pos c] at h
        split
        · rename_i q
          rw [if_pos q] at h
          obtain ⟨v,hv,h⟩:=h
          refine ⟨v,hv,yeu R _ _ _ _ (fun p hm=>?_) h⟩
          rcases List.mem_cons.1 hm with rfl | hm
          · exact List.mem_cons_self
          · exact List.mem_cons_of_mem _ (hp p hm)
        · rename_i q
          rw [if_neg q] at h
          exact ⟨h.1,h.2.mono fun v w' h=>⟨fun p hm=>h.1 p (hp p hm),yeu R _ _ _ _ hp h.2⟩⟩
      · rename_i c
        rw [if_neg c] at h
        exact yeu R _ _ _ _ hp h
theorem seqT_swap{i j:Nat}{si sj:List Nat}{oi oj:Oper}{R:OT}{pend:List (Nat×Sem Next×Value)}{a:Act}{w:World}(hi:ops[i]? = some oi)(hj:ops[j]? = some oj)(qi:ya2 oi.op=true)
    (hap:oi.apart ops oj=true) (qj:ya2 oj.op=true∨(ybG oj.op=true∧i∈sj)) (h:seqT P ops Q (.one i si (.one j sj R)) pend a w):seqT P ops Q (.one j sj (.one i si R)) pend a w:=by
  obtain ⟨h1,h2,h3⟩:=Oper.apart_spec hap
  have sj':∀ cs b,oj.op ≠ .select cs b:=by rcases qj with q | q;exact ya2.select q;exact ybG.select q.1
  have wi:∀ v,Region.wanted oi (yielded ops (a.put oj.dst v).tmps)=Region.wanted oi (yielded ops a.tmps):=fun v=>wanted_put oi a oj.dst v h3
  have wj:∀ v,Region.wanted oj (yielded ops (a.put oi.dst v).tmps)=Region.wanted oj (yielded ops a.tmps):=fun v=>wanted_put oj a oi.dst v h1
  have ei:∀ v,execOp (a.put oj.dst v).eval oi=execOp a.eval oi:=fun v=>execOp_put oi (ya2.select qi) a oj.dst v h3
  have ej:∀ v,execOp (a.put oi.dst v).eval oj=execOp a.eval oj:=fun v=>execOp_put oj sj' a oi.dst v h1
  have pc:∀ u v,(a.put oi.dst u).put oj.dst v=(a.put oj.dst v).put oi.dst u:=fun u v=>Act.put_comm a u v h2
  simp only [seqT,hi,hj,qi,if_true] at h ⊢
  by_cases ci:Region.wanted oi (yielded ops a.tmps)=true
  · by_cases cj:Region.wanted oj (yielded ops a.tmps)=true
    · simp only [ci,cj,wi,wj,ei,ej,if_true] at h ⊢
      by_cases q:ya2 oj.op=true
      · simp only [q,if_true] at h ⊢
        obtain ⟨u,hu,v,hv,h⟩:=h
        refine ⟨v,hv,u,hu,?_⟩
        rw [←pc]
        exact yeu R _ _ _ _ (fun p hm=>by simp only [List.mem_cons] at hm ⊢;rcases hm with h | h | h;exact .inr (.inl h);exact .inl h;exact .inr (.inr h)) h
      · have q':ybG oj.op=true∧i∈sj:=by rcases qj with h | h;exact absurd h q;exact h
        simp only [q,Bool.false_eq_true,if_false] at h ⊢
        obtain ⟨u,hu,hn,h⟩:=h
        refine ⟨hn,?_⟩
        unfold ybO at h ⊢
        rw [ej] at h
        split at h
        · obtain ⟨hs,h⟩:=h
          refine ⟨fun p hm hp=>hs p (List.mem_cons_of_mem _ hm) hp,u,hs _ List.mem_cons_self q'.2,?_⟩
          rw [←pc];exact h
        · obtain ⟨hs,h⟩:=h
          refine ⟨fun p hm hp=>hs p (List.mem_cons_of_mem _ hm) hp,u,hs _ List.mem_cons_self q'.2,?_⟩
          rw [←pc];exact h
        · intro cs
          obtain ⟨e,w',fr,⟨v,rfl,hs,h⟩,r⟩:=h cs
          refine ⟨_,w',fr,⟨v,rfl,fun p hm hp=>hs p (List.mem_cons_of_mem _ hm) hp,u,hs _ List.mem_cons_self q'.2,?_⟩,r⟩
          rw [←pc];exact h
        · refine h.mono ?_
          rintro e w'' ⟨v,rfl,hs,h⟩
          exact ⟨v,rfl,fun p hm hp=>hs p (List.mem_cons_of_mem _ hm) hp,u,hs _ List.mem_cons_self q'.2,by rw [←pc];exact h⟩
        · exact h.elim
    · simp only [ci,cj,wi,wj,ei,ej,if_true,if_false,Bool.false_eq_true] at h ⊢
      obtain ⟨u,hu,h⟩:=h
      exact ⟨u,hu,by rw [←pc];exact h⟩
  · by_cases cj:Region.wanted oj (yielded ops a.tmps)=true
    · simp only [ci,cj,wi,wj,ei,ej,if_true,if_false,Bool.false_eq_true] at h ⊢
      by_cases q:ya2 oj.op=true
      · simp only [q,if_true] at h ⊢
        obtain ⟨v,hv,h⟩:=h
        exact ⟨v,hv,by rw [←pc];exact h⟩
      · simp only [q,Bool.false_eq_true,if_false] at h ⊢
        refine ⟨h.1,?_⟩
        have h:=h.2
        unfold ybO at h ⊢
        rw [ej] at h
        split at h
        · exact ⟨h.1,by rw [←pc];exact h.2⟩
        · exact ⟨h.1,by rw [←pc];exact h.2⟩
        · intro cs
          obtain ⟨e,w',fr,⟨v,rfl,hs,h⟩,r⟩:=h cs
          exact ⟨_,w',fr,⟨v,rfl,hs,by rw [←pc];exact h⟩,r⟩
        · refine h.mono ?_
          rintro e w'' ⟨v,rfl,hs,h⟩
          exact ⟨v,rfl,hs,by rw [←pc];exact h⟩
        · exact h.elim
    · simp only [ci,cj,wi,wj,if_false,Bool.false_eq_true] at h ⊢
      rw [←pc];exact h
theorem seqT_mono{i:Nat}{s:List Nat}{R R':OT}{pend:List (Nat×Sem Next×Value)}(hm:∀ pend a w,seqT P ops Q R pend a w→seqT P ops Q R' pend a w){a:Act}{w:World}
    (h:seqT P ops Q (.one i s R) pend a w):seqT P ops Q (.one i s R') pend a w:=by
  simp only [seqT] at h ⊢
  cases ho:ops[i]? with
  | none=>simp only [ho] at h ⊢;exact hm _ _ _ h
  | some o =>
    simp only [ho] at h ⊢
    split
    · rename_i c
      rw [if_pos c] at h
      split
      · rename_i q
        rw [if_pos q] at h
        obtain ⟨v,hv,h⟩:=h
        exact ⟨v,hv,hm _ _ _ h⟩
      · rename_i q
        rw [if_neg q] at h
        exact ⟨h.1,h.2.mono fun v w' h=>⟨h.1,hm _ _ _ h.2⟩⟩
    · rename_i c
      rw [if_neg c] at h
      exact hm _ _ _ h
theorem seqT_step{F:Fence}{n:Nat}{Q':Exit→Act→World→Prop}(hF:∀ f,F.fn f)(hD:F.depth=none)(hC:∀ f args w R,Calls P f args w R→CallsIn F (n-1) P f args w R)(hRd:∀ l f tmps assign body w R,RoundIn Fence.wide 0 P l f tmps assign body w R→RoundIn F (n-1) P l f tmps assign body w R)
    {i:Nat} {s:List Nat} {R:OT} {pend:List (Nat×Sem Next×Value)} {a:Act} {w:World} {K:Act→World→Prop} (h1:seqT P ops Q (.one i s R) pend a w) (hrec:∀ pend a w,seqT P ops Q R pend a w→K a w):wpOpIn F n P ops Q' i K a w:=by
  unfold wpOpIn
  cases hoi:ops[i]? with
  | none=>simp only [seqT,hoi] at h1;exact hrec _ _ _ h1
  | some oi =>
    simp only [seqT,hoi] at h1 ⊢
    split
    · rename_i c
      rw [if_pos c] at h1
      split at h1
      · rename_i q
        obtain ⟨v,hv,h1⟩:=h1
        refine ⟨fun f _=>hF f,?_⟩
        rw [Oper.semAt_eq _ _ _ (ya2.defer q),hv]
        exact hrec _ _ _ h1
      · obtain ⟨hn,h1⟩:=h1
        refine ⟨fun f _=>hF f,?_⟩
        rw [Oper.semAt_eq _ _ _ (ybG.defer hn)]
        unfold ybO at h1
        split at h1
        · rename_i v w' hr
          rw [hr]
          exact hrec _ _ _ h1.2
        · rename_i w' hr
          rw [hr]
          exact hrec _ _ _ h1.2
        · rename_i f args w' hr
          rw [hr]
          refine ⟨fun hd=>(by rw [hD] at hd;cases hd),(hC _ _ _ _ h1).mono ?_⟩
          rintro e w'' ⟨v,rfl,hh⟩
          exact hrec _ _ _ hh.2
        · rename_i l f tmps assign body w' hr
          rw [hr]
          refine ⟨fun hd=>(by rw [hD] at hd;cases hd),(hRd _ _ _ _ _ _ _ h1).mono ?_⟩
          rintro e w'' ⟨v,rfl,hh⟩
          exact hrec _ _ _ hh.2
        · exact h1.elim
    · rename_i c
      rw [if_neg c] at h1
      exact ⟨fun f _=>hF f,hrec _ _ _ h1⟩
theorem okN.not{x:Nat×List Nat}(h:okN ops j x=true){oj:Oper}(hj:ops[j]? = some oj){e:Edge}(he:e∈oj.after)(hb:Region.binds .any e=true):e.on≠x.1:=by
  unfold okN at h
  rw [hj] at h
  cases hi:ops[x.1]? with
  | none=>rw [hi] at h;cases h
  | some oi =>
    rw [hi] at h
    simp only [Bool.and_eq_true] at h
    have h2:=h.1.2
    rw [Array.all_eq_true] at h2
    obtain ⟨k,hk,rfl⟩:=Array.getElem_of_mem he
    have:=h2 k hk
    simpa [hb] using this
theorem okN.ne{x:Nat×List Nat}(h:okN ops j x=true):x.1≠j:=by
  unfold okN at h
  split at h
  · simp only [Bool.and_eq_true,Bool.not_eq_true',beq_eq_false_iff_ne,ne_eq] at h
    exact h.1.1
  · cases h
theorem okN.two{x:Nat×List Nat}(h:okN ops j x=true)(hno:dep ops ops.size j x.1=false):∃ oj oi,ops[j]? = some oj∧ops[x.1]? = some oi∧ya2 oj.op=true∧oj.apart ops oi=true∧(ya2 oi.op=true∨(ybG oi.op=true∧j∈x.2)):=by
  unfold okN at h
  split at h
  · rename_i oj oi hj hi
    simp only [hno,Bool.or_false,Bool.and_eq_true,Bool.or_eq_true,List.contains_iff_mem] at h
    exact ⟨oj,oi,hj,hi,h.2.1.1,h.2.1.2,h.2.2⟩
  · cases h
structure Pulled(P:Program)(ops:Array Oper)(Q:Act→World→Prop)(i:Nat)(T:OT)(s:List Nat)(T':OT):Prop where
  ok:T'.ok ops none=true
  ids:∀ x,x∈T.ids↔x=i∨x∈T'.ids
  no:i∉T'.ids
  len:T'.len+1≤T.len
  nodes:∀ x∈T'.nodes,x∈T.nodes
  node:(i,s)∈T.nodes
  run:∀ pend a w,seqT P ops Q T pend a w→seqT P ops Q (.one i s T') pend a w
theorem yio{c:List Nat} : ∀ T:OT,T.ok ops (some c)=true→i∈T.cands→∃ s T',Pulled P ops Q i T s T'
  | .nil,h,_=>by simp [OT.ok] at h
  | .one p s t,h,hi=>by
    simp only [OT.cands,List.mem_singleton] at hi
    subst hi
    simp only [OT.ok,Bool.and_eq_true] at h
    obtain ⟨h1,h2⟩:=h
    cases ho:ops[i]? with
    | none=>rw [ho] at h2;cases h2
    | some o =>
      rw [ho] at h2
      simp only [Bool.and_eq_true,List.all_eq_true] at h2
      refine ⟨s,t,h1,fun x=>by simp [OT.ids],fun hm=>?_,Nat.le_refl _,fun x hx=>by simp [OT.nodes,hx],by simp [OT.nodes],fun _ _ _ h=>h⟩
      obtain ⟨s',hs⟩:=(OT.ids_nodes t i).1 hm
      have:=(h2.2 _ hs).1.1
      simp at this
  | .both a b,h,hi=>by
    simp only [OT.ok,Option.getD_some,Bool.and_eq_true] at h
    obtain ⟨⟨h1,h2⟩,h3⟩:=h
    rcases List.mem_append.1 hi with hi | hi
    · obtain ⟨s,T',k⟩:=yio a h1 hi
      refine ⟨s,T',k.ok,fun x=>?_,k.no,Nat.le_trans k.len (Nat.le_max_left _ _),fun x hx=>List.mem_append_left _ (k.nodes x hx),List.mem_append_left _ k.node,fun pend a w h=>k.run _ _ _ h.1⟩
      rw [←k.ids x]
      simp only [OT.ids,List.mem_append,←OT.same.iff h3 x,or_self]
    · obtain ⟨s,T',k⟩:=yio b h2 hi
      refine ⟨s,T',k.ok,fun x=>?_,k.no,Nat.le_trans k.len (Nat.le_max_right _ _),fun x hx=>List.mem_append_right _ (k.nodes x hx),List.mem_append_right _ k.node,fun pend a w h=>k.run _ _ _ h.2⟩
      rw [←k.ids x]
      simp only [OT.ids,List.mem_append,OT.same.iff h3 x,or_self]
theorem cand_or{c:List Nat} : ∀ T:OT,T.ok ops (some c)=true→(∀ x∈T.cands,x∈c)→∀ i∈T.ids,i∈c∨∃ q∈c,dep ops ops.size q i=true
  | .nil,h,_=>by simp [OT.ok] at h
  | .one p s t,h,hc=>by
    intro i hi
    simp only [OT.ids,List.mem_cons] at hi
    rcases hi with rfl | hi
    · exact .inl (hc i (by simp [OT.cands]))
    · simp only [OT.ok,Bool.and_eq_true] at h
      obtain ⟨h1,h2⟩:=h
      cases ho:ops[p]? with
      | none=>rw [ho] at h2;cases h2
      | some o =>
        rw [ho] at h2
        simp only [Bool.and_eq_true,List.all_eq_true] at h2
        obtain ⟨s',hs⟩:=(OT.ids_nodes t i).1 hi
        have:=(h2.2 _ hs).2
        simpa [List.any_eq_true] using this
  | .both a b,h,hc=>by
    intro i hi
    simp only [OT.ok,Option.getD_some,Bool.and_eq_true] at h
    rcases List.mem_append.1 hi with hi | hi
    · exact cand_or a h.1.1 (fun x hx=>hc x (List.mem_append_left _ hx)) i hi
    · exact cand_or b h.1.2 (fun x hx=>hc x (List.mem_append_right _ hx)) i hi
theorem yh2:∀ (T:OT) (x:Nat),x∈T.cands→x∈T.ids
  | .nil,_,h=>h
  | .one i _ t,x,h=>by simp [OT.cands] at h;simp [OT.ids,h]
  | .both a b,x,h=>by
    rcases List.mem_append.1 h with h | h
    · exact List.mem_append_left _ (yh2 a x h)
    · exact List.mem_append_right _ (yh2 b x h)
theorem pull{hole:Unit} : ∀ T:OT,T.ok ops none=true→i∈T.ids→(∀ r∈T.ids,dep ops ops.size r i=false)→∃ s T',Pulled P ops Q i T s T'
  | .nil,_,hi,_=>by simp [OT.ids] at hi
  | .one j s t,h,hi,hd=>by
    simp only [OT.ok,Bool.and_eq_true,List.all_eq_true] at h
    obtain ⟨h1,h2⟩:=h
    have hjt:j∉t.ids:=fun hm=>by
      obtain ⟨s',hs⟩:=(OT.ids_nodes t j).1 hm
      exact okN.ne (h2 _ hs) rfl
    by_cases hij:i=j
    · subst hij
      exact ⟨s,t,h1,fun x=>by simp [OT.ids],hjt,Nat.le_refl _,fun x hx=>by simp [OT.nodes,hx],by simp [OT.nodes],fun _ _ _ h=>h⟩
    · have hit:i∈t.ids:=by simpa [OT.ids,hij] using hi
      obtain ⟨si,t',k⟩:=pull (hole:=hole) t h1 hit fun r hr=>hd r (by simp [OT.ids,hr])
      obtain ⟨oj,oi,ej,ei,q1,q2,q3⟩:=okN.two (h2 _ k.node) (hd j (by simp [OT.ids]))
      refine ⟨si, .one j s t',?_,fun x=>?_,?_,?_,fun x hx=>?_,by simp [OT.nodes,k.node],fun pend a w h=>seqT_swap ej ei q1 q2 q3 (seqT_mono k.run h)⟩
      · simp only [OT.ok,Bool.and_eq_true,List.all_eq_true]
        exact ⟨k.ok,fun x hx=>h2 x (k.nodes x hx)⟩
      · simp only [OT.ids,List.mem_cons,k.ids x]
        exact ⟨fun h=>by rcases h with h | h | h;exact .inr (.inl h);exact .inl h;exact .inr (.inr h),fun h=>by rcases h with h | h | h;exact .inr (.inl h);exact .inl h;exact .inr (.inr h)⟩
      · simp only [OT.ids,List.mem_cons,not_or]
        exact ⟨hij,k.no⟩
      · simp only [OT.len];have:=k.len;omega
      · simp only [OT.nodes,List.mem_cons] at hx ⊢
        rcases hx with h | h
        · exact .inl h
        · exact .inr (k.nodes x h)
  | .both a b,h,hi,hd=>by
    simp only [OT.ok,Option.getD_none,Bool.and_eq_true] at h
    have hok:(OT.both a b).ok ops (some (a.cands++b.cands))=true:=by simp only [OT.ok,Option.getD_some,Bool.and_eq_true];exact h
    rcases cand_or (.both a b) hok (fun x hx=>hx) i hi with hc | ⟨q,hq,hdq⟩
    · exact yio (.both a b) hok hc
    · rw [hd q (yh2 (.both a b) q hq)] at hdq;cases hdq
theorem first_free(hO:∀ j oj,ops[j]? = some oj→∀ e∈oj.after,Region.binds .any e=true→e.on<ops.size∧e.on≠j):∀ (T:OT) (c:Option (List Nat)),T.ok ops c=true→T.ids≠[]→∃ r∈T.ids,∀ o,ops[r]? = some o→∀ e∈o.after,Region.binds .any e=true→e.on∉T.ids
  | .nil,_,_,h=>absurd rfl h
  | .one j s t,c,h,_=>by
    refine ⟨j,by simp [OT.ids],fun o ho e he hb hm=>?_⟩
    simp only [OT.ids,List.mem_cons] at hm
    rcases hm with hm | hm
    · exact (hO j o ho e he hb).2 hm
    · obtain ⟨s',hs⟩:=(OT.ids_nodes t e.on).1 hm
      cases c with
      | none =>
        simp only [OT.ok,Bool.and_eq_true,List.all_eq_true] at h
        exact okN.not (h.2 _ hs) ho he hb rfl
      | some c =>
        simp only [OT.ok,Bool.and_eq_true] at h
        have h2:=h.2
        rw [ho] at h2
        simp only [Bool.and_eq_true,List.all_eq_true] at h2
        have h3:=(h2.2 _ hs).1.2
        rw [Array.all_eq_true] at h3
        obtain ⟨k,hk,rfl⟩:=Array.getElem_of_mem he
        have:=h3 k hk
        simp [hb] at this
  | .both a b,c,h,hn=>by
    simp only [OT.ok,Bool.and_eq_true] at h
    have hne:a.ids≠[]:=fun e=>hn (by
      have hb:b.ids=[]:=List.eq_nil_iff_forall_not_mem.2 fun x hx=>by
        have:=(OT.same.iff h.2 x).2 hx
        rw [e] at this;cases this
      simp [OT.ids,e,hb])
    obtain ⟨r,hr,k⟩:=first_free hO a _ h.1.1 hne
    refine ⟨r,List.mem_append_left _ hr,fun o ho e he hb hm=>k o ho e he hb ?_⟩
    rcases List.mem_append.1 hm with hm | hm
    · exact hm
    · exact (OT.same.iff h.2 _).2 hm
theorem len_ids:∀ (T:OT),T.len=0→T.ok ops none=true→T = .nil
  | .nil,_,_=>rfl
  | .one _ _ _,h,_=>by simp [OT.len] at h
  | .both a b,h,hk=>by
    exfalso
    simp only [OT.ok,Option.getD_none,Bool.and_eq_true] at hk
    have key:∀ (T:OT) (c:List Nat),T.ok ops (some c)=true→T.len≠0:=by
      intro T
      induction T with
      | nil=>intro c h;simp [OT.ok] at h
      | one i s t ih=>intro c h;simp [OT.len]
      | both a b iha ihb =>
        intro c h
        simp only [OT.ok,Option.getD_some,Bool.and_eq_true] at h
        have:=iha c h.1.1
        simp only [OT.len];omega
    have:=key a _ hk.1.1
    simp only [OT.len] at h;omega
theorem seqT_any{F:Fence}{n:Nat}{Q':Exit→Act→World→Prop}(hF:∀ f,F.fn f)(hD:F.depth=none)(hC:∀ f args w R,Calls P f args w R→CallsIn F (n-1) P f args w R)(hRd:∀ l f tmps assign body w R,RoundIn Fence.wide 0 P l f tmps assign body w R→RoundIn F (n-1) P l f tmps assign body w R)(hQ:∀ a w,Q a w→Q' .normal a w)(hO:∀ j oj,ops[j]? = some oj→∀ e∈oj.after,Region.binds .any e=true→e.on<ops.size∧e.on≠j) :
    ∀ (fuel:Nat) (T:OT) (listed:Array Bool) (pend:List (Nat×Sem Next×Value)) (a:Act) (w:World),T.len≤fuel→T.ok ops none=true →
    (∀ i,i∈T.ids↔listed.getD i true=false)→listed.size=ops.size→yf5 ops listed→seqT P ops Q T pend a w→wpAnyIn F n P .any ops Q' fuel listed a w:=by
  have hnil:∀ (T:OT) (listed:Array Bool),T.ok ops none=true→(∀ i,i∈T.ids↔listed.getD i true=false)→listed.size=ops.size→Region.ready .any ops listed=[]→T.ids=[]:=by
    intro T listed hk hl hs h
    by_cases hn:T.ids=[]
    · exact hn
    · exfalso
      obtain ⟨r,hr,hfree⟩:=first_free hO T none hk hn
      have hr0:=(hl r).1 hr
      have hlt:r<ops.size:=by
        rcases Nat.lt_or_ge r listed.size with h | h
        · omega
        · simp [Array.getD_eq_getD_getElem?,Array.getElem?_eq_none h] at hr0
      have:r∈Region.ready .any ops listed:=by
        refine mem_ready.2 ⟨hr0,ops[r],by simp [hlt],fun e he hb=>?_⟩
        have h1:=hO r _ (by simp [hlt]:ops[r]? = some ops[r]) e he hb
        have h3:=mt (hl e.on).2 (hfree _ (by simp [hlt]) e he hb)
        have h4:e.on<listed.size:=by omega
        simp [h4] at h3 ⊢
        exact h3
      rw [h] at this;cases this
  have hids:∀ T:OT,T.ids=[]→T.ok ops none=true→T = .nil:=by
    intro T h hk
    cases T with
    | nil=>rfl
    | one i s t=>simp [OT.ids] at h
    | both a b =>
      exfalso
      simp only [OT.ok,Option.getD_none,Bool.and_eq_true] at hk
      have key:∀ (T:OT) (c:List Nat),T.ok ops (some c)=true→T.ids≠[]:=by
        intro T
        induction T with
        | nil=>intro c h;simp [OT.ok] at h
        | one i s t ih=>intro c h;simp [OT.ids]
        | both a b iha ihb =>
          intro c h
          simp only [OT.ok,Option.getD_some,Bool.and_eq_true] at h
          have:=iha c h.1.1
          simp [OT.ids,this]
      have:=key a _ hk.1.1
      simp [OT.ids,this] at h
  intro fuel
  induction fuel with
  | zero =>
    intro T listed pend a w hf hk hl hs hdw h
    have hT:=len_ids T (by omega) hk
    subst hT
    refine ⟨?_,hQ _ _ h⟩
    cases hrd:Region.ready .any ops listed with
    | nil=>rfl
    | cons r rs =>
      have h1:r∈Region.ready .any ops listed:=by rw [hrd];simp
      exact absurd ((hl r).2 (mem_ready.1 h1).1) (by simp [OT.ids])
  | succ fuel ih =>
    intro T listed pend a w hf hk hl hs hdw h
    refine ⟨fun h0=>by have:=hids T (hnil T listed hk hl hs h0) hk;subst this;exact hQ _ _ h,fun i hi=>?_⟩
    obtain ⟨hun,oi,hoi,hall⟩:=mem_ready.1 hi
    have hlb:∀ x:Nat,listed.getD x false=true→listed.getD x true=true:=by
      intro x hx
      rcases Nat.lt_or_ge x listed.size with h | h
      · simp [Array.getD_eq_getD_getElem?,h] at hx ⊢;exact hx
      · simp [Array.getD_eq_getD_getElem?,h]
    have hall':∀ e∈oi.after,Region.binds .any e=true→listed.getD e.on true=true:=fun e he hb=>hlb _ (hall e he hb)
    have hil:i<listed.size:=by have:=(Array.getElem?_eq_some_iff.1 hoi).1;omega
    obtain ⟨s,T',k⟩:=pull (P:=P) (Q:=Q) (hole:=()) T hk ((hl i).2 hun) fun r hr=>by
      cases hq:dep ops ops.size r i with
      | false=>rfl
      | true =>
        have h1:=yg4 hdw ops.size r i oi hoi hall' hq
        rw [(hl r).1 hr] at h1;cases h1
    refine seqT_step hF hD hC hRd (k.run _ _ _ h) fun pend a w h=>ih T' _ pend a w (by have:=k.len;omega) k.ok (fun x=>?_) (by simp [hs]) (set_down hil hoi hall' hdw) h
    by_cases hix:i=x
    · subst hix
      constructor
      · intro h;exact absurd h k.no
      · intro h;simp [hil] at h
    · rw [getD_set_ne true hix,←hl x,k.ids x]
      exact ⟨.inr,fun h=>h.resolve_left fun e=>hix e.symm⟩
end
def orderlyT(ops:Array Oper)(T:OT):Bool :=
  (T.ids.all fun j=>match ops[j]? with
    | none=>false
    | some oj=>oj.after.all fun e=>!Region.binds .any e || (decide (e.on<ops.size) && !(e.on==j)))&&(List.range ops.size).all (T.ids.contains ·)&&decide (T.len≤ops.size)&&T.ok ops none
def RT(P:Program)(N:Nat)(ops:Array Oper)(Qa:Act→World→Prop)(T:OT)(pend:List (Nat×Sem Next×Value))(E:Env)(ds:List Deferred)(w:World):Prop :=
  ∀ a,Rep N E ds a→seqT P ops Qa T pend a w
section
variable {F : Fence} {n : Nat} {P : Program} {N : Nat} {Q : Exit → Act → World → Prop} {E : Env} {ds : List Deferred} {w : World} {t : List Item}
theorem wt_drawT{id:Nat}{ops:Array Oper}(T:OT)(hw:Wd F)(hm:P.follows .mixedOrders=true)(hO:orderlyT ops T=true)(h:RT P N ops (WTa F n P t Q) T [] E ds w.drew) :
    WT F n P N (.code (.region id ops true)::t) Q E ds w:=by
  intro a r
  simp only [orderlyT,Bool.and_eq_true,decide_eq_true_eq] at hO
  obtain ⟨⟨⟨h1,h2⟩,h3⟩,h4⟩:=hO
  have h5:∀ i,i<ops.size→i∈T.ids:=fun i hi=>by simpa using List.all_eq_true.1 h2 i (List.mem_range.2 hi)
  have h6:∀ i,i∈T.ids→i<ops.size:=fun i hi=>by
    have:=List.all_eq_true.1 h1 i hi
    rcases Nat.lt_or_ge i ops.size with h | h
    · exact h
    · rw [Array.getElem?_eq_none h] at this;cases this
  refine WTa.of (wpIn_region_any hm ?_)
  refine seqT_any hw.fn hw.depth (fun f args w R h=>hw.calls _ _ _ _ _ _ h) (fun l f tmps assign body w R h=>hw.rounds _ _ _ _ _ _ _ _ _ h) (fun a w h=>⟨rfl,h⟩) (fun j oj hj e he hb=>?_) ops.size T _ [] a _ h3 h4 (fun i=>?_) (by simp) (fun j oj hj hl=>?_) (h a r)
  · have:=List.all_eq_true.1 h1 j (h5 j (Array.getElem?_eq_some_iff.1 hj).1)
    rw [hj] at this
    simp only at this
    rw [Array.all_eq_true] at this
    obtain ⟨k,hk,rfl⟩:=Array.getElem_of_mem he
    have h3:=this k hk
    simpa [hb] using h3
  · constructor
    · intro hi;simp [h6 i hi]
    · intro hi
      apply h5
      rcases Nat.lt_or_ge i ops.size with h | h
      · exact h
      · simp [Array.getD_eq_getD_getElem?,h] at hi
  · exfalso
    have:=(Array.getElem?_eq_some_iff.1 hj).1
    simp [Array.getD_eq_getD_getElem?,this] at hl
end
section
variable {P : Program} {N : Nat} {ops : Array Oper} {Qa : Act → World → Prop} {pend : List (Nat × Sem Next × Value)} {E : Env} {ds : List Deferred} {w : World} {i : Nat} {s : List Nat} {T T1 T2 : OT}
theorem ygh{F:Fence}{n:Nat}{t:List Item}{Q:Exit→Act→World→Prop}(h:WT F n P N t Q E ds w):RT P N ops (WTa F n P t Q) .nil pend E ds w:=fun a r=>h a r
theorem yfG(h1:RT P N ops Qa T1 pend E ds w)(h2:RT P N ops Qa T2 pend E ds w):RT P N ops Qa (.both T1 T2) pend E ds w:=fun a r=>⟨h1 a r,h2 a r⟩
variable {d : Nat} {op : Op} {ty : TypeId} {ps : String} {af : Array Edge} {g : Option (Nat × Bool)}
theorem rt_q{v:Value}(ho:ops[i]? = some ⟨some d,op,ty,ps,af,g⟩)(hw:Region.wanted ⟨some d,op,ty,ps,af,g⟩ (yE ops E)=true)(hq:ya2 op=true)(hd:Nat.blt d N=true)
    (hv:(execOp (evE E) ⟨some d,op,ty,ps,af,g⟩).run P w = .ok (.value v) w) (h:RT P N ops Qa T ((i,execOp (evE E) ⟨some d,op,ty,ps,af,g⟩,v)::pend) (upd E d v) ds w):RT P N ops Qa (.one i s T) pend E ds w:=by
  intro a r
  simp only [seqT,ho,r.yielded,hw,hq,if_true,r.eval]
  exact ⟨v,hv,h _ (r.put (yfk (d:=some d) hd) v)⟩
theorem rt_n(ho:ops[i]? = some ⟨some d,op,ty,ps,af,g⟩)(hw:Region.wanted ⟨some d,op,ty,ps,af,g⟩ (yE ops E)=true)(hq:ya2 op=false)(hn:ybG op=true)(hd:Nat.blt d N=true)
    (h:ybO P ⟨some d,op,ty,ps,af,g⟩ (evE E) w fun v w'=>Stb P s w' pend∧RT P N ops Qa T pend (upd E d v) ds w'):RT P N ops Qa (.one i s T) pend E ds w:=by
  intro a r
  simp only [seqT,ho,r.yielded,hw,hq,if_true,if_false,Bool.false_eq_true,r.eval]
  refine ⟨hn,h.mono fun v w' h=>⟨h.1.all,h.2 _ (r.put (yfk (d:=some d) hd) v)⟩⟩
theorem rt_n0(ho:ops[i]? = some ⟨none,op,ty,ps,af,g⟩)(hw:Region.wanted ⟨none,op,ty,ps,af,g⟩ (yE ops E)=true)(hq:ya2 op=false)(hn:ybG op=true)
    (h:ybO P ⟨none,op,ty,ps,af,g⟩ (evE E) w fun v w'=>Stb P s w' pend∧RT P N ops Qa T pend E ds w'):RT P N ops Qa (.one i s T) pend E ds w:=by
  intro a r
  simp only [seqT,ho,r.yielded,hw,hq,if_true,if_false,Bool.false_eq_true,r.eval]
  refine ⟨hn,h.mono fun v w' h=>⟨h.1.all,h.2 _ (r.put (yfk (d:=none) rfl) v)⟩⟩
end
end Go.Proofs.YtjepipbkiadcpaaGreat

/- Tables of structs, functions compared with nil. No program in sight. -/
namespace Go.Proofs.YtjepipbkiadcpaaGreat
open Go Go.RowKit Go.Shelf Go.Proofs.Tryz
section
variable {P : Program} {E : Env} {w : World} {d : Option Tmp} {ty : TypeId} {ps : String} {af : Array Edge} {g : Option (Nat × Bool)} {x y : Operand} {xt yt : TypeId}
end
theorem yf2{L:Hold} : ∀ {l:List (Nat×Nat)},(∀ p∈l,L p.1 = .gone)→∀ j b,asc l j=some b→L j = .gone:=fun h j b hj=>h _ (asc_mem hj)
theorem yhi{p:Nat×Nat→Prop} : ∀ q∈([]:List (Nat×Nat)),p q:=fun q h=>by cases h
theorem ybe{p:Nat×Nat→Prop}{a:Nat×Nat}{l:List (Nat×Nat)}(h:p a)(ht:∀ q∈l,p q):∀ q∈a::l,p q:=fun q hq=>by
  rcases List.mem_cons.1 hq with e | e
  · rw [e];exact h
  · exact ht q e
end Go.Proofs.YtjepipbkiadcpaaGreat

/- Slices of structs of numbers that are made, and copied into. No program in sight. -/
namespace Go.Proofs.YtjepipbkiadcpaaGreat
open Go Go.RowKit Go.Shelf Go.Proofs.Tryz
section
variable {τ : Type} {f : Fl τ}
theorem ydN(xs:List τ):(xs.flatMap f.enc).length=xs.length*f.sz:=by
  induction xs with
  | nil=>simp
  | cons x t ih=>rw [List.flatMap_cons,List.length_append,f.len,ih,List.length_cons,Nat.add_mul];omega
theorem yh4:∀ {xs:List τ} {k j:Nat} {x:τ} {u:Value},xs[k]? = some x→(f.enc x)[j]? = some u→(xs.flatMap f.enc)[k*f.sz+j]? = some u
  | [],k,_,_,_,h,_=>by simp at h
  | y::t,0,j,x,u,h,hu=>by
    simp at h
    subst h
    have hj:=(List.getElem?_eq_some_iff.1 hu).1
    rw [List.flatMap_cons,Nat.zero_mul,Nat.zero_add,List.getElem?_append_left hj];exact hu
  | y::t,k+1,j,x,u,h,hu=>by
    have:=yh4 (xs:=t) (k:=k) (by simpa using h) hu
    rw [List.flatMap_cons,List.getElem?_append_right (by rw [f.len,Nat.add_mul];omega),f.len,show (k+1)*f.sz+j-f.sz=k*f.sz+j by rw [Nat.add_mul];omega];exact this
theorem encL_take:∀ (xs:List τ) (k:Nat),(xs.take k).flatMap f.enc=(xs.flatMap f.enc).take (k*f.sz)
  | [],k=>by simp
  | x::t,0=>by simp
  | x::t,k+1=>by
    rw [List.take_succ_cons,List.flatMap_cons,List.flatMap_cons,encL_take t k,List.take_append,f.len,show (k+1)*f.sz-f.sz=k*f.sz by rw [Nat.add_mul];omega,List.take_of_length_le (l:=f.enc x) (by rw [f.len,Nat.add_mul];omega)]
theorem encL_drop:∀ (xs:List τ) (k:Nat),(xs.drop k).flatMap f.enc=(xs.flatMap f.enc).drop (k*f.sz)
  | [],k=>by simp
  | x::t,0=>by simp
  | x::t,k+1=>by
    rw [List.drop_succ_cons,List.flatMap_cons,encL_drop t k,List.drop_append,f.len,show (k+1)*f.sz-f.sz=k*f.sz by rw [Nat.add_mul];omega,show (f.enc x).drop ((k+1)*f.sz)=[] from List.drop_eq_nil_of_le (by rw [f.len,Nat.add_mul];omega),List.nil_append]
theorem cells_encL{O:Nat→Prop}{w:World}{xs:List τ}{cells:List Value}(hl:cells.length=xs.length*f.sz)(hE:∀ (k:Nat) x,xs[k]? = some x→∃ vs,f.cod.R O w vs x∧∀ (j:Nat) u,vs[j]? = some u→cells[k*f.cod.sz+j]? = some u):cells=xs.flatMap f.enc:=by
  refine List.ext_getElem? fun t=>?_
  by_cases ht:t<xs.length*f.sz
  · have hz : 0 < f.sz := by rcases Nat.eq_zero_or_pos f.sz with q | q; · rw [q] at ht; simp at ht
                             · exact q
    have hk:t / f.sz<xs.length:=Nat.div_lt_of_lt_mul (by rw [Nat.mul_comm];exact ht)
    have hj:t % f.sz<f.sz:=Nat.mod_lt _ hz
    obtain ⟨vs,hR,hv⟩:=hE (t / f.sz) xs[t / f.sz] (List.getElem?_eq_getElem hk)
    have hR:vs=f.enc xs[t / f.sz]:=hR
    subst hR
    have hu:(f.enc xs[t / f.sz])[t % f.sz]? = some ((f.enc xs[t / f.sz])[t % f.sz]'(by rw [f.len];exact hj)):=List.getElem?_eq_getElem _
    have h1:=hv _ _ hu
    have h2:=yh4 (List.getElem?_eq_getElem hk) hu
    have e1:t / f.sz*f.sz+t % f.sz=t:=by rw [Nat.mul_comm];exact Nat.div_add_mod t f.sz
    have e2:t / f.sz*f.cod.sz+t % f.sz=t:=e1
    rw [e2] at h1
    rw [e1] at h2
    rw [h1,h2]
  · rw [List.getElem?_eq_none (by omega),List.getElem?_eq_none (by rw [ydN];omega)]
def ovr(k:Nat)(xs ys:List τ):List τ:=xs.take k++ys.take (xs.length-k)++xs.drop (k+ys.length)
theorem ovr_length{k:Nat}{xs ys:List τ}(hk:k≤xs.length):(ovr k xs ys).length=xs.length:=by unfold ovr;simp;omega
end
theorem OwnS.setK{B:Nat}{e:TypeId}{sz l c g:Nat} : ∀ (vs:List Value) (k:Nat) {w:World} {xs:List Value},OwnS w B e sz (some ⟨g,0,none⟩) l c xs→k+vs.length≤xs.length→OwnS (w.setCells g k vs) B e sz (some ⟨g,0,none⟩) l c (xs.take k++vs++xs.drop (k+vs.length))
  | [],k,w,xs,h,hk=>by
    have e:w.setCells g k []=w:=rfl
    rw [e];simpa using h
  | v::t,k,w,xs,h,hk=>by
    have h1:=h.set1 (i:=k) (by simp at hk;omega) v (g:=g) (o:=0) rfl
    rw [Nat.zero_add] at h1
    have h2:=OwnS.setK t (k+1) h1 (by simp at hk ⊢;omega)
    have e:(w.setCell ⟨g,k,none⟩ v).setCells g (k+1) t=w.setCells g k (v::t):=rfl
    rw [e] at h2
    have e2:(xs.set k v).take (k+1)++t++(xs.set k v).drop (k+1+t.length)=xs.take k++v::t++xs.drop (k+(v::t).length):=by
      simp at hk
      rw [List.drop_set_of_lt (by omega),List.take_add_one,List.take_set_of_le (by omega),List.getElem?_set_self (by omega)]
      simp [show k+(t.length+1)=k+1+t.length by omega]
    rwa [e2] at h2
theorem Sep.ovr{τ:Type}{f:Fl τ}{w0 w w':World}{S O:Nat→Prop}{L:Hold}(h:Sep w0 S O w L)(i:Nat){t:TypeId}{gb l cp:Nat}{xs ys:List τ}(hi:L i = .own f.cod t (some ⟨gb,0,none⟩) l cp xs){lo:Nat}(hlo:lo≤l)(hw:w'=w.setCells gb (lo*f.sz) ((ys.take (l-lo)).flatMap f.enc)) :
    Sep w0 S O w' (stl L i (.own f.cod t (some ⟨gb,0,none⟩) l cp (ovr lo xs ys))):=by
  obtain ⟨hl,cells,ho,hE⟩:=h.own i hi
  have hcl:=cells_encL (f:=f) (xs:=xs) (by rw [ho.1,hl];rfl) hE
  subst hcl
  have hyl:=ydN (f:=f) (ys.take (l-lo))
  have hy2:(ys.take (l-lo)).length≤l-lo:=by rw [List.length_take];omega
  have hmul:lo*f.sz+(l-lo)*f.sz=l*f.sz:=by rw [←Nat.add_mul];congr 1;omega
  have hmul2:(ys.take (l-lo)).length*f.sz≤(l-lo)*f.sz:=Nat.mul_le_mul_right _ hy2
  have hn:=OwnS.setK ((ys.take (l-lo)).flatMap f.enc) (lo*f.sz) ho (by rw [ydN,ydN,←hl];omega)
  have ecp:(xs.flatMap f.enc).take (lo*f.sz)++(ys.take (l-lo)).flatMap f.enc++(xs.flatMap f.enc).drop (lo*f.sz+((ys.take (l-lo)).flatMap f.enc).length)=(Go.Proofs.YtjepipbkiadcpaaGreat.ovr lo xs ys).flatMap f.enc:=by
    unfold Go.Proofs.YtjepipbkiadcpaaGreat.ovr
    rw [List.flatMap_append,List.flatMap_append,encL_take xs,encL_drop xs,hyl,←hl]
    congr 1
    rw [←Nat.add_mul,List.length_take]
    by_cases c:ys.length≤l-lo
    · rw [Nat.min_eq_right c]
    · rw [List.drop_eq_nil_of_le (by rw [ydN,←hl];exact Nat.mul_le_mul_right _ (by omega)),List.drop_eq_nil_of_le (by rw [ydN,←hl];exact Nat.mul_le_mul_right _ (by omega))]
  rw [ecp] at hn
  have hblk:(L i).has gb:=by rw [hi];rfl
  have hK:∀ (vs:List Value) (o:Nat) {a w:World},Keeps (fun k=>k=gb) a w→Keeps (fun k=>k=gb) a (w.setCells gb o vs):=by
    intro vs
    induction vs with
    | nil=>intro o a w h;exact h
    | cons v t ih=>intro o a w h;exact ih (o+1) (h.setCell (p:=⟨gb,o,none⟩) (fun _=>rfl) v)
  exact h.upd i _ (T:=fun k=>k=gb) (by rw [hw];exact hK _ _ (Keeps.refl _ _)) (fun k _ e=>by rw [e];exact hblk) (fun k hk => .inl (by rw [hi];exact hk)) ⟨by rw [ovr_length (by omega)];exact hl,_,by rw [hw];exact hn,fun j q hj=>⟨f.enc q,rfl,fun u v hu=>yh4 hj hu⟩⟩
section
variable {P : Program} {E : Env} {w : World} {d : Option Tmp} {ty : TypeId} {ps : String} {af : Array Edge} {g : Option (Nat × Bool)} {K : Value → World → Prop} {x y : Operand} {xt yt : TypeId}
theorem n_copyk{e:TypeId}{zo:Option Value}{b sz:Nat}{A C:Option Addr}{l c m c':Nat}(hx:evE E x = .slice A l c)(hy:evE E y = .slice C m c')(hu:P.underlying xt=some (.slice e))(hi:(P.info? e).map (fun i=>(i.zero,i.size,i.bytes))=some (zo,sz,b))
    (h:∃ (bl o:Nat) (a:Addr) (vs:List Value),A=some ⟨bl,o,none⟩∧C=some a∧vs.length=min m l*sz∧(∀ j u,vs[j]? = some u→w.cell? (a.add j)=some u)∧(∀ u∈vs,u.oneCell'=true)∧w.there bl o vs.length∧∀ w',w'=w.setCells bl o vs→K (.int .i64 ((min m l:Nat):Int)) w'):ybO P ⟨d, .call ⟨.builtin .copy,#[x,y],#[xt,yt]⟩,ty,ps,af,g⟩ (evE E) w K:=by
  obtain ⟨bl,o,a,vs,rfl,rfl,hl,hc,h1,ht,hK⟩:=h
  have hf:=run_firstCells_some (P:=P) w sz (min m l) a m c' vs hl hc
  have hst:=run_storeCells_cells (P:=P) bl o vs 0 w (fun j hj=>by simpa using (ht j hj).1) (fun j hj=>by simpa using (ht j hj).2) h1
  have hlen:(Builtin.lenOf (.slice (some a) m c')).run P w = .ok m w:=rfl
  have hmin:Nat.min m l=min m l:=rfl
  unfold ybO execOp
  simp only [resolve,hx,hy,List.map_toArray,List.map_cons,List.map_nil,Sem.run_bind,Sem.run_pure,Result.andThen,invoke,builtin,Builtin.copy_,List.getElem?_toArray,List.getElem?_cons_zero,List.getElem?_cons_succ,run_underlying hu,ycd hi,hlen,hmin,hf,hst,goInt,Nat.zero_add,Nat.add_zero]
  exact hK _ rfl
theorem n_cpyk{τ:Type}{f:Fl τ}{w0:World}{S O:Nat→Prop}{L:Hold}{e t:TypeId}{zo:Option Value}{b gb l cp lo m c':Nat}{C:Option Addr}{xs ys:List τ}(hx:evE E x = .slice (slA (some ⟨gb,0,none⟩) cp lo f.sz) (l-lo) (cp-lo))(hy:evE E y = .slice C m c')(hu:P.underlying xt=some (.slice e))(hi:(P.info? e).map (fun i=>(i.zero,i.size,i.bytes))=some (zo,f.sz,b))
    (hS:Sep w0 S O w L) (i:Nat) (hi':L i = .own f.cod t (some ⟨gb,0,none⟩) l cp xs) (hr:(FP.sl f.cod C m c' ys).P no w) (h0:0<ys.length) (hlo:lo≤xs.length)
    (h:∀ w',Sep w0 S O w' (stl L i (.own f.cod t (some ⟨gb,0,none⟩) l cp (ovr lo xs ys)))→K (.int .i64 ((min ys.length (xs.length-lo):Nat):Int)) w'):ybO P ⟨d, .call ⟨.builtin .copy,#[x,y],#[xt,yt]⟩,ty,ps,af,g⟩ (evE E) w K:=by
  have hrd:=hS.rdo i hi'
  have hlx:=yaD hrd
  have hlc:l≤cp:=hrd.2.1
  obtain ⟨hly,hmc,hsl⟩:=hr
  obtain ⟨yb,yo,rfl, -, -,hyc⟩:=hsl h0
  obtain ⟨o,hA,hoe⟩:∃ o,slA (some ⟨gb,0,none⟩) cp lo f.sz=some ⟨gb,o,none⟩∧(lo<l→o=lo*f.sz):=by
    unfold slA
    by_cases c:cp=lo
    · rw [if_pos c];exact ⟨0,rfl,fun q=>by omega⟩
    · rw [if_neg c];exact ⟨lo*f.sz,by simp [Addr.add_mid],fun _=>rfl⟩
  have hmin:min m (l-lo)=(ys.take (l-lo)).length:=by rw [List.length_take];omega
  refine n_copyk hx hy hu hi ⟨gb,o,⟨yb,yo,none⟩,(ys.take (l-lo)).flatMap f.enc,hA,rfl,by rw [ydN,hmin],fun j u hj=>?_,fun u hu=>?_,?_,fun w' hw'=>?_⟩
  · have hjl:=(List.getElem?_eq_some_iff.1 hj).1
    rw [ydN] at hjl
    have hz : 0 < f.sz := by rcases Nat.eq_zero_or_pos f.sz with q | q; · rw [q] at hjl; simp at hjl
                             · exact q
    have hk:j / f.sz<(ys.take (l-lo)).length:=Nat.div_lt_of_lt_mul (by rw [Nat.mul_comm];exact hjl)
    have hr:j % f.sz<f.sz:=Nat.mod_lt _ hz
    have hk2:j / f.sz<ys.length:=by rw [List.length_take] at hk;omega
    have hx1:(ys.take (l-lo))[j / f.sz]? = some ys[j / f.sz]:=by
      rw [List.getElem?_take,if_pos (by rw [List.length_take] at hk;omega),List.getElem?_eq_getElem hk2]
    obtain ⟨vs,hv,hc⟩:=hyc (j / f.sz) _ (List.getElem?_eq_getElem hk2)
    have hv:vs=f.enc ys[j / f.sz]:=hv
    subst hv
    have hu2:(f.enc ys[j / f.sz])[j % f.sz]? = some ((f.enc ys[j / f.sz])[j % f.sz]'(by rw [f.len];exact hr)):=List.getElem?_eq_getElem _
    have e1:j / f.sz*f.sz+j % f.sz=j:=by rw [Nat.mul_comm];exact Nat.div_add_mod j f.sz
    have h3:=yh4 hx1 hu2
    rw [e1] at h3
    rw [h3] at hj
    have h4:=hc _ _ hu2
    have e2:yo+j / f.sz*f.cod.sz+j % f.sz=yo+j:=by show yo+j / f.sz*f.sz+j % f.sz=yo+j;omega
    rw [e2] at h4
    rw [Addr.add_mid,h4];exact hj
  · obtain ⟨q,_,hq⟩:=List.mem_flatMap.1 hu;exact f.one _ _ hq
  · obtain ⟨hl,cells,ho,hE⟩:=hS.own i hi'
    have hcl:=cells_encL (f:=f) (xs:=xs) (by rw [ho.1,hl];rfl) hE
    subst hcl
    intro j hj
    rw [ydN] at hj
    have hlt0:lo<l:=by
      rcases Nat.lt_or_ge lo l with q | q
      · exact q
      · have:l-lo=0:=by omega
        rw [this] at hj
        simp at hj
    rw [hoe hlt0]
    have hm1:(ys.take (l-lo)).length*f.sz≤(l-lo)*f.sz:=Nat.mul_le_mul_right _ (by rw [List.length_take];omega)
    have hm2:lo*f.sz+(l-lo)*f.sz=xs.length*f.sz:=by rw [←Nat.add_mul];congr 1;omega
    have hlt:lo*f.sz+j<(xs.flatMap f.enc).length:=by rw [ydN];omega
    obtain ⟨g',o',e',_,h1,h2⟩:=ho.cellAt (List.getElem?_eq_getElem hlt)
    cases e'
    rw [Nat.zero_add] at h1 h2
    exact ⟨by rw [h1];rfl,h2⟩
  · have hw2:w'=w.setCells gb (lo*f.sz) ((ys.take (l-lo)).flatMap f.enc):=by
      rcases Nat.lt_or_ge lo l with q | q
      · rw [hw',hoe q]
      · have:l-lo=0:=by omega
        rw [hw',this];rfl
    have hK:=h w' (hS.ovr i hi' (by omega) hw2)
    rw [show min ys.length (xs.length-lo)=min m (l-lo) by omega] at hK
    exact hK
theorem cpy_at{E:Env}{x:Operand}{gb l cp sz:Nat}(hx:evE E x = .slice (some ⟨gb,0,none⟩) l cp):evE E x = .slice (slA (some ⟨gb,0,none⟩) cp 0 sz) (l-0) (cp-0):=by
  rw [hx]
  unfold slA
  split <;> simp [Addr.add]
theorem n_makek{e:TypeId}{z:Value}{b sz:Nat}{n:Int}(hx:evE E x = .int .i64 n)(hy:evE E y = .int .i64 n)(hu:P.underlying xt=some (.slice e))(hi:(P.info? e).map (fun i=>(i.zero,i.size,i.bytes))=some (some z,sz,b))(hb:b≤64)
    (hn:0≤n∧n≤1000000) (h:∀ g' w',New w g' w' (madeCells z.cells (n.toNat*sz)) e→K (.slice (some ⟨g',0,none⟩) n.toNat n.toNat) w'):ybO P ⟨d, .makeSlice xt x y,ty,ps,af,g⟩ (evE E) w K:=by
  obtain ⟨i0,hi0,hz0,hz1,hz2⟩:=info_parts hi
  obtain ⟨k,rfl⟩:∃ k:Nat,n=(k:Int):=⟨n.toNat,by omega⟩
  have hm:i0.bytes*k≤64*1000000:=Nat.mul_le_mul (by omega) (by omega)
  have:=run_make (P:=P) w xt e i0 z hu hi0 hz0 .i64 .i64 k k (by omega) (by omega) (by rw [←Int.natCast_mul];omega) (by omega)
  unfold ybO execOp
  simp only [hx,hy,Sem.run_bind,this,Result.andThen,Sem.run_pure]
  rw [hz1]
  exact h _ _ ⟨rfl,rfl⟩
end
theorem madeCells_flat{τ:Type}{f:Fl τ}{z:Array Value}{x:τ}(hz:z.toList=f.enc x)(n:Nat):(madeCells z (n*f.sz)).toList=(List.replicate n x).flatMap f.enc:=by
  have hzs:z.size=f.sz:=by rw [←Array.length_toList,hz,f.len]
  refine List.ext_getElem? fun t=>?_
  by_cases ht:t<n*f.sz
  · have h0 : 0 < f.sz := by rcases Nat.eq_zero_or_pos f.sz with q | q; · rw [q] at ht; simp at ht
                             · exact q
    have hk:t / f.sz<n:=Nat.div_lt_of_lt_mul (by rw [Nat.mul_comm];exact ht)
    have hj:t % f.sz<f.sz:=Nat.mod_lt _ h0
    have hu:(f.enc x)[t % f.sz]? = some ((f.enc x)[t % f.sz]'(by rw [f.len];exact hj)):=List.getElem?_eq_getElem _
    have h2:=yh4 (xs:=List.replicate n x) (k:=t / f.sz) (by rw [List.getElem?_replicate,if_pos hk]) hu
    have e1:t / f.sz*f.sz+t % f.sz=t:=by rw [Nat.mul_comm];exact Nat.div_add_mod t f.sz
    rw [e1] at h2
    rw [h2,Array.getElem?_toList,madeCells,Array.getElem?_map,Array.getElem?_range,if_pos ht,Option.map_some,hzs]
    congr 1
    rw [getElem!_pos _ _ (by omega)]
    simp only [←hz,Array.getElem_toList]
  · rw [List.getElem?_eq_none (by rw [Array.length_toList,size_madeCells];omega),List.getElem?_eq_none (by rw [ydN,List.length_replicate];omega)]
end Go.Proofs.YtjepipbkiadcpaaGreat



/- The walks of package chips and of the small library functions that the checks use: what each returns, for all arguments. -/
namespace Go.Proofs.YtjepipbkiadcpaaGreat
open Go.RowKit Go.Proofs.Tryz
set_option maxRecDepth 100000
set_option maxHeartbeats 400000
theorem int_info:(Tryz.prog.info? 3).map (fun i=>(i.zero,i.size,i.bytes))=some (some (.int .i64 0),1,8):=by kernel_rfl
def inF(k:Int):Bool:=decide (-1048576≤k∧k≤1048576)
def vertsF(n:Int):Int:=if 1≤n∧n≤12 then 0 else 2
def yeK(d:List Int)(n:Int):Int :=
  if vertsF n=0 then (if (d.length:Int)=n then (if d.all inF then 0 else 2) else 8) else 2
theorem ye8(p:Int→Bool)(d:List Int):d.all p=true↔∀ j,j<d.length→p (gi d j)=true:=by
  rw [List.all_eq_true]
  constructor
  · intro h j hj;exact h _ (gi_mem hj)
  · intro h x hx
    obtain ⟨j,hj,rfl⟩:=List.getElem_of_mem hx
    rw [←yba hj];exact h j hj
def cmpF(a b:Int):Int:=if a<b then -1 else if b<a then 1 else 0
theorem isNaN_any(a:Int)(w:World):Calls Tryz.prog 131 #[.int .i64 a] w fun e w'=>e = .returned (.bool false)∧w=w':=by
  go_enter func131,ntmps131
  go_wp2
  go_ret
  exact ⟨by simp,rfl⟩
theorem compare_any(a b:Int)(w:World):Calls Tryz.prog 80 #[.int .i64 a, .int .i64 b] w fun e w'=>e = .returned (.int .i64 (cmpF a b))∧w=w':=by
  go_enter func80,ntmps80
  go_wp2_with (first | (go_at_call 131;refine (isNaN_any _ _).mono ?_;rintro e w' ⟨rfl,rfl⟩))
  all_goals go_ret
  all_goals refine ⟨yh0 (int_eq ?_),rfl⟩
  all_goals unfold cmpF
  all_goals (split <;> try split)
  all_goals omega
theorem vertex_any(n v:Int)(w:World):Calls Tryz.prog 144 #[.int .i64 n, .int .i64 v] w fun e w'=>e = .returned (.bool (decide (0≤v∧v<n)))∧w=w':=by
  go_enter func144,ntmps144
  go_wp2
  all_goals go_ret
  all_goals exact ⟨by simp;try omega,rfl⟩
def orF(x y:Int):Int:=if x≠0 then x else y
theorem or_two(b off:Nat)(x y:Int)(w:World)(h0:w.cell? ⟨b,off,none⟩=some (.int .i64 x))(h1:w.cell? ⟨b,off+1,none⟩=some (.int .i64 y)) :
    Calls Tryz.prog 195 #[.slice (some ⟨b,off,none⟩) 2 2] w fun e w'=>e = .returned (.int .i64 (orF x y))∧w=w':=by
  go_enter func195,ntmps195
  go_wp2
  refine wp_loop_rounds 3 ?_
  repeat any_goals (rw [rounds_succ];go_wp2)
  all_goals go_ret
  all_goals refine ⟨yh0 (int_eq ?_),rfl⟩
  all_goals (unfold orF;simp_all)
end Go.Proofs.YtjepipbkiadcpaaGreat

/- The walks of the functions of package slices that the program uses, at slices of ints. -/
namespace Go.Proofs.YtjepipbkiadcpaaGreat
open Go.RowKit Go.Proofs.Tryz
set_option maxRecDepth 100000
set_option maxHeartbeats 400000
end Go.Proofs.YtjepipbkiadcpaaGreat

/- Forests that join vertices, in plain Lean: each vertex has one of its part that is not greater. -/
namespace Go.Proofs.YtjepipbkiadcpaaGreat
open Go.RowKit Go.Proofs.Tryz
def gn(l:List Nat)(k:Nat):Nat:=l.getD k 0
theorem gn_of_lt{l:List Nat}{k:Nat}(h:k<l.length):gn l k=l[k]:=by simp [gn,h]
theorem gn_set{l:List Nat}{k j:Nat}{x:Nat}(h:k<l.length):gn (l.set k x) j=if j=k then x else gn l j:=by
  unfold gn
  simp only [List.getD_eq_getElem?_getD,List.getElem?_set]
  by_cases e:j=k
  · subst e;simp [h]
  · rw [if_neg (by omega),if_neg e]
abbrev NRow(w:World)(g:Nat)(e:TypeId)(size:Nat)(xs:List Nat):Prop:=Row w g e size (xs.map fun (n:Nat)=>Value.int .i64 (Int.ofNat n))
section
variable {w : World} {g : Nat} {e : TypeId} {size : Nat}
theorem ncell{xs:List Nat}(h:NRow w g e size xs){k:Nat}(hk:k<xs.length):w.cell? ⟨g,k,none⟩=some (.int .i64 (Int.ofNat (gn xs k))) :=
  Row.cell h (by rw [List.getElem?_map,List.getElem?_eq_getElem hk,gn_of_lt hk];rfl)
theorem nset{xs:List Nat}(h:NRow w g e size xs)(k:Nat)(v:Nat):NRow (w.setCell ⟨g,k,none⟩ (.int .i64 (Int.ofNat v))) g e size (xs.set k v):=by
  have:=Row.set_ h k (.int .i64 (Int.ofNat v))
  unfold NRow;rwa [List.map_set]
end
def yej(xs:List Nat):List Value:=xs.map fun (n:Nat)=>Value.int .i64 (Int.ofNat n)
theorem yeL(xs:List Nat):(yej xs).length=xs.length:=by simp [yej]
theorem nvals_one(xs:List Nat):∀ v∈(yej xs).toArray.toList,v.oneCell'=true:=by
  intro v hv
  simp [yej] at hv
  obtain ⟨a,_,rfl⟩:=hv
  rfl
theorem NRow.full{w:World}{g:Nat}{e:TypeId}{xs:List Nat}(h:NRow w g e xs.length xs):w.heap[g]? = some (.cells (yej xs).toArray e (0,0)):=by
  have h':Row w g e (yej xs).length (yej xs):=by rw [yeL];exact h
  exact Row.full h'
def ydO(F:List Nat):Prop:=F.length=12∧∀ v,v<12→gn F v≤v
def yem(F:List Nat):Nat→Nat→Nat
  | 0,v=>v
  | k+1,v=>if gn F v=v then v else yem F k (gn F v)
def root(F:List Nat)(v:Nat):Nat:=yem F v v
theorem rootFuel_more{F:List Nat}(h:ydO F):∀ (k v j:Nat),v<12→v≤k→v≤j→yem F k v=yem F j v:=by
  intro k
  induction k using Nat.strongRecOn with
  | _ k ih =>
    intro v j hv hk hj
    have hle:=h.2 v hv
    cases k with
    | zero =>
      obtain rfl:v=0:=by omega
      have h0:gn F 0=0:=by omega
      cases j with
      | zero=>rfl
      | succ j=>simp [yem,h0]
    | succ k =>
      cases j with
      | zero =>
        obtain rfl:v=0:=by omega
        have h0:gn F 0=0:=by omega
        simp [yem,h0]
      | succ j =>
        simp only [yem]
        split
        · rfl
        · exact ih k (by omega) _ j (by omega) (by omega) (by omega)
theorem ydz{F:List Nat}{v:Nat}(h:gn F v=v):root F v=v:=by
  unfold root
  cases v with
  | zero=>rfl
  | succ v=>simp [yem,h]
theorem yfT{F:List Nat}(h:ydO F){v:Nat}(hv:v<12)(hne:gn F v≠v):root F v=root F (gn F v):=by
  have hle:=h.2 v hv
  unfold root
  cases v with
  | zero=>omega
  | succ v =>
    simp only [yem]
    rw [if_neg hne]
    exact rootFuel_more h _ _ _ (by omega) (by omega) (Nat.le_refl _)
theorem ye2{F:List Nat}(h:ydO F):∀ v,v<12→root F v≤v∧gn F (root F v)=root F v:=by
  intro v
  induction v using Nat.strongRecOn with
  | _ v ih =>
    intro hv
    by_cases he:gn F v=v
    · rw [ydz he];exact ⟨Nat.le_refl _,he⟩
    · have hle:=h.2 v hv
      rw [yfT h hv he]
      have:=ih (gn F v) (by omega) (by omega)
      exact ⟨by omega,this.2⟩
theorem yim{F:List Nat}(h:ydO F){v:Nat}(hv:v<12):root F (root F v)=root F v:=ydz (ye2 h v hv).2
def ydS(F:List Nat)(a b:Nat):List Nat:=F.set (max (root F a) (root F b)) (min (root F a) (root F b))
theorem yeN{F:List Nat}(h:ydO F){a b:Nat}(ha:a<12)(hb:b<12):ydO (ydS F a b):=by
  have h1:=ye2 h a ha
  have h2:=ye2 h b hb
  refine ⟨by simp [ydS,h.1],fun v hv=>?_⟩
  unfold ydS
  rw [gn_set (by rw [h.1];omega)]
  split
  · omega
  · exact h.2 v hv
theorem root_joinN{F:List Nat}(h:ydO F){a b:Nat}(ha:a<12)(hb:b<12):∀ v,v<12 →
    root (ydS F a b) v=if root F v=max (root F a) (root F b) then min (root F a) (root F b) else root F v:=by
  have h1:=ye2 h a ha
  have h2:=ye2 h b hb
  have hJ:=yeN h ha hb
  have hg:∀ j,gn (ydS F a b) j=if j=max (root F a) (root F b) then min (root F a) (root F b) else gn F j:=fun j=>by
    unfold ydS;exact gn_set (by rw [h.1];omega)
  have hmin:root (ydS F a b) (min (root F a) (root F b))=min (root F a) (root F b):=by
    apply ydz
    rw [hg]
    split
    · rfl
    · rcases Nat.le_total (root F a) (root F b) with hl | hl
      · rw [Nat.min_eq_left hl];exact h1.2
      · rw [Nat.min_eq_right hl];exact h2.2
  intro v
  induction v using Nat.strongRecOn with
  | _ v ih =>
    intro hv
    by_cases hM:v=max (root F a) (root F b)
    · have hrv:root F v=v:=by
        apply ydz
        rw [hM]
        rcases Nat.le_total (root F a) (root F b) with hl | hl
        · rw [Nat.max_eq_right hl];exact h2.2
        · rw [Nat.max_eq_left hl];exact h1.2
      rw [hrv,if_pos hM]
      by_cases he:gn (ydS F a b) v=v
      · rw [ydz he]
        rw [hg,if_pos hM] at he
        exact he.symm
      · rw [yfT hJ hv he,hg,if_pos hM,hmin]
    · by_cases he:gn F v=v
      · have he':gn (ydS F a b) v=v:=by rw [hg,if_neg hM];exact he
        rw [ydz he',ydz he,if_neg hM]
      · have he':gn (ydS F a b) v≠v:=by rw [hg,if_neg hM];exact he
        have hle:=h.2 v hv
        rw [yfT hJ hv he',yfT h hv he,hg,if_neg hM]
        exact ih _ (by omega) (by omega)
def yfx:List Nat:=List.range 12
theorem yft:ydO yfx:=⟨rfl,fun v hv=>by rw [gn_of_lt (by simpa [yfx] using hv)];simp [yfx]⟩
def ya3(es:List E3):List Nat:=es.foldl (fun F x=>ydS F x.1.toNat x.2.1.toNat) yfx
def ya6(F:List Nat):Nat→Nat
  | 0=>0
  | n+1=>ya6 F n+if root F n=n then 1 else 0
def yfw(es:List E3):Prop:=∀ x,x∈es→0≤x.1∧x.1<12∧0≤x.2.1∧x.2.1<12
theorem ydi(es:List E3)(h:yfw es):ydO (ya3 es):=by
  unfold ya3
  suffices H:∀ (l:List E3) (F:List Nat),(∀ x,x∈l→0≤x.1∧x.1<12∧0≤x.2.1∧x.2.1<12)→ydO F→ydO (l.foldl (fun F x=>ydS F x.1.toNat x.2.1.toNat) F) from H es _ h yft
  intro l
  induction l with
  | nil=>exact fun F _ h=>h
  | cons x l ih =>
    intro F hl hF
    have hx:=hl x (by simp)
    exact ih _ (fun y hy=>hl y (by simp [hy])) (yeN hF (by omega) (by omega))
theorem joinedF_take(es:List E3){k:Nat}(hk:k<es.length):ya3 (es.take (k+1))=ydS (ya3 (es.take k)) (ge es k).1.toNat (ge es k).2.1.toNat:=by
  unfold ya3
  rw [List.take_add_one,List.getElem?_eq_getElem hk,List.foldl_append,yfn hk]
  rfl
theorem yfw.take{es:List E3}(h:yfw es)(k:Nat):yfw (es.take k):=fun x hx=>h x (List.mem_of_mem_take hx)
end Go.Proofs.YtjepipbkiadcpaaGreat

/- The iterator over the single edges at a vertex, and the loop that adds up what a property picks. -/
namespace Go.Proofs.YtjepipbkiadcpaaGreat
open Go.RowKit Go.Shelf Go.Proofs.Tryz
attribute [local go_sem] Oper.semAt_some
set_option maxRecDepth 100000
set_option maxHeartbeats 8000000
def link(v:Int)(x:E3):Option (Int×Int):=if x.1≠x.2.1∧(x.1=v∨x.2.1=v) then some (x.1+x.2.1-v,x.2.2) else none
def yfl(es:List E3)(v:Int):List (Int×Int):=es.filterMap (link v)
end Go.Proofs.YtjepipbkiadcpaaGreat

/- The loop that adds up the single edges from a vertex to those with a property. -/
namespace Go.Proofs.YtjepipbkiadcpaaGreat
open Go.RowKit Go.Shelf Go.Proofs.Tryz
attribute [local go_sem] Oper.semAt_some
set_option maxRecDepth 100000
set_option maxHeartbeats 8000000
def addF(p:Int→Bool)(l:List (Int×Int)):Int:=l.foldl (fun n x=>if p x.1 then n+x.2 else n) 0
def ybk(es:List E3)(v:Int)(p:Int→Bool):Int:=addF p (yfl es v)
end Go.Proofs.YtjepipbkiadcpaaGreat

/- The walk of reduced.begin: the state of a divisor. -/
namespace Go.Proofs.YtjepipbkiadcpaaGreat
open Go.RowKit Go.Proofs.Tryz
set_option maxRecDepth 100000
set_option maxHeartbeats 8000000
end Go.Proofs.YtjepipbkiadcpaaGreat

/- The walk of the fire that starts at q: the unburnt vertices of a state. -/
namespace Go.Proofs.YtjepipbkiadcpaaGreat
open Go.RowKit Go.Proofs.Tryz
set_option maxRecDepth 100000
set_option maxHeartbeats 4000000
def cf(b:List Bool):Nat:=(b.filter fun x=>!x).length
theorem cf_set{b:List Bool}{v:Nat}(h:v<b.length)(hv:gb b v=false):cf (b.set v true)+1=cf b:=by
  unfold cf
  induction b generalizing v with
  | nil=>simp at h
  | cons x b ih =>
    cases v with
    | zero =>
      simp [gb] at hv
      subst hv
      simp
    | succ v =>
      have:=ih (v:=v) (by simpa using h) (by simpa [gb] using hv)
      simp only [List.set_cons_succ,List.filter_cons]
      split
      · simp only [List.length_cons];omega
      · omega
def Closed(n:Nat)(es:List E3)(d:List Int)(b:List Bool):Prop:=∀ v,v<n→gb b v=false→ybk es (v:Int) (fun u=>gb b u.toNat)≤gi d v
def Forced(n:Nat)(es:List E3)(q:Nat)(d:List Int)(b:List Bool):Prop :=
  ∀ S:Nat→Bool,S q=false→(∀ v,v<n→S v=true→ybk es (v:Int) (fun u=>!S u.toNat)≤gi d v)→∀ v,v<n→S v=true→gb b v=false
theorem addF_mono{p p':Int→Bool}(l:List (Int×Int))(h:∀ q∈l,0≤q.2)(hpp:∀ q∈l,p q.1=true→p' q.1=true):addF p l≤addF p' l:=by
  suffices H:∀ (l:List (Int×Int)) (a a':Int),(∀ q∈l,0≤q.2)→(∀ q∈l,p q.1=true→p' q.1=true)→a≤a'→l.foldl (fun n x=>if p x.1 then n+x.2 else n) a≤l.foldl (fun n x=>if p' x.1 then n+x.2 else n) a' from H l 0 0 h hpp (Int.le_refl _)
  intro l
  induction l with
  | nil=>intro a a' _ _ h;exact h
  | cons x l ih =>
    intro a a' h hpp hle
    rw [List.foldl_cons,List.foldl_cons]
    refine ih _ _ (fun q hq=>h q (by simp [hq])) (fun q hq=>hpp q (by simp [hq])) ?_
    have h0:=h x (by simp)
    have h1:=hpp x (by simp)
    by_cases hp:p x.1=true
    · rw [if_pos hp,if_pos (h1 hp)];omega
    · rw [if_neg hp];split <;> omega
theorem yeR{es:List E3}{n:Nat}(hE:∀ x∈es,0≤x.1∧x.1<n∧0≤x.2.1∧x.2.1<n∧0≤x.2.2∧x.2.2≤50){v u m:Int}(h:(u,m)∈yfl es v):0≤u∧u<n∧0≤m∧m≤50:=by
  obtain ⟨x,hx,hl⟩:=List.mem_filterMap.1 h
  have h1:=hE x hx
  unfold link at hl
  split at hl
  · simp only [Option.some.injEq,Prod.mk.injEq] at hl
    omega
  · cases hl
theorem Forced.step{n:Nat}{es:List E3}{q:Nat}{d:List Int}{b:List Bool}(h:Forced n es q d b)(hE:∀ x∈es,0≤x.1∧x.1<n∧0≤x.2.1∧x.2.1<n∧0≤x.2.2∧x.2.2≤50){v:Nat}(hv:v<b.length)(hc:gi d v<ybk es (v:Int) (fun u=>gb b u.toNat)):Forced n es q d (b.set v true):=by
  intro S hq hS u hu hSu
  rw [yhp hv]
  by_cases e:u=v
  · subst e
    exfalso
    have h1:=hS u hu hSu
    have h2:ybk es (u:Int) (fun x=>gb b x.toNat)≤ybk es (u:Int) (fun x=>!S x.toNat):=by
      unfold ybk
      refine addF_mono _ (fun q hq=>(yeR hE (v:=(u:Int)) (u:=q.1) (m:=q.2) hq).2.2.1) (fun y hy hb=>?_)
      have hr:=yeR hE (v:=(u:Int)) (u:=y.1) (m:=y.2) hy
      cases hs:S y.1.toNat with
      | false=>rfl
      | true =>
        have:=h S hq hS y.1.toNat (by omega) hs
        simp only [this] at hb
        cases hb
    omega
  · rw [if_neg e]
    exact h S hq hS u hu hSu
end Go.Proofs.YtjepipbkiadcpaaGreat

/- Words for contracts that are proved from shallow forms: rows of numbers and bools read and written by index, states, the links' iterator. -/
namespace Go.Proofs.YtjepipbkiadcpaaGreat
open Go Go.RowKit Go.Shelf Go.Proofs.Tryz
set_option maxRecDepth 100000
theorem ix_some{p:Addr}{l:Nat}{i:Int}(h0:0≤i)(h1:i<(l:Int)):Ix (some p) l i:=⟨rfl,h0,h1⟩
theorem ixA_zero(g:Nat)(i:Int)(sz:Nat):ixA (some ⟨g,0,none⟩) i sz=⟨g,i.toNat*sz,none⟩:=by simp [ixA,Addr.add_mid]
theorem ixA_one(g:Nat)(i:Int):ixA (some ⟨g,0,none⟩) i 1=⟨g,i.toNat,none⟩:=by simp [ixA_zero]
theorem ixA_off(g o:Nat)(i:Int)(sz:Nat):ixA (some ⟨g,o,none⟩) i sz=⟨g,o+i.toNat*sz,none⟩:=by simp [ixA,Addr.add_mid]
theorem add_zero_ (g k:Nat):(⟨g,0,none⟩:Addr).add k=⟨g,k,none⟩:=by simp [Addr.add_mid]
section
variable {w w' : World} {g : Nat} {e : TypeId} {size : Nat}
theorem Row.at_ {xs:List Value}(h:Row w g e size xs)(k:Nat){v:Value}(hv:xs[k]? = some v):w.cell? ((⟨g,0,none⟩:Addr).add k)=some v:=by rw [add_zero_];exact h.cell hv
theorem bwr{xs:List Bool}(h:BRow w g e size xs){i:Int}(h0:0≤i)(h1:i<(xs.length:Int)):Wr w (ixA (some ⟨g,0,none⟩) i 1):=by
  rw [ixA_one];exact ⟨by rw [bcell h (by omega)];rfl,Row.frozen h _⟩
theorem bst{xs:List Bool}(h:BRow w g e size xs)(i:Int)(v:Bool):BRow (w.setCell (ixA (some ⟨g,0,none⟩) i 1) (.bool v)) g e size (xs.set i.toNat v):=by
  rw [ixA_one];exact bset h _ _
theorem Keeps.set_ {S:Nat→Prop}{a:World}(h:Keeps S a w){k:Nat}(hk:S k)(i:Int)(v:Value):Keeps S a (w.setCell (ixA (some ⟨k,0,none⟩) i 1) v):=by
  rw [ixA_one];exact h.setCell (fun _=>hk) v
end
end Go.Proofs.YtjepipbkiadcpaaGreat

/- Shallow forms of functions, made by program (sh.py), each with the proof that the code does so. -/
namespace Go.Proofs.YtjepipbkiadcpaaGreat
open Go Go.RowKit Go.Shelf Go.Proofs.Tryz
set_option maxRecDepth 100000
set_option maxHeartbeats 8000000
end Go.Proofs.YtjepipbkiadcpaaGreat

/- Shallow forms of functions, made by program (sh.py), each with the proof that the code does so. -/
namespace Go.Proofs.YtjepipbkiadcpaaGreat
open Go Go.RowKit Go.Shelf Go.Proofs.Tryz
set_option maxRecDepth 100000
set_option maxHeartbeats 8000000
end Go.Proofs.YtjepipbkiadcpaaGreat

/- The contracts of slices.Repeat at one number, of bits.Mul at small numbers, of slices.Max. -/
namespace Go.Proofs.YtjepipbkiadcpaaGreat
open Go Go.RowKit Go.Shelf Go.Proofs.Tryz
set_option maxRecDepth 100000
set_option maxHeartbeats 8000000
theorem inU64{a:Int}(h0:0≤a)(h1:a<18446744073709551616):InK .u64 a:=by
  unfold InK IntKind.wrap
  simp [IntKind.bits,IntKind.signed]
  omega
theorem and32{x:Int}(h0:0≤x)(h1:x≤65535):((x.toNat &&& (4294967295:Int).toNat:Nat):Int)=x:=by
  have:(4294967295:Int).toNat=2^32-1:=rfl
  rw [this,Nat.and_two_pow_sub_one_eq_mod]
  omega
end Go.Proofs.YtjepipbkiadcpaaGreat

/- Distances by a search in breadth: what its two lists say at each step. No program in sight. -/
namespace Go.Proofs.YtjepipbkiadcpaaGreat
open Go Go.Proofs.Tryz
def Adj(es:List E3)(v u:Nat):Prop:=∃ m,((u:Int),m)∈yfl es (v:Int)
theorem ycx{es:List E3}{v u m:Int} : (u,m)∈yfl es v↔∃ x∈es,x.1≠x.2.1∧(x.1=v∨x.2.1=v)∧u=x.1+x.2.1-v∧m=x.2.2:=by
  unfold yfl
  rw [List.mem_filterMap]
  constructor
  · rintro ⟨x,hx,hl⟩
    unfold link at hl
    split at hl
    · rename_i h
      simp only [Option.some.injEq,Prod.mk.injEq] at hl
      exact ⟨x,hx,h.1,h.2,hl.1.symm,hl.2.symm⟩
    · cases hl
  · rintro ⟨x,hx,h1,h2,rfl,rfl⟩
    exact ⟨x,hx,by unfold link;rw [if_pos ⟨h1,h2⟩]⟩
theorem Adj.symm{es:List E3}{v u:Nat}(h:Adj es v u):Adj es u v:=by
  obtain ⟨m,h⟩:=h
  obtain ⟨x,hx,h1,h2,h3,h4⟩:=ycx.1 h
  exact ⟨m,ycx.2 ⟨x,hx,h1,by omega,by omega,h4⟩⟩
def cu(o:List Int):Nat:=(o.filter fun x=>decide (x<0)).length
theorem cu_set{o:List Int}{v:Nat}{x:Int}(h:v<o.length)(hv:gi o v<0)(hx:0≤x):cu (o.set v x)+1=cu o:=by
  unfold cu
  induction o generalizing v with
  | nil=>simp at h
  | cons y o ih =>
    cases v with
    | zero =>
      simp [gi] at hv
      simp [List.filter_cons,hv,Int.not_lt.2 hx]
    | succ v =>
      have:=ih (v:=v) (by simpa using h) (by simpa [gi] using hv)
      simp only [List.set_cons_succ,List.filter_cons]
      split
      · simp only [List.length_cons];omega
      · omega
structure BIn(n:Nat)(es:List E3)(q v:Nat)(pre:List (Int×Int))(o:List Int)(Q:List Nat):Prop where
  len:o.length=n
  vn:v<n
  v0:0≤gi o v
  rng:∀ a∈Q,a<n∧0≤gi o a
  q0:gi o q=0
  low:∀ b, -1≤gi o b
  val:∀ b,gi o b+cu o≤(n:Int)-1
  par:∀ b,b<n→0<gi o b→∃ u,u<n∧Adj es b u∧gi o u=gi o b-1
  top:∀ b,b<n→gi o b≤gi o v+1
  bot:∀ a∈Q,gi o v≤gi o a
  mono:Q.Pairwise fun a b=>gi o a≤gi o b
  done:∀ x,x<n→0≤gi o x→x∉Q→x≠v→gi o x≤gi o v∧∀ u,Adj es x u→0≤gi o u∧gi o u≤gi o x+1
  now:∀ p∈pre,0≤gi o p.1.toNat∧gi o p.1.toNat≤gi o v+1
  zero:∀ b,b<n→gi o b=0→b=q
structure BInv(n:Nat)(es:List E3)(q:Nat)(o:List Int)(Q:List Nat):Prop where
  len:o.length=n
  rng:∀ a∈Q,a<n∧0≤gi o a
  q0:gi o q=0
  low:∀ b, -1≤gi o b
  val:∀ b,gi o b+cu o≤(n:Int)-1
  par:∀ b,b<n→0<gi o b→∃ u,u<n∧Adj es b u∧gi o u=gi o b-1
  top:∀ a∈Q,∀ b,b<n→gi o b≤gi o a+1
  mono:Q.Pairwise fun a b=>gi o a≤gi o b
  done:∀ x,x<n→0≤gi o x→x∉Q→(∀ a∈Q,gi o x≤gi o a)∧∀ u,Adj es x u→0≤gi o u∧gi o u≤gi o x+1
  zero:∀ b,b<n→gi o b=0→b=q
theorem BIn.push{n:Nat}{es:List E3}{q v:Nat}{pre:List (Int×Int)}{o:List Int}{Q:List Nat}(h:BIn n es q v pre o Q){u:Nat}{m:Int}(hu:u<n)(ha:Adj es v u)(hneg:gi o u<0) :
    BIn n es q v (pre++[((u:Int),m)]) (o.set u (gi o v+1)) (Q++[u]):=by
  have hul:u<o.length:=by rw [h.len];exact hu
  have hs:∀ b,gi (o.set u (gi o v+1)) b=if b=u then gi o v+1 else gi o b:=fun b=>ydh hul
  have hv0:=h.v0
  have hvu:v≠u:=by rintro rfl;omega
  have hc:=cu_set hul hneg (x:=gi o v+1) (by omega)
  have hkn:∀ b,0≤gi o b→gi (o.set u (gi o v+1)) b=gi o b:=fun b hb=>by
    rw [hs,if_neg (by rintro rfl;omega)]
  refine ⟨by simpa using h.len,h.vn,by rw [hkn v hv0];exact hv0,?_,by rw [hkn q (by rw [h.q0];omega)];exact h.q0,?_,?_,?_,?_,?_,?_,?_,?_,fun b hb h0=>by
    rw [hs] at h0
    split at h0
    · omega
    · exact h.zero b hb h0⟩
  · intro a ha'
    rcases List.mem_append.1 ha' with h1 | h1
    · have:=h.rng a h1;exact ⟨this.1,by rw [hkn a this.2];exact this.2⟩
    · simp only [List.mem_singleton] at h1;subst h1;exact ⟨hu,by rw [hs,if_pos rfl];omega⟩
  · intro b;rw [hs];split
    · omega
    · exact h.low b
  · intro b;rw [hs]
    have:=h.val b
    have:=h.val v
    split <;> omega
  · intro b hb h0
    rw [hs] at h0
    by_cases e:b=u
    · subst e
      refine ⟨v,h.vn,ha.symm,?_⟩
      rw [hkn v hv0,hs,if_pos rfl];omega
    · rw [if_neg e] at h0
      obtain ⟨y,hy,hay,hoy⟩:=h.par b hb h0
      refine ⟨y,hy,hay,?_⟩
      rw [hkn y (by omega),hs,if_neg e];exact hoy
  · intro b hb
    rw [hkn v hv0,hs]
    have:=h.top b hb
    split <;> omega
  · intro a ha'
    rw [hkn v hv0]
    rcases List.mem_append.1 ha' with h1 | h1
    · have h2:=h.rng a h1;rw [hkn a h2.2];exact h.bot a h1
    · simp only [List.mem_singleton] at h1;subst h1;rw [hs,if_pos rfl];omega
  · refine List.pairwise_append.2 ⟨h.mono.imp_of_mem (fun {a b} ha hb hab=>by rw [hkn a (h.rng a ha).2,hkn b (h.rng b hb).2];exact hab),by simp,fun a ha' b hb=>?_⟩
    simp only [List.mem_singleton] at hb;subst hb
    have h2:=h.rng a ha'
    rw [hkn a h2.2,hs,if_pos rfl]
    exact h.top a h2.1
  · intro x hx h0 hn hne
    have hxu:x≠u:=fun e=>hn (by simp [e])
    rw [hs,if_neg hxu] at h0
    have:=h.done x hx h0 (fun h=>hn (by simp [h])) hne
    rw [hkn v hv0,hs x,if_neg hxu]
    refine ⟨this.1,fun y hy=>?_⟩
    have h2:=this.2 y hy
    rw [hkn y h2.1];exact h2
  · intro p hp
    rw [hkn v hv0]
    rcases List.mem_append.1 hp with h1 | h1
    · have h2:=h.now p h1;rw [hkn _ h2.1];exact h2
    · simp only [List.mem_singleton] at h1;subst h1
      simp only [Int.toNat_natCast]
      rw [hs,if_pos rfl];omega
theorem BInv.start{n:Nat}{es:List E3}{q:Nat}(hq:q<n):BInv n es q ((List.replicate n (-1)).set q 0) [q]:=by
  have hl:q<(List.replicate n (-1:Int)).length:=by simpa using hq
  have hs:∀ b,gi ((List.replicate n (-1)).set q 0) b=if b=q then 0 else gi (List.replicate n (-1)) b:=fun b=>ydh hl
  have hr:∀ b,b<n→gi (List.replicate n (-1)) b = -1:=fun b hb=>by rw [yba (by simpa using hb)];simp
  have hr2:∀ b,gi (List.replicate n (-1)) b = -1∨gi (List.replicate n (-1)) b=0:=fun b=>by
    rcases Nat.lt_or_ge b n with h | h
    · exact .inl (hr b h)
    · exact .inr (gi_ge (by simpa using h))
  have hc0:∀ n:Nat,cu (List.replicate n (-1))=n:=by
    intro n
    unfold cu
    rw [List.filter_eq_self.2 (fun x hx=>by rw [(List.mem_replicate.1 hx).2];rfl)]
    simp
  have hc:=cu_set hl (by rw [hr q hq];omega) (x:=0) (by omega)
  rw [hc0] at hc
  refine ⟨by simp,fun a ha=>?_,by rw [hs,if_pos rfl],fun b=>?_,fun b=>?_,fun b hb h0=>?_,fun a ha b hb=>?_,by simp,fun x hx h0 hn=>?_,fun b hb h0=>by
    rw [hs,hr b hb] at h0
    split at h0
    · assumption
    · omega⟩
  · simp only [List.mem_singleton] at ha;subst ha;exact ⟨hq,by rw [hs,if_pos rfl];omega⟩
  · rw [hs];rcases hr2 b with h | h <;> split <;> omega
  · rw [hs]
    rcases hr2 b with h | h
    · split <;> omega
    · split <;> omega
  · rw [hs] at h0;rw [hr b hb] at h0;split at h0 <;> omega
  · simp only [List.mem_singleton] at ha;subst ha;rw [hs,hs a,if_pos rfl,hr b hb];split <;> omega
  · exfalso
    rw [hs,hr x hx] at h0
    split at h0
    · rename_i e;exact hn (by simp [e])
    · omega
structure Dist(n:Nat)(es:List E3)(q:Nat)(o:List Int):Prop where
  len:o.length=n
  q0:gi o q=0
  low:∀ b, -1≤gi o b
  high:∀ b,gi o b≤(n:Int)-1
  par:∀ b,b<n→0<gi o b→∃ u,u<n∧Adj es b u∧gi o u=gi o b-1
  step:∀ x,x<n→0≤gi o x→∀ u,Adj es x u→0≤gi o u∧gi o u≤gi o x+1
  zero:∀ b,b<n→gi o b=0→b=q
end Go.Proofs.YtjepipbkiadcpaaGreat

/- The contract of distances: a search in breadth from q. -/
namespace Go.Proofs.YtjepipbkiadcpaaGreat
open Go Go.RowKit Go.Shelf Go.Proofs.Tryz
set_option maxRecDepth 100000
set_option maxHeartbeats 8000000
theorem OwnS.cell{w:World}{B:Nat}{e:TypeId}{A:Option Addr}{l c:Nat}{xs:List Value}(h:OwnS w B e 1 A l c xs){i:Int}(h0:0≤i){v:Value}(hv:xs[i.toNat]? = some v):Ix A l i∧w.cell? (ixA A i 1)=some v:=by
  have hl:xs.length=l:=by simpa using h.1
  have hlt:i.toNat<xs.length:=(List.getElem?_eq_some_iff.1 hv).1
  rcases h.2 with ⟨rfl,h1,_⟩ | ⟨g,o,cur,rfl,hB,hg,hlc,hcm,hcs,ht⟩
  · omega
  · refine ⟨ix_some h0 (by omega),?_⟩
    rw [ixA_off,cell_of_row w g _ cur e (0,0) hg]
    rw [←ht,List.getElem?_take,if_pos (by omega),List.getElem?_drop] at hv
    simpa using hv
theorem OwnS.keep{w w':World}{B:Nat}{e:TypeId}{sz:Nat}{A:Option Addr}{l c:Nat}{xs:List Value}(h:OwnS w B e sz A l c xs)(hk:∀ a,A=some a→w'.heap[a.block]? = w.heap[a.block]?):OwnS w' B e sz A l c xs:=by
  refine ⟨h.1,?_⟩
  rcases h.2 with h1 | ⟨g,o,cur,rfl,hB,hg,rest⟩
  · exact .inl h1
  · exact .inr ⟨g,o,cur,rfl,hB,(hk _ rfl).trans hg,rest⟩
theorem OwnS.lt{w:World}{B:Nat}{e:TypeId}{sz:Nat}{A:Option Addr}{l c:Nat}{xs:List Value}(h:OwnS w B e sz A l c xs){a:Addr}(ha:A=some a):B≤a.block∧a.block<w.heap.size:=by
  rcases h.2 with ⟨h1,_⟩ | ⟨g,o,cur,h1,hB,hg,rest⟩
  · rw [h1] at ha;cases ha
  · rw [h1] at ha;cases ha;exact ⟨hB,(Array.getElem?_eq_some_iff.1 hg).1⟩
structure QI(w0:World)(B gO gQ n:Nat)(es:List E3)(q:Nat)(m:Nat)(w:World)(o:List Int)(Q:List Nat)(A:Option Addr)(l c:Nat):Prop where
  len:l=Q.length
  mes:2*cu o+Q.length≤m
  out:IRow w gO 3 n o
  box:Row w gQ 33 1 [.slice A l c]
  own:OwnS w B 3 1 A l c (Q.map fun (x:Nat)=>Value.int .i64 (x:Int))
  pure:Pure w0 w
end Go.Proofs.YtjepipbkiadcpaaGreat

/- The contract of fire: a set of vertices fires some times. -/
namespace Go.Proofs.YtjepipbkiadcpaaGreat
open Go Go.RowKit Go.Shelf Go.Proofs.Tryz
set_option maxRecDepth 100000
set_option maxHeartbeats 8000000
def pay(t:Int)(v:Nat)(d:List Int)(x:Int×Int):List Int:=(d.set v (gi d v-x.2*t)).set x.1.toNat (gi (d.set v (gi d v-x.2*t)) x.1.toNat+x.2*t)
def yic(t:Int)(v:Nat)(l:List (Int×Int))(d:List Int):List Int:=l.foldl (pay t v) d
def yfE(es:List E3)(inn:List Bool)(t:Int)(d:List Int):Nat→List Int
  | 0=>d
  | k+1=>if gb inn k then yic t k (yfl es k) (yfE es inn t d k) else yfE es inn t d k
def yev(inn:List Bool)(t:Int)(s:List Int):Nat→List Int
  | 0=>s
  | k+1=>if gb inn k then (yev inn t s k).set k (gi (yev inn t s k) k+t) else yev inn t s k
theorem payAll_length(t:Int)(v:Nat)(l:List (Int×Int)):∀ d,(yic t v l d).length=d.length:=by
  unfold yic
  induction l with
  | nil=>intro d;rfl
  | cons x l ih=>intro d;rw [List.foldl_cons,ih];simp [pay]
theorem yd9(es:List E3)(inn:List Bool)(t:Int)(d:List Int):∀ k,(yfE es inn t d k).length=d.length
  | 0=>rfl
  | k+1=>by
    rw [yfE];split
    · rw [payAll_length,yd9 es inn t d k]
    · exact yd9 es inn t d k
theorem yea(inn:List Bool)(t:Int)(s:List Int):∀ k,(yev inn t s k).length=s.length
  | 0=>rfl
  | k+1=>by
    rw [yev];split
    · rw [List.length_set,yea inn t s k]
    · exact yea inn t s k
theorem fireS_gi(inn:List Bool)(t:Int)(s:List Int):∀ k i,k≤s.length→gi (yev inn t s k) i=if i<k∧gb inn i=true then gi s i+t else gi s i
  | 0,i,_=>by simp [yev]
  | k+1,i,hk=>by
    have ih:=fireS_gi inn t s k
    rw [yev]
    by_cases hb:gb inn k=true
    · rw [if_pos hb,ydh (by rw [yea];omega)]
      by_cases e:i=k
      · subst e;rw [if_pos rfl,if_pos ⟨by omega,hb⟩,ih i (by omega),if_neg (by omega)]
      · rw [if_neg e,ih i (by omega)]
        by_cases h2:i<k∧gb inn i=true
        · rw [if_pos h2,if_pos ⟨by omega,h2.2⟩]
        · rw [if_neg h2,if_neg (fun h=>h2 ⟨by omega,h.2⟩)]
    · rw [if_neg hb,ih i (by omega)]
      by_cases h2:i<k∧gb inn i=true
      · rw [if_pos h2,if_pos ⟨by omega,h2.2⟩]
      · rw [if_neg h2,if_neg (fun h=>by
          by_cases e:i=k
          · subst e;exact hb h.2
          · exact h2 ⟨by omega,h.2⟩)]
def Bnd(M:Int)(d:List Int):Prop:=∀ i, -M≤gi d i∧gi d i≤M
def bigAt(d s:List Int)(j:Nat):Bool:=decide (2097152<gi d j∨2097152 < -gi d j∨2097152<gi s j∨2097152 < -gi s j)
def fireE(d s:List Int)(e:Int):Nat→Int
  | 0=>e
  | j+1=>if bigAt d s j=true∧fireE d s e j=0 then 11 else fireE d s e j
end Go.Proofs.YtjepipbkiadcpaaGreat

/- The contract of settle: unburnt sets fire until there are none. What fires well is a premise (Good), so that the numbers are plain Lean elsewhere. -/
namespace Go.Proofs.YtjepipbkiadcpaaGreat
open Go Go.RowKit Go.Shelf Go.Proofs.Tryz
set_option maxRecDepth 100000
set_option maxHeartbeats 8000000
structure Burns(n:Nat)(es:List E3)(q:Nat)(d:List Int)(burnt:List Bool):Prop where
  len:burnt.length=n
  at_q:gb burnt q=true
  closed:Closed n es d burnt
  forced:Forced n es q d burnt
end Go.Proofs.YtjepipbkiadcpaaGreat

/- The contracts of slices.Max and of lend: from the farthest vertices on, the nearer ones fire. What fires well is a premise (Good). -/
namespace Go.Proofs.YtjepipbkiadcpaaGreat
open Go Go.RowKit Go.Shelf Go.Proofs.Tryz
set_option maxRecDepth 100000
set_option maxHeartbeats 8000000
def yhE(l:List Int):Nat→Int
  | 0=>gi l 0
  | k+1=>mxF (yhE l k) (gi l k)
theorem maxTo_ge(l:List Int):∀ (k j:Nat),j<k→gi l j≤yhE l k
  | k+1,j,h=>by
    rw [yhE,mxF_eq]
    by_cases e:j=k
    · subst e;exact Int.le_max_right _ _
    · exact Int.le_trans (maxTo_ge l k j (by omega)) (Int.le_max_left _ _)
theorem maxTo_mem(l:List Int):∀ k,k≤l.length→0<l.length→∃ j,j<l.length∧yhE l k=gi l j
  | 0,_,h=>⟨0,h,rfl⟩
  | k+1,h,h0=>by
    obtain ⟨j,hj,e⟩:=maxTo_mem l k (by omega) h0
    rw [yhE]
    unfold mxF
    split
    · exact ⟨k,by omega,rfl⟩
    · exact ⟨j,hj,e⟩
def ybs(o:List Int)(k:Int):List Bool:=o.map fun x=>decide (x<k)
theorem yfR{o:List Int}{k:Int}{j:Nat}(h:j<o.length):gb (ybs o k) j=decide (gi o j<k):=by
  rw [yeU (by simpa [ybs] using h),yba h]
  simp [ybs]
def yde(es:List E3)(o:List Int)(k:Int)(d:List Int):Nat→Int
  | 0=>0
  | j+1=>if gi o j=k∧gi d j<0 then mxF (yde es o k d j) ((-gi d j+ybk es (j:Int) (fun u=>gb (ybs o k) u.toNat)-1).tdiv (ybk es (j:Int) (fun u=>gb (ybs o k) u.toNat))) else yde es o k d j
theorem addF_pos{p:Int→Bool}{l:List (Int×Int)}(h:∀ q∈l,0≤q.2){x:Int×Int}(hx:x∈l)(hp:p x.1=true)(hx1:1≤x.2):1≤addF p l:=by
  suffices H:∀ (l:List (Int×Int)) (a:Int),(∀ q∈l,0≤q.2)→a≤l.foldl (fun n x=>if p x.1 then n+x.2 else n) a∧(x∈l→a+1≤l.foldl (fun n x=>if p x.1 then n+x.2 else n) a) by
    have:=(H l 0 h).2 hx
    unfold addF;omega
  intro l
  induction l with
  | nil=>intro a _;simp
  | cons y l ih =>
    intro a h
    have h1:=ih (if p y.1 then a+y.2 else a) (fun q hq=>h q (by simp [hq]))
    have hy:=h y (by simp)
    rw [List.foldl_cons]
    refine ⟨?_,fun hm=>?_⟩
    · split at h1 <;> rename_i hpy <;> simp only [hpy] at h1 ⊢ <;> simp at h1 ⊢ <;> omega
    · rcases List.mem_cons.1 hm with rfl | hm
      · rw [if_pos hp] at h1 ⊢;omega
      · have h2:=h1.2 hm
        split at h2 <;> rename_i hpy <;> simp only [hpy] at h2 ⊢ <;> simp at h2 ⊢ <;> omega
theorem near_pos{n:Nat}{es:List E3}{q:Nat}{o:List Int}(hD:Dist n es q o)(hE1:∀ x∈es,1≤x.2.2){v k:Nat}(hv:v<n)(hk:gi o v=(k:Int)+1):1≤ybk es (v:Int) (fun u=>gb (ybs o ((k:Int)+1)) u.toNat):=by
  obtain ⟨u,hu,⟨m,hm⟩,ho⟩:=hD.par v hv (by omega)
  have hpos:∀ p∈yfl es (v:Int),1≤p.2:=fun p hp=>by
    obtain ⟨x,hx,_,_,_,h4⟩:=(ycx (u:=p.1) (m:=p.2)).1 hp
    rw [h4];exact hE1 x hx
  refine addF_pos (fun p hp=>by have:=hpos p hp;omega) hm ?_ (hpos _ hm)
  simp only [Int.toNat_natCast]
  rw [yfR (by rw [hD.len];exact hu)]
  simp;omega
end Go.Proofs.YtjepipbkiadcpaaGreat

/- Sums, weights, the Laplacian, and what firing does to the chips. No program in sight. -/
namespace Go.Proofs.YtjepipbkiadcpaaGreat
open Go Go.Proofs.Tryz
def sm:Nat→(Nat→Int)→Int
  | 0,_=>0
  | n+1,f=>sm n f+f n
theorem ya0{f g:Nat→Int} : ∀ {n:Nat},(∀ i,i<n→f i=g i)→sm n f=sm n g
  | 0,_=>rfl
  | n+1,h=>by rw [sm,sm,ya0 (fun i hi=>h i (by omega)),h n (by omega)]
theorem ydG:∀ n,sm n (fun _=>0)=0
  | 0=>rfl
  | n+1=>by rw [sm,ydG n];rfl
theorem yeQ(f g:Nat→Int):∀ n,sm n (fun i=>f i+g i)=sm n f+sm n g
  | 0=>rfl
  | n+1=>by simp only [sm,yeQ f g n];omega
theorem sm_sub(f g:Nat→Int):∀ n,sm n (fun i=>f i-g i)=sm n f-sm n g
  | 0=>rfl
  | n+1=>by simp only [sm,sm_sub f g n];omega
theorem sm_mul(c:Int)(f:Nat→Int):∀ n,sm n (fun i=>c*f i)=c*sm n f
  | 0=>by simp [sm]
  | n+1=>by simp only [sm,sm_mul c f n,Int.mul_add]
theorem yhc{f g:Nat→Int} : ∀ {n:Nat},(∀ i,i<n→f i≤g i)→sm n f≤sm n g
  | 0,_=>Int.le_refl _
  | n+1,h=>by
    have h1:=yhc (fun i hi=>h i (by omega):∀ i,i<n→f i≤g i)
    have h2:=h n (by omega)
    rw [sm,sm];omega
theorem yb8{f:Nat→Int}{n:Nat}(h:∀ i,i<n→0≤f i):0≤sm n f:=by
  have:=yhc h
  rwa [ydG] at this
theorem sm_ge{f:Nat→Int} : ∀ {n:Nat},(∀ i,i<n→0≤f i)→∀ j,j<n→f j≤sm n f
  | n+1,h,j,hj=>by
    have h1:=yb8 (fun i hi=>h i (by omega):∀ i,i<n→0≤f i)
    have h2:=h n (by omega)
    rw [sm]
    by_cases e:j=n
    · subst e;omega
    · have:=sm_ge (fun i hi=>h i (by omega):∀ i,i<n→0≤f i) j (by omega);omega
theorem sm_swap(f:Nat→Nat→Int)(m:Nat):∀ n,sm n (fun i=>sm m (fun j=>f i j))=sm m (fun j=>sm n (fun i=>f i j))
  | 0=>by simp only [sm];rw [ydG]
  | n+1=>by
    simp only [sm]
    rw [sm_swap f m n,←yeQ]
theorem yhv(c:Int):∀ {n j:Nat},j<n→sm n (fun i=>if i=j then c else 0)=c
  | n+1,j,h=>by
    rw [sm]
    by_cases e:j=n
    · subst e
      rw [if_pos rfl,ya0 (g:=fun _=>0) (fun i hi=>if_neg (by omega)),ydG];omega
    · rw [yhv c (by omega:j<n),if_neg (by omega)];omega
def addG(p:Int→Bool):List (Int×Int)→Int
  | []=>0
  | x::l=>(if p x.1 then x.2 else 0)+addG p l
theorem yg2(p:Int→Bool)(l:List (Int×Int)):addF p l=addG p l:=by
  suffices H:∀ (l:List (Int×Int)) (a:Int),l.foldl (fun n x=>if p x.1 then n+x.2 else n) a=a+addG p l by
    unfold addF;rw [H];omega
  intro l
  induction l with
  | nil=>intro a;simp [addG]
  | cons x l ih=>intro a;rw [List.foldl_cons,ih,addG];split <;> omega
theorem addG_sum{n:Nat}(p:Int→Bool):∀ (l:List (Int×Int)),(∀ x∈l,0≤x.1∧x.1<n)→addG p l=sm n (fun u=>if p (u:Int) then addG (fun x=>x==(u:Int)) l else 0)
  | [],_=>by
    rw [addG,ya0 (g:=fun _=>0) (fun i _=>by simp [addG]),ydG]
  | x::l,h=>by
    have hx:=h x (by simp)
    have ih:=addG_sum p l (fun y hy=>h y (by simp [hy]))
    have h1:sm n (fun u=>if p (u:Int) then addG (fun y=>y==(u:Int)) (x::l) else 0)=sm n (fun u=>(if u=x.1.toNat then (if p x.1 then x.2 else 0) else 0)+(if p (u:Int) then addG (fun y=>y==(u:Int)) l else 0)):=by
      refine ya0 (fun u hu=>?_)
      simp only [addG]
      by_cases e:u=x.1.toNat
      · have e2:x.1=(u:Int):=by omega
        rw [if_pos e,e2]
        simp only [beq_self_eq_true,if_true]
        split <;> omega
      · have e2:(x.1==(u:Int))=false:=by simp;omega
        rw [if_neg e]
        simp only [e2,Bool.false_eq_true,if_false]
        split <;> omega
    rw [h1,yeQ,yhv _ (by omega),addG,ih]
def W(es:List E3)(v u:Nat):Int:=ybk es (v:Int) (fun x=>x==(u:Int))
def EOk(n:Nat)(es:List E3):Prop:=∀ x∈es,0≤x.1∧x.1<n∧0≤x.2.1∧x.2.1<n∧1≤x.2.2∧x.2.2≤50
theorem EOk.range{n:Nat}{es:List E3}(h:EOk n es):∀ x∈es,0≤x.1∧x.1<n∧0≤x.2.1∧x.2.1<n∧0≤x.2.2∧x.2.2≤50:=fun x hx=>by have:=h x hx;omega
theorem yfY{n:Nat}{es:List E3}(h:EOk n es)(v:Nat)(p:Int→Bool):ybk es (v:Int) p=sm n (fun u=>if p (u:Int) then W es v u else 0):=by
  have h1:∀ x∈yfl es (v:Int),0≤x.1∧x.1<n:=fun x hx=>by
    have:=yeR h.range (v:=(v:Int)) (u:=x.1) (m:=x.2) hx;omega
  unfold ybk
  rw [yg2,addG_sum p _ h1]
  refine ya0 fun u _=>?_
  unfold W ybk
  rw [yg2]
def w1(x:E3)(v u:Nat):Int:=if x.1≠x.2.1∧((x.1=v∧x.2.1=u)∨(x.1=u∧x.2.1=v)) then x.2.2 else 0
theorem yhV(x:E3)(es:List E3)(v u:Nat):W (x::es) v u=w1 x v u+W es v u:=by
  unfold W ybk yfl w1
  rw [yg2,yg2,List.filterMap_cons]
  unfold link
  by_cases c:x.1≠x.2.1∧(x.1=v∨x.2.1=v)
  · rw [if_pos c]
    simp only [addG]
    by_cases e:x.1+x.2.1-v=u
    · rw [if_pos (by simpa using e),if_pos ⟨c.1,by omega⟩]
    · rw [if_neg (by simpa using e),if_neg (fun h=>by omega)]
  · simp only [if_neg c]
    rw [if_neg (fun h=>c ⟨h.1,by omega⟩)]
    omega
theorem W_nil(v u:Nat):W [] v u=0:=rfl
theorem w1_symm(x:E3)(v u:Nat):w1 x v u=w1 x u v:=by
  unfold w1
  by_cases c:x.1≠x.2.1∧((x.1=v∧x.2.1=u)∨(x.1=u∧x.2.1=v))
  · rw [if_pos c,if_pos ⟨c.1,by omega⟩]
  · rw [if_neg c,if_neg (fun h=>c ⟨h.1,by omega⟩)]
theorem yhq:∀ (es:List E3) (v u:Nat),W es v u=W es u v
  | [],v,u=>rfl
  | x::es,v,u=>by rw [yhV,yhV,w1_symm,yhq es v u]
theorem W_self:∀ (es:List E3) (v:Nat),W es v v=0
  | [],v=>rfl
  | x::es,v=>by
    rw [yhV,W_self es v]
    unfold w1
    rw [if_neg (fun h=>h.1 (by omega))];rfl
theorem yc2{n:Nat}{es:List E3}(h:EOk n es):∀ v u,0≤W es v u:=by
  induction es with
  | nil=>intro v u;rw [W_nil];omega
  | cons x es ih =>
    intro v u
    have h1:=ih (fun y hy=>h y (by simp [hy])) v u
    have h2:=h x (by simp)
    rw [yhV]
    unfold w1
    split <;> omega
theorem W_adj{n:Nat}{es:List E3}(h:EOk n es){v u:Nat} : 0<W es v u↔Adj es v u:=by
  induction es with
  | nil=>rw [W_nil];constructor;(intro h;omega);rintro ⟨m,hm⟩;exact absurd hm (by simp [yfl])
  | cons x es ih =>
    have h1:=ih (fun y hy=>h y (by simp [hy]))
    have h2:=h x (by simp)
    have h3:=yc2 (fun y hy=>h y (by simp [hy]):EOk n es) v u
    rw [yhV]
    have h4:Adj (x::es) v u↔(x.1≠x.2.1∧((x.1=v∧x.2.1=u)∨(x.1=u∧x.2.1=v)))∨Adj es v u:=by
      constructor
      · rintro ⟨m,hm⟩
        obtain ⟨y,hy,q1,q2,q3,q4⟩:=ycx.1 hm
        rcases List.mem_cons.1 hy with rfl | hy
        · exact .inl ⟨q1,by omega⟩
        · exact .inr ⟨m,ycx.2 ⟨y,hy,q1,q2,q3,q4⟩⟩
      · rintro (q | ⟨m,hm⟩)
        · exact ⟨x.2.2,ycx.2 ⟨x,by simp,q.1,by omega,by omega,rfl⟩⟩
        · obtain ⟨y,hy,q1,q2,q3,q4⟩:=ycx.1 hm
          exact ⟨m,ycx.2 ⟨y,by simp [hy],q1,q2,q3,q4⟩⟩
    rw [h4,←h1]
    unfold w1
    constructor
    · intro hh
      split at hh
      · rename_i c;exact .inl c
      · exact .inr (by omega)
    · rintro (c | c)
      · rw [if_pos c];omega
      · split <;> omega
def Lp(n:Nat)(es:List E3)(s:Nat→Int)(v:Nat):Int:=sm n (fun u=>W es v u*(s v-s u))
def deg(n:Nat)(es:List E3)(v:Nat):Int:=sm n (fun u=>W es v u)
theorem gi_pay{t:Int}{v:Nat}{x:Int×Int}{d:List Int}(hv:v<d.length)(hu:x.1.toNat<d.length)(hne:x.1.toNat≠v)(i:Nat) :
    gi (pay t v d x) i=gi d i-(if i=v then x.2*t else 0)+(if i=x.1.toNat then x.2*t else 0):=by
  unfold pay
  rw [ydh (by simpa using hu),ydh hv]
  by_cases e:i=x.1.toNat
  · subst e;rw [if_pos rfl,if_pos rfl,if_neg hne];rw [if_neg hne];omega
  · rw [if_neg e,if_neg e,ydh hv];split <;> (try subst_vars) <;> omega
theorem gi_payAll{t:Int}{v n:Nat} : ∀ (l:List (Int×Int)) (d:List Int),d.length=n→v<n→(∀ x∈l,0≤x.1∧x.1<n∧x.1.toNat≠v)→∀ i,
    gi (yic t v l d) i=gi d i-(if i=v then t*addG (fun _=>true) l else 0)+t*addG (fun y=>y==(i:Int)) l
  | [],d,_,_,_,i=>by simp [yic,addG]
  | x::l,d,hd,hv,h,i=>by
    have hx:=h x (by simp)
    have h1:=gi_payAll (t:=t) (v:=v) l (pay t v d x) (by simp [pay,hd]) hv (fun y hy=>h y (by simp [hy])) i
    have h2:yic t v (x::l) d=yic t v l (pay t v d x):=rfl
    rw [h2,h1,gi_pay (by omega) (by omega) hx.2.2]
    simp only [addG,if_true]
    have hb:(x.1==(i:Int))=decide (i=x.1.toNat):=by
      rw [Bool.eq_iff_iff];simp;omega
    simp only [hb,decide_eq_true_eq]
    have e1:t*(x.2+addG (fun _=>true) l)=x.2*t+t*addG (fun _=>true) l:=by rw [Int.mul_add,Int.mul_comm t x.2]
    have e2:∀ a:Int,t*(x.2+a)=x.2*t+t*a:=fun a=>by rw [Int.mul_add,Int.mul_comm t x.2]
    by_cases c1:i=v <;> by_cases c2:i=x.1.toNat <;> simp only [c1,c2,if_true,if_false,e2,Int.zero_add] <;> (try split) <;> (try split) <;> (try simp only [e2,Int.zero_add]) <;> omega
def ind(inn:List Bool)(v:Nat):Int:=if gb inn v then 1 else 0
theorem links_ok{n:Nat}{es:List E3}(h:EOk n es)(v:Nat):∀ x∈yfl es (v:Int),0≤x.1∧x.1<n∧x.1.toNat≠v:=fun x hx=>by
  have h1:=yeR h.range (v:=(v:Int)) (u:=x.1) (m:=x.2) hx
  obtain ⟨y,hy,q1,q2,q3,q4⟩:=(ycx (u:=x.1) (m:=x.2)).1 hx
  omega
theorem addG_true{n:Nat}{es:List E3}(h:EOk n es)(v:Nat):addG (fun _=>true) (yfl es (v:Int))=deg n es v:=by
  have:=yfY h v (fun _=>true)
  unfold ybk at this
  rw [yg2] at this
  rw [this]
  exact ya0 fun u _=>by simp
theorem gi_fireD{n:Nat}{es:List E3}(h:EOk n es)(inn:List Bool)(t:Int)(d:List Int)(hd:d.length=n):∀ k,k≤n→∀ i,i<n →
    gi (yfE es inn t d k) i=gi d i-t*(if i<k then ind inn i*deg n es i else 0)+t*sm k (fun j=>ind inn j*W es j i)
  | 0,_,i,_=>by simp [yfE,sm]
  | k+1,hk,i,hi=>by
    have ih:=gi_fireD h inn t d hd k (by omega) i hi
    rw [yfE,sm]
    by_cases hb:gb inn k=true
    · rw [if_pos hb,gi_payAll (n:=n) _ _ (by rw [yd9];exact hd) (by omega) (links_ok h k),ih,addG_true h]
      have hW:addG (fun y=>y==(i:Int)) (yfl es (k:Int))=W es k i:=by unfold W ybk;rw [yg2]
      rw [hW]
      have hind:ind inn k=1:=by simp [ind,hb]
      rw [hind]
      by_cases c1:i=k
      · subst c1
        rw [if_neg (by omega),if_pos rfl,if_pos (by omega),hind]
        simp only [Int.mul_add,Int.one_mul,Int.mul_zero];omega
      · rw [if_neg c1]
        by_cases c2:i<k
        · rw [if_pos c2,if_pos (by omega)];simp only [Int.mul_add,Int.one_mul];omega
        · rw [if_neg c2,if_neg (by omega)];simp only [Int.mul_add,Int.one_mul];omega
    · rw [if_neg hb,ih]
      have hind:ind inn k=0:=by simp [ind,hb]
      rw [hind]
      by_cases c1:i=k
      · subst c1
        rw [if_neg (by omega),if_pos (by omega),hind]
        simp
      · by_cases c2:i<k
        · rw [if_pos c2,if_pos (by omega)];simp
        · rw [if_neg c2,if_neg (by omega)];simp
theorem Lp_ind{n:Nat}{es:List E3}(s:Nat→Int)(v:Nat):Lp n es s v=s v*deg n es v-sm n (fun u=>s u*W es u v):=by
  unfold Lp deg
  rw [←sm_mul,←sm_sub]
  refine ya0 fun u _=>?_
  rw [Int.mul_sub,Int.mul_comm (W es v u) (s v),yhq es v u,Int.mul_comm (W es u v) (s u)]
theorem fire_lp{n:Nat}{es:List E3}(h:EOk n es)(inn:List Bool)(t:Int)(d:List Int)(hd:d.length=n){i:Nat}(hi:i<n):gi (yfE es inn t d n) i=gi d i-t*Lp n es (ind inn) i:=by
  rw [gi_fireD h inn t d hd n (Nat.le_refl _) i hi,if_pos hi,Lp_ind,Int.mul_sub];omega
theorem Lp_add{n:Nat}{es:List E3}(a b:Nat→Int)(v:Nat):Lp n es (fun i=>a i+b i) v=Lp n es a v+Lp n es b v:=by
  unfold Lp
  rw [←yeQ]
  exact ya0 fun u _=>by rw [←Int.mul_add];congr 1;show a v+b v-(a u+b u)=_;omega
theorem Lp_mul{n:Nat}{es:List E3}(c:Int)(a:Nat→Int)(v:Nat):Lp n es (fun i=>c*a i) v=c*Lp n es a v:=by
  unfold Lp
  rw [←sm_mul]
  exact ya0 fun u _=>by rw [←Int.mul_sub,Int.mul_left_comm]
theorem Lp_const{n:Nat}{es:List E3}(c:Int)(v:Nat):Lp n es (fun _=>c) v=0:=by
  unfold Lp
  rw [ya0 (g:=fun _=>0) (fun u _=>by simp),ydG]
theorem Lp_congr{n:Nat}{es:List E3}{a b:Nat→Int}(h:∀ i,i<n→a i=b i){v:Nat}(hv:v<n):Lp n es a v=Lp n es b v:=by
  unfold Lp
  exact ya0 fun u hu=>by rw [h v hv,h u hu]
end Go.Proofs.YtjepipbkiadcpaaGreat

/- The contract of result: the script is laid so that q does not fire; numbers out of range are an error. -/
namespace Go.Proofs.YtjepipbkiadcpaaGreat
open Go Go.RowKit Go.Shelf Go.Proofs.Tryz
set_option maxRecDepth 100000
set_option maxHeartbeats 8000000
structure ResNil(A1:Option Addr)(l1 c1:Nat)(A2:Option Addr)(l2 c2:Nat):Prop where
  a1:A1=none
  l1:l1=0
  c1:c1=0
  a2:A2=none
  l2:l2=0
  c2:c2=0
structure ResOk(gd gs n cd cs:Nat)(d s:List Int)(A1:Option Addr)(l1 c1:Nat)(A2:Option Addr)(l2 c2:Nat)(w':World):Prop where
  a1:A1=some ⟨gd,0,none⟩
  l1:l1=n
  c1:c1=cd
  a2:A2=some ⟨gs,0,none⟩
  l2:l2=n
  c2:c2=cs
  row1:IRow w' gd 3 cd d
  row2:IRow w' gs 3 cs s
end Go.Proofs.YtjepipbkiadcpaaGreat

/- The plain laws behind lending: levels, cuts, bounds. No program in sight. -/
namespace Go.Proofs.YtjepipbkiadcpaaGreat
open Go Go.Proofs.Tryz
theorem fireE_ok{d s:List Int}(hd:∀ j, -2097152≤gi d j∧gi d j≤2097152)(hs:∀ j, -2097152≤gi s j∧gi s j≤2097152)(e:Int):∀ j,fireE d s e j=e
  | 0=>rfl
  | j+1=>by
    rw [fireE,fireE_ok hd hs e j,if_neg]
    rintro ⟨h, -⟩
    have h1:=hd j
    have h2:=hs j
    unfold bigAt at h
    rw [decide_eq_true_eq] at h
    omega
theorem yhu{d:List Int}{n:Nat}(h:d.length=n){i:Nat}(hi:¬i<n):gi d i=0:=gi_ge (by omega)
theorem yip{inn:List Bool}{t:Int}{s:List Int}{n:Nat}(hs:s.length=n){v:Nat}(hv:v<n):gi (yev inn t s n) v=gi s v+t*ind inn v:=by
  rw [fireS_gi inn t s n v (by omega)]
  unfold ind
  by_cases h:gb inn v=true
  · rw [if_pos ⟨hv,h⟩,if_pos h];omega
  · rw [if_neg (fun x=>h x.2),if_neg h];omega
theorem Lp_fireS{n:Nat}{es:List E3}{inn:List Bool}{t:Int}{s:List Int}(hs:s.length=n){v:Nat}(hv:v<n):Lp n es (gi (yev inn t s n)) v=Lp n es (gi s) v+t*Lp n es (ind inn) v:=by
  rw [Lp_congr (b:=fun i=>gi s i+t*ind inn i) (fun i hi=>yip hs hi) hv,Lp_add,Lp_mul]
theorem Lp_ind_in{n:Nat}{es:List E3}{inn:List Bool}{v:Nat}(hb:gb inn v=true):Lp n es (ind inn) v=sm n (fun u=>if gb inn u=true then 0 else W es v u):=by
  unfold Lp
  refine ya0 fun u _=>?_
  have:ind inn v=1:=by simp [ind,hb]
  rw [this]
  unfold ind
  split <;> simp
theorem yg6{n:Nat}{es:List E3}{inn:List Bool}{v:Nat}(hb:¬gb inn v=true):Lp n es (ind inn) v = - sm n (fun u=>if gb inn u=true then W es v u else 0):=by
  have e:∀ (f:Nat→Int), - sm n f=sm n (fun i => - f i):=fun f=>by
    have:=sm_mul (-1) f n
    simp only [Int.neg_mul,Int.one_mul] at this
    exact this.symm
  rw [e]
  unfold Lp
  refine ya0 fun u _=>?_
  have:ind inn v=0:=by simp [ind,hb]
  rw [this]
  unfold ind
  split <;> simp
def FF(n:Nat)(es:List E3)(o:List Int)(k:Int):Int:=sm n (fun v=>if k<gi o v then sm n (fun u=>if gi o u<gi o v then W es v u else 0) else 0)
def CC(n:Nat)(es:List E3)(o:List Int)(k:Int):Int:=sm n (fun v=>if gi o v=k then sm n (fun u=>if gi o u<k then W es v u else 0) else 0)
def tot(n:Nat)(es:List E3):Int:=sm n (fun v=>sm n (fun u=>W es v u))
theorem FF_step(n:Nat)(es:List E3)(o:List Int)(k:Int):FF n es o k=FF n es o (k+1)+CC n es o (k+1):=by
  unfold FF CC
  rw [←yeQ]
  refine ya0 fun v _=>?_
  by_cases h:gi o v=k+1
  · rw [if_pos (by omega),if_neg (by omega),if_pos h,h];omega
  · by_cases h2:k<gi o v
    · rw [if_pos h2,if_pos (by omega),if_neg h];omega
    · rw [if_neg h2,if_neg (by omega),if_neg h];omega
section
variable {n : Nat} {es : List E3} (hE : EOk n es)
include hE
theorem CC_nonneg(o:List Int)(k:Int):0≤CC n es o k:=yb8 fun v _=>by
  split
  · exact yb8 fun u _=>by have:=yc2 hE v u;split <;> omega
  · omega
theorem FF_nonneg(o:List Int)(k:Int):0≤FF n es o k:=yb8 fun v _=>by
  split
  · exact yb8 fun u _=>by have:=yc2 hE v u;split <;> omega
  · omega
theorem FF_half(o:List Int)(k:Int):2*FF n es o k≤tot n es:=by
  have h1:FF n es o k≤sm n (fun v=>sm n (fun u=>if gi o u<gi o v then W es v u else 0)):=yhc fun v _=>by
    split
    · exact Int.le_refl _
    · exact yb8 fun u _=>by have:=yc2 hE v u;split <;> omega
  have h2:sm n (fun v=>sm n (fun u=>if gi o u<gi o v then W es v u else 0))=sm n (fun v=>sm n (fun u=>if gi o v<gi o u then W es v u else 0)):=by
    rw [sm_swap]
    exact ya0 fun v _=>ya0 fun u _=>by rw [yhq es u v]
  have h3:sm n (fun v=>sm n (fun u=>if gi o u<gi o v then W es v u else 0))+sm n (fun v=>sm n (fun u=>if gi o v<gi o u then W es v u else 0))≤tot n es:=by
    unfold tot
    rw [←yeQ]
    refine yhc fun v _=>?_
    rw [←yeQ]
    refine yhc fun u _=>?_
    have:=yc2 hE v u
    split <;> split <;> omega
  omega
variable {q : Nat} {o : List Int} (hD : Dist n es q o) (hc : ∀ v, v < n → 0 ≤ gi o v)
include hD hc
theorem Dist.lip{v u:Nat}(hv:v<n)(hu:u<n)(h:W es v u≠0):gi o u≤gi o v+1:=by
  have h1:0<W es v u:=by have:=yc2 hE v u;omega
  exact (hD.step v hv (hc v hv) u ((W_adj hE).1 h1)).2
theorem near_in{k:Int}{v:Nat}(hv:v<n)(hk:gi o v<k):0≤Lp n es (ind (ybs o k)) v∧Lp n es (ind (ybs o k)) v≤CC n es o k:=by
  have hol:=hD.len
  rw [Lp_ind_in (by rw [yfR (by omega)];simpa using hk)]
  constructor
  · exact yb8 fun u _=>by have:=yc2 hE v u;split <;> omega
  · refine yhc fun u hu=>?_
    rw [yfR (by omega)]
    by_cases h:gi o u=k
    · rw [if_neg (by simp;omega),if_pos h]
      have h2:=sm_ge (f:=fun i=>if gi o i<k then W es u i else 0) (n:=n) (fun i _=>by have:=yc2 hE u i;show 0≤ite _ _ _;split <;> omega) v hv
      simp only [if_pos hk] at h2
      rw [yhq es v u];exact h2
    · rw [if_neg h]
      split
      · omega
      · rename_i h2
        simp only [decide_eq_true_eq] at h2
        by_cases h3:W es v u=0
        · omega
        · have:=hD.lip hE hc hv hu h3;omega
theorem near_at{k:Int}{v:Nat}(hv:v<n)(hk:gi o v=k):Lp n es (ind (ybs o k)) v = - ybk es (v:Int) (fun u=>gb (ybs o k) u.toNat) ∧ - CC n es o k≤Lp n es (ind (ybs o k)) v:=by
  have hol:=hD.len
  have h1:=yg6 (n:=n) (es:=es) (inn:=ybs o k) (v:=v) (by rw [yfR (by omega)];simp;omega)
  rw [yfY hE,h1]
  simp only [Int.toNat_natCast]
  refine ⟨trivial,?_⟩
  have h2:=sm_ge (f:=fun v=>if gi o v=k then sm n (fun u=>if gi o u<k then W es v u else 0) else 0) (n:=n) (fun i _=>by
    show 0≤ite _ _ _
    split
    · exact yb8 fun u _=>by have:=yc2 hE i u;split <;> omega
    · omega) v hv
  simp only [if_pos hk] at h2
  have h3:sm n (fun u=>if gb (ybs o k) u=true then W es v u else 0)=sm n (fun u=>if gi o u<k then W es v u else 0):=ya0 fun u hu=>by
    rw [yfR (by omega)]
    simp only [decide_eq_true_eq]
  rw [h3]
  unfold CC
  omega
theorem near_out{k:Int}{v:Nat}(hv:v<n)(hk:k<gi o v):Lp n es (ind (ybs o k)) v=0:=by
  have hol:=hD.len
  rw [yg6 (by rw [yfR (by omega)];simp;omega)]
  have:sm n (fun u=>if gb (ybs o k) u=true then W es v u else 0)=sm n (fun _=>0):=ya0 fun u hu=>by
    rw [yfR (by omega)]
    by_cases h:gi o u<k
    · rw [if_pos (by simpa using h)]
      by_cases h3:W es v u=0
      · exact h3
      · have:=hD.lip hE hc hu hv (by rw [yhq];exact h3);omega
    · rw [if_neg (by simpa using h)]
  rw [this,ydG];rfl
end
section
variable {es : List E3} {o : List Int} {k : Int} {d : List Int}
theorem ceil_ge{a b:Int}(hb:1≤b):a≤(a+b-1).tdiv b*b∨a+b-1<0:=by
  by_cases h:a+b-1<0
  · exact .inr h
  · left
    rw [Int.tdiv_eq_ediv_of_nonneg (by omega)]
    have h1:=Int.emod_add_mul_ediv (a+b-1) b
    have h2:=Int.emod_lt_of_pos (a+b-1) (show 0<b by omega)
    rw [Int.mul_comm b] at h1
    omega
theorem ceil_le{a b M:Int}(hb:1≤b)(ha:1≤a)(hM:a≤M):(a+b-1).tdiv b≤M∧1≤(a+b-1).tdiv b:=by
  rw [Int.tdiv_eq_ediv_of_nonneg (by omega)]
  constructor
  · apply Int.le_of_lt_add_one
    apply Int.ediv_lt_of_lt_mul (by omega)
    have:a≤M*b:=by
      have:=Int.mul_le_mul_of_nonneg_left hb (show 0≤M by omega)
      omega
    rw [Int.add_mul];omega
  · apply Int.le_ediv_of_mul_le (by omega);omega
theorem timesL_le{M:Int}(h0:0≤M):∀ n,(∀ v,v<n → -gi d v≤M)→(∀ v,v<n→gi o v=k→1≤ybk es (v:Int) (fun u=>gb (ybs o k) u.toNat))→0≤yde es o k d n∧yde es o k d n≤M
  | 0,_,_=>by simp [yde];exact h0
  | n+1,hd,hj=>by
    have ih:=timesL_le h0 n (fun v hv=>hd v (by omega)) (fun v hv=>hj v (by omega))
    rw [yde]
    split
    · rename_i h
      have:=ceil_le (hj n (by omega) h.1) (show 1 ≤ -gi d n by omega) (hd n (by omega))
      unfold mxF
      split <;> omega
    · exact ih
theorem timesL_ge:∀ n,(∀ v,v<n→gi o v=k→1≤ybk es (v:Int) (fun u=>gb (ybs o k) u.toNat))→∀ v,v<n→gi o v=k→gi d v<0 →
    1≤yde es o k d n ∧ -gi d v≤yde es o k d n*ybk es (v:Int) (fun u=>gb (ybs o k) u.toNat)
  | n+1,hj,v,hv,hk,hd=>by
    rw [yde]
    have mx:∀ a b:Int,a≤mxF a b∧b≤mxF a b:=fun a b=>by unfold mxF;split <;> omega
    have hjv:=hj v hv hk
    have up:∀ {a b:Int},a≤b → -gi d v≤a*ybk es (v:Int) (fun u=>gb (ybs o k) u.toNat) → -gi d v≤b*ybk es (v:Int) (fun u=>gb (ybs o k) u.toNat):=fun {a b} h h2 =>
      Int.le_trans h2 (Int.mul_le_mul_of_nonneg_right h (by omega))
    by_cases e:v=n
    · subst e
      rw [if_pos ⟨hk,hd⟩]
      have h1:=ceil_le (M := -gi d v) hjv (show 1 ≤ -gi d v by omega) (Int.le_refl _)
      have h2:=mx (yde es o k d v) ((-gi d v+ybk es (v:Int) (fun u=>gb (ybs o k) u.toNat)-1).tdiv (ybk es (v:Int) (fun u=>gb (ybs o k) u.toNat)))
      refine ⟨by omega,up h2.2 ?_⟩
      rcases ceil_ge (a := -gi d v) hjv with h | h
      · exact h
      · omega
    · have ih:=timesL_ge n (fun v hv=>hj v (by omega)) v (by omega) hk hd
      split
      · have h2:=mx (yde es o k d n) ((-gi d n+ybk es (n:Int) (fun u=>gb (ybs o k) u.toNat)-1).tdiv (ybk es (n:Int) (fun u=>gb (ybs o k) u.toNat)))
        exact ⟨by omega,up h2.1 ih.2⟩
      · exact ih
theorem yid:∀ n,(∀ v,v<n→gi o v=k→0≤gi d v)→yde es o k d n=0
  | 0,_=>rfl
  | n+1,h=>by
    rw [yde,if_neg (fun x=>by have:=h n (by omega) x.1;omega)]
    exact yid n fun v hv=>h v (by omega)
end
end Go.Proofs.YtjepipbkiadcpaaGreat

/- Lending: what holds before and behind each level. No program in sight. -/
namespace Go.Proofs.YtjepipbkiadcpaaGreat
open Go Go.Proofs.Tryz
structure GL(n:Nat)(es:List E3)(q:Nat)(D:Int)(d0:List Int)(o:List Int)(k:Nat)(d s:List Int)(e:Int):Prop where
  e0:e=0
  dl:d.length=n
  sl:s.length=n
  kn:k+1≤n
  lp:∀ v,v<n→gi d v=gi d0 v-Lp n es (gi s) v
  bd:∀ v,v<n → - (D*2^(FF n es o k).toNat)≤gi d v∧gi d v≤D*2^(FF n es o k).toNat
  pos:∀ v,v<n→(k:Int)<gi o v→0≤gi d v
  s0:∀ v,v<n→0≤gi s v∧gi s v≤((n:Int)-1-k)*(D*512)
  sq:∀ v,v<n→gi s v≤gi s q
  same:(∀ v,v<n→v≠q→0≤gi d0 v)→d=d0∧∀ v,v<n→gi s v=0
theorem pow_bnd{D x:Int}(hD:0≤D)(hx:x≤9):D*2^x.toNat≤D*512:=by
  refine Int.mul_le_mul_of_nonneg_left ?_ hD
  have:(2:Nat)^x.toNat≤2^9:=Nat.pow_le_pow_right (by omega) (by omega)
  have h2:((2^x.toNat:Nat):Int)≤((2^9:Nat):Int):=by exact_mod_cast this
  have h3:((2^x.toNat:Nat):Int)=(2:Int)^x.toNat:=by push_cast;rfl
  rw [←h3];exact h2
theorem pow_step{D x c T:Int}(hD:0≤D)(hx:0≤x)(hc:0≤c)(h0:0≤T)(hT:T≤D*2^x.toNat):D*2^x.toNat+T*c≤D*2^(x+c).toNat:=by
  have e:(x+c).toNat=x.toNat+c.toNat:=by omega
  rw [e,Int.pow_add,←Int.mul_assoc]
  generalize hB:D*2^x.toNat=B at *
  have h1:T*c≤B*c:=Int.mul_le_mul_of_nonneg_right hT hc
  have h2:(c:Int)+1≤2^c.toNat:=by
    have:c.toNat<2^c.toNat:=Nat.lt_two_pow_self
    have h3:((c.toNat:Nat):Int)<((2^c.toNat:Nat):Int):=by exact_mod_cast this
    have h4:((2^c.toNat:Nat):Int)=(2:Int)^c.toNat:=by push_cast;rfl
    rw [h4] at h3;omega
  have h5:B*(c+1)≤B*2^c.toNat:=Int.mul_le_mul_of_nonneg_left h2 (by omega)
  rw [Int.mul_add] at h5
  omega
theorem mul_bnd{n k:Nat}{D:Int}(hD:0≤D)(hn:n≤6):((n:Int)-1-k)*(D*512)≤D*2560:=by
  have:((n:Int)-1-k)*(D*512)≤5*(D*512):=Int.mul_le_mul_of_nonneg_right (by omega) (by omega)
  omega
section
variable {n : Nat} {es : List E3} {q : Nat} {D : Int} {d0 : List Int} (hE : EOk n es) (hn : n ≤ 6) (hq : q < n) (ht : tot n es ≤ 18) (hD0 : 0 ≤ D) (hD1 : D ≤ 200) (hc : ∀ o, Dist n es q o → ∀ v, v < n → 0 ≤ gi o v)
  (hd0:∀ v,v<n → -D≤gi d0 v∧gi d0 v≤D) (hdl:d0.length=n)
include hE hn hq ht hD0 hD1 hc hd0 hdl
theorem GL.start(o:List Int)(hD:Dist n es q o):GL n es q D d0 o (yhE o n).toNat d0 (List.replicate n 0) 0:=by
  have hm:∃ j,j<o.length∧yhE o n=gi o j:=maxTo_mem o n (by rw [hD.len];omega) (by rw [hD.len];omega)
  obtain ⟨j,hj,hmj⟩:=hm
  have hhi:=hD.high j
  have h0:0≤yhE o n:=by
    have:=maxTo_ge o n q hq
    rw [hD.q0] at this;omega
  have hs:∀ v,gi (List.replicate n 0) v=0:=fun v=>by
    rcases Nat.lt_or_ge v n with h | h
    · rw [yba (by simpa using h)];simp
    · exact gi_ge (by simpa using h)
  have hF:0≤FF n es o (yhE o n).toNat:=FF_nonneg hE o _
  have h1:D*1≤D*2^(FF n es o (yhE o n).toNat).toNat:=Int.mul_le_mul_of_nonneg_left (by
    have:(0:Int)<2^(FF n es o (yhE o n).toNat).toNat:=Int.pow_pos (by omega)
    omega) hD0
  refine ⟨rfl,hdl,by simp,by omega,fun v hv=>?_,fun v hv=>?_,fun v hv h=>?_,fun v hv=>?_,fun v hv=>?_,fun _=>⟨rfl,fun v hv=>hs v⟩⟩
  · rw [Lp_congr (b:=fun _=>0) (fun i _=>hs i) hv,Lp_const];omega
  · have:=hd0 v hv;omega
  · have:=maxTo_ge o n v hv;omega
  · rw [hs]
    have:0≤((n:Int)-1-(yhE o n).toNat)*(D*512):=Int.mul_nonneg (by omega) (by omega)
    omega
  · rw [hs,hs];exact Int.le_refl _
theorem GL.bnd{o:List Int}{k:Nat}{d s:List Int}{e:Int}(h:GL n es q D d0 o k d s e):Bnd 102400 d∧Bnd 512000 s:=by
  constructor
  · intro i
    by_cases hi:i<n
    · have h1:=h.bd i hi
      have h2:=FF_half hE o k
      have h3:=pow_bnd hD0 (show FF n es o k≤9 by omega)
      omega
    · rw [yhu h.dl hi];omega
  · intro i
    by_cases hi:i<n
    · have h1:=h.s0 i hi
      have h2:=mul_bnd (k:=k) hD0 hn
      omega
    · rw [yhu h.sl hi];omega
theorem GL.step{o:List Int}{k:Nat}{d s:List Int}(hD:Dist n es q o)(h:GL n es q D d0 o (k+1) d s 0) :
    yde es o ((k:Int)+1) d n≤2147483648 ∧
      (0<yde es o ((k:Int)+1) d n→GL n es q D d0 o k (yfE es (ybs o ((k:Int)+1)) (yde es o ((k:Int)+1) d n) d n) (yev (ybs o ((k:Int)+1)) (yde es o ((k:Int)+1) d n) s n)
        (fireE (yfE es (ybs o ((k:Int)+1)) (yde es o ((k:Int)+1) d n) d n) (yev (ybs o ((k:Int)+1)) (yde es o ((k:Int)+1) d n) s n) 0 n)) ∧
      (¬0<yde es o ((k:Int)+1) d n→GL n es q D d0 o k d s 0):=by
  have hb:=h.bnd hE hn hq ht hD0 hD1 hc hd0 hdl
  obtain ⟨-,dl,sl,kn,lp,bd,pos,s0,sq,same⟩:=h
  have hcast:((k+1:Nat):Int)=(k:Int)+1:=by omega
  rw [hcast] at bd pos s0
  have hF0:=FF_nonneg hE o ((k:Int)+1)
  have hF1:=FF_half hE o ((k:Int)+1)
  have hFk1:=FF_half hE o (k:Int)
  have hCC:=CC_nonneg hE o ((k:Int)+1)
  have hFk:FF n es o k=FF n es o ((k:Int)+1)+CC n es o ((k:Int)+1):=FF_step n es o k
  have hj:∀ v,v<n→gi o v=(k:Int)+1→1≤ybk es (v:Int) (fun u=>gb (ybs o ((k:Int)+1)) u.toNat):=fun v hv hk=>near_pos hD (fun x hx=>(hE x hx).2.2.2.2.1) hv hk
  have hcc:=hc o hD
  have hol:=hD.len
  have hB0:0≤D*2^(FF n es o ((k:Int)+1)).toNat:=Int.mul_nonneg hD0 (Int.le_of_lt (Int.pow_pos (by omega)))
  have hT:=timesL_le (es:=es) (o:=o) (k:=(k:Int)+1) (d:=d) hB0 n (fun v hv=>by have:=bd v hv;omega) hj
  have hBk:=pow_bnd hD0 (show FF n es o ((k:Int)+1)≤9 by omega)
  have hTg:=timesL_ge (es:=es) (o:=o) (k:=(k:Int)+1) (d:=d) n hj
  have hTz:=yid (es:=es) (o:=o) (k:=(k:Int)+1) (d:=d) n
  have hst:=pow_step hD0 hF0 hCC hT.1 hT.2
  rw [←hFk] at hst
  generalize yde es o ((k:Int)+1) d n=T at *
  generalize hC:CC n es o ((k:Int)+1)=C at *
  generalize D*2^(FF n es o ((k:Int)+1)).toNat=B at *
  have hBk':D*2^(FF n es o (k:Int)).toNat≤D*512:=pow_bnd hD0 (by omega)
  generalize hBB:D*2^(FF n es o (k:Int)).toNat=B' at *
  have hTC:0≤T*C:=Int.mul_nonneg hT.1 hCC
  have hsm:((n:Int)-1-((k:Int)+1))*(D*512)+D*512=((n:Int)-1-k)*(D*512):=by
    have:(n:Int)-1-k=((n:Int)-1-((k:Int)+1))+1:=by omega
    rw [this,Int.add_mul,Int.one_mul]
  refine ⟨by omega,fun hpos=>?_,fun hz=>?_⟩
  · have hfd:∀ v,v<n→gi (yfE es (ybs o ((k:Int)+1)) T d n) v=gi d v-T*Lp n es (ind (ybs o ((k:Int)+1))) v:=fun v hv=>fire_lp hE _ T d dl hv
    have hfs:∀ v,v<n→gi (yev (ybs o ((k:Int)+1)) T s n) v=gi s v+T*ind (ybs o ((k:Int)+1)) v:=fun v hv=>yip sl hv
    have hdl':(yfE es (ybs o ((k:Int)+1)) T d n).length=n:=by rw [yd9,dl]
    have hsl':(yev (ybs o ((k:Int)+1)) T s n).length=n:=by rw [yea,sl]
    have hind:∀ v,0≤T*ind (ybs o ((k:Int)+1)) v∧T*ind (ybs o ((k:Int)+1)) v≤T:=fun v=>by unfold ind;split <;> omega
    have hbd:∀ v,v<n → -B'≤gi d v-T*Lp n es (ind (ybs o ((k:Int)+1))) v∧gi d v-T*Lp n es (ind (ybs o ((k:Int)+1))) v≤B':=fun v hv=>by
      have b:=bd v hv
      have mulb:∀ x:Int,x≤C→T*x≤T*C:=fun x hx=>Int.mul_le_mul_of_nonneg_left hx hT.1
      rcases Int.lt_trichotomy (gi o v) ((k:Int)+1) with h | h | h
      · have h1:=near_in hE hD hcc hv h
        rw [hC] at h1
        have h2:=mulb _ h1.2
        have h3:=Int.mul_nonneg hT.1 h1.1
        omega
      · have h1:=near_at hE hD hcc hv h
        have h4:=yfY hE v (fun u=>gb (ybs o ((k:Int)+1)) u.toNat)
        have h5:1≤ybk es (v:Int) (fun u=>gb (ybs o ((k:Int)+1)) u.toNat):=hj v hv h
        rw [hC] at h1
        have h2:=mulb (- Lp n es (ind (ybs o ((k:Int)+1))) v) (by omega)
        have h3:=Int.mul_nonneg hT.1 (show 0 ≤ - Lp n es (ind (ybs o ((k:Int)+1))) v by omega)
        rw [Int.mul_neg] at h2 h3
        omega
      · have h1:=near_out hE hD hcc hv h
        rw [h1];omega
    have hsb:∀ v,v<n→0≤gi s v+T*ind (ybs o ((k:Int)+1)) v∧gi s v+T*ind (ybs o ((k:Int)+1)) v≤((n:Int)-1-k)*(D*512):=fun v hv=>by
      have h1:=s0 v hv
      have h2:=hind v
      omega
    have hbig:((n:Int)-1-k)*(D*512)≤D*2560:=mul_bnd hD0 hn
    refine ⟨fireE_ok (fun j=>?_) (fun j=>?_) 0 n,hdl',hsl',by omega,fun v hv=>?_,fun v hv=>?_,fun v hv hk=>?_,fun v hv=>?_,fun v hv=>?_,fun hs=>?_⟩
    · by_cases hjn:j<n
      · rw [hfd j hjn]
        have h1:=bd j hjn
        have h2 : -1*(T*C)≤0:=by omega
        have h3:T*C≤B':=by omega
        have h4:=hbd j hjn
        omega
      · rw [yhu hdl' hjn];omega
    · by_cases hjn:j<n
      · rw [hfs j hjn]
        have:=hsb j hjn
        omega
      · rw [yhu hsl' hjn];omega
    · rw [hfd v hv,Lp_fireS sl hv,lp v hv];omega
    · rw [hfd v hv,hBB]
      exact hbd v hv
    · rw [hfd v hv]
      by_cases h:gi o v=(k:Int)+1
      · have h1:=near_at hE hD hcc hv h
        rw [h1.1,Int.mul_neg]
        have h2:=hj v hv h
        by_cases hneg:gi d v<0
        · have:=(hTg v hv h hneg).2;omega
        · have:=Int.mul_nonneg hT.1 (show 0≤ybk es (v:Int) (fun u=>gb (ybs o ((k:Int)+1)) u.toNat) by omega)
          omega
      · rw [near_out hE hD hcc hv (by omega)]
        have:=pos v hv (by omega)
        omega
    · rw [hfs v hv];exact hsb v hv
    · rw [hfs v hv,hfs q hq]
      have h1:ind (ybs o ((k:Int)+1)) q=1:=by
        unfold ind
        rw [if_pos]
        rw [yfR (by omega),hD.q0];simp <;> omega
      have h2:=hind v
      have h3:=sq v hv
      rw [h1];omega
    · exfalso
      obtain ⟨rfl,hs2⟩:=same hs
      have:=hTz (fun v hv hk=>hs v hv (fun e=>by subst e;rw [hD.q0] at hk;omega))
      omega
  · have hT0:T=0:=by omega
    subst hT0
    refine ⟨rfl,dl,sl,by omega,lp,fun v hv=>by have:=bd v hv;rw [hBB];omega,fun v hv hk=>?_,fun v hv=>?_,sq,same⟩
    · by_cases h:gi o v=(k:Int)+1
      · apply Int.not_lt.1
        intro hneg
        have:=(hTg v hv h hneg).1
        omega
      · exact pos v hv (by omega)
    · have:=s0 v hv;omega
end
end Go.Proofs.YtjepipbkiadcpaaGreat

/- Settling: what holds before and behind each firing; reduced divisors and that they are alone. No program in sight. -/
namespace Go.Proofs.YtjepipbkiadcpaaGreat
open Go Go.Proofs.Tryz
def Conn(n:Nat)(es:List E3)(q:Nat):Prop:=∀ S:Nat→Bool,S q=false→(∃ v,v<n∧S v=true)→∃ v u,v<n∧u<n∧S v=true∧S u=false∧0<W es v u
structure Red(n:Nat)(es:List E3)(q:Nat)(d:List Int):Prop where
  pos:∀ v,v<n→v≠q→0≤gi d v
  no:∀ S:Nat→Bool,S q=false→(∃ v,v<n∧S v=true)→∃ v,v<n∧S v=true∧gi d v<sm n (fun u=>if S u then 0 else W es v u)
end Go.Proofs.YtjepipbkiadcpaaGreat

/- Settling: each firing keeps the bounds and comes nearer to the end. No program in sight. -/
namespace Go.Proofs.YtjepipbkiadcpaaGreat
open Go Go.Proofs.Tryz
structure GS0(n:Nat)(es:List E3)(q:Nat)(D:Int)(d0 d s:List Int):Prop where
  dl:d.length=n
  sl:s.length=n
  lp:∀ v,v<n→gi d v=gi d0 v-Lp n es (gi s) v
  pos:∀ v,v<n→v≠q→0≤gi d v
  off:sm n (fun v=>if v=q then 0 else gi d v)≤D*2560
  s0:∀ v,v<n→0≤gi s v
  sq:gi s q≤D*2560
section
variable {n : Nat} {es : List E3} {q : Nat} {D : Int} {d0 : List Int} (hE : EOk n es) (hn : n ≤ 6) (hq : q < n) (hD0 : 0 ≤ D) (hD1 : D ≤ 200) (hC : Conn n es q)
  (hd0:∀ v,v<n → -D≤gi d0 v∧gi d0 v≤D)
include hE hn hq hD0 hD1 hC hd0
end
end Go.Proofs.YtjepipbkiadcpaaGreat

/- The walk of graph.Check. -/
namespace Go.Proofs.YtjepipbkiadcpaaGreat
open Go.RowKit Go.Proofs.Tryz
set_option maxRecDepth 100000
set_option maxHeartbeats 400000
def ygg(a b c d:Int):Int:=orF (cmpF a c) (cmpF b d)
theorem pcompare_any(a b c d:Int)(w:World):Calls Tryz.prog 145 #[.agg #[.int .i64 a, .int .i64 b], .agg #[.int .i64 c, .int .i64 d]] w fun e w' =>
    e = .returned (.int .i64 (ygg a b c d))∧Pure w w':=by
  go_enter func145,ntmps145
  go_wp2
  go_region_held3 (fun w'=>w'.cell? ⟨w.heap.size,0,none⟩=some (.int .i64 a)∧w'.cell? ⟨w.heap.size,1,none⟩=some (.int .i64 b)∧w'.cell? ⟨w.heap.size+1,0,none⟩=some (.int .i64 c)∧w'.cell? ⟨w.heap.size+1,1,none⟩=some (.int .i64 d)) (simp [go_sem,World.cell?_alloc_past])
    (first
      | (go_at_call 80;refine (compare_any _ _ _).mono ?_;rintro e w' ⟨rfl,rfl⟩)
      | (go_at_call 195;refine (or_two _ _ (cmpF a c) (cmpF b d) _ (by simp [go_sem]) (by simp [go_sem])).mono ?_;rintro e w' ⟨rfl,rfl⟩))
  go_wp2
  go_ret
  exact ⟨rfl,(by repeat (first | exact Keeps.refl _ _ | assumption | refine Keeps.drew ?_ | refine Keeps.drewN ?_ _ | refine Keeps.alloc ?_ _ | refine Keeps.setRow ?_ (by simp) _ | refine Keeps.setRow ?_ (by simp;omega) _ | refine Keeps.setCell ?_ (by simp) _ | refine Keeps.setCell ?_ (by simp;omega) _))⟩
def gchk(n:Int):Int→Int→List E3→Int
  | _,_,[]=>0
  | a,b,x::t =>
    if (0≤x.1∧x.1<n)∧(0≤x.2.1∧x.2.1<n)∧1≤x.2.2∧x.2.2≤50 then
      (if x.1≤x.2.1∧ygg a b x.1 x.2.1<0 then gchk n x.1 x.2.1 t else 9)
    else 2
def yaZ(n:Int)(es:List E3):Int:=if 1≤n∧n≤12 then gchk n (-1) (-1) es else 2
theorem gcheck_any(A:Option Addr)(es:List E3)(cap:Nat)(n:Int)(w:World)(hd:yhx w A es)(hlen:es.length≤1000000000) :
    Calls Tryz.prog 93 #[.agg #[.int .i64 n, .slice A es.length cap]] w fun e w'=>e = .returned (.int .i64 (yaZ n es))∧Pure w w':=by
  have HD:=Lib.hid hd
  clear hd
  by_cases h1:1≤n∧n≤12
  case neg =>
    go_enter func93,ntmps93
    go_wp2
    all_goals try (exfalso;omega)
    all_goals go_ret
    all_goals exact ⟨yh0 (by rw [yaZ,if_neg h1];rfl),(by repeat (first | exact Keeps.refl _ _ | assumption | refine Keeps.drew ?_ | refine Keeps.drewN ?_ _ | refine Keeps.alloc ?_ _ | refine Keeps.setRow ?_ (by simp) _ | refine Keeps.setRow ?_ (by simp;omega) _ | refine Keeps.setCell ?_ (by simp) _ | refine Keeps.setCell ?_ (by simp;omega) _))⟩
  obtain ⟨h1,h2⟩:=h1
  have hb1:decide (n<1)=false:=by simp;omega
  have hb2:decide (12<n)=false:=by simp;omega
  have hg:Hid (yaZ n es=gchk n (-1) (-1) (es.drop 0)):=by rw [yaZ,if_pos ⟨h1,h2⟩];rfl
  go_enter func93,ntmps93
  go_wp2
  have hr1:=Row.alloc (Row.new w #[.int .i64 n, .slice A es.length cap] 24) (.cells #[.int .i64 (-1), .int .i64 (-1)] 148)
  have hr2:=Row.new (w.alloc (.cells #[.int .i64 n, .slice A es.length cap] 24)) #[.int .i64 (-1), .int .i64 (-1)] 148
  have hk0:Pure w ((w.alloc (.cells #[.int .i64 n, .slice A es.length cap] 24)).alloc (.cells #[.int .i64 (-1), .int .i64 (-1)] 148)):=(by repeat (first | exact Keeps.refl _ _ | assumption | refine Keeps.drew ?_ | refine Keeps.drewN ?_ _ | refine Keeps.alloc ?_ _ | refine Keeps.setRow ?_ (by simp) _ | refine Keeps.setRow ?_ (by simp;omega) _ | refine Keeps.setCell ?_ (by simp) _ | refine Keeps.setCell ?_ (by simp;omega) _))
  simp only [World.size_alloc] at hr1 hr2
  go_loopw [19] (fun i wr=>∃ (k:Nat) (la lb:Int),k≤es.length∧i = .int .i64 k∧Row wr w.heap.size 24 2 [.int .i64 n, .slice A es.length cap]∧Row wr (w.heap.size+1) 148 2 [.int .i64 la, .int .i64 lb]∧Pure w wr∧Hid (yaZ n es=gchk n la lb (es.drop k))) (fun i _=>es.length-(intOf i).toNat)
  case atStart=>exact ⟨0, -1, -1,Nat.zero_le _,rfl,hr1,hr2,hk0,hg⟩
  case round =>
    clear hg hr1 hr2 hk0
    obtain ⟨k,la,lb,hk,rfl,hr1,hr2,hp,hg⟩:=hrel
    by_cases hlt:k<es.length
    · obtain ⟨b,off,rfl,hb,hc⟩:=HD.out (by omega)
      obtain ⟨c0,c1,c2⟩:=hc k hlt
      clear hc
      replace c0:=hp.cell id c0
      replace c1:=hp.cell id c1
      replace c2:=hp.cell id c2
      have r10:=Row.cell hr1 (i:=0) rfl
      have r20:=Row.cell hr2 (i:=0) rfl
      have r21:=Row.cell hr2 (i:=1) rfl
      have f20:=Row.frozen hr2 0
      have f21:=Row.frozen hr2 1
      have hsz:=hr2.lt
      have hsz0:=hr1.lt
      have hbw:b<wr.heap.size:=Nat.lt_of_lt_of_le hb hp.size
      have e1:Row ((wr.alloc (.cells #[.int .i64 (ge es k).1, .int .i64 (ge es k).2.1, .int .i64 (ge es k).2.2] 67)).alloc (.cells #[.int .i64 (ge es k).1, .int .i64 (ge es k).2.1] 148)) (wr.heap.size+1) 148 2 [.int .i64 (ge es k).1, .int .i64 (ge es k).2.1]:=by
        have:=Row.new (wr.alloc (.cells #[.int .i64 (ge es k).1, .int .i64 (ge es k).2.1, .int .i64 (ge es k).2.2] 67)) #[.int .i64 (ge es k).1, .int .i64 (ge es k).2.1] 148
        rw [World.size_alloc] at this;exact this
      have e2:=Row.alloc (Row.alloc hr1 (.cells #[.int .i64 (ge es k).1, .int .i64 (ge es k).2.1, .int .i64 (ge es k).2.2] 67)) (.cells #[.int .i64 (ge es k).1, .int .i64 (ge es k).2.1] 148)
      have e3:=Row.alloc (Row.alloc hr2 (.cells #[.int .i64 (ge es k).1, .int .i64 (ge es k).2.1, .int .i64 (ge es k).2.2] 67)) (.cells #[.int .i64 (ge es k).1, .int .i64 (ge es k).2.1] 148)
      have e4:Pure w ((wr.alloc (.cells #[.int .i64 (ge es k).1, .int .i64 (ge es k).2.1, .int .i64 (ge es k).2.2] 67)).alloc (.cells #[.int .i64 (ge es k).1, .int .i64 (ge es k).2.1] 148)):=(by repeat (first | exact Keeps.refl _ _ | assumption | refine Keeps.drew ?_ | refine Keeps.drewN ?_ _ | refine Keeps.alloc ?_ _ | refine Keeps.setRow ?_ (by simp) _ | refine Keeps.setRow ?_ (by simp;omega) _ | refine Keeps.setCell ?_ (by simp) _ | refine Keeps.setCell ?_ (by simp;omega) _))
      have hne:¬w.heap.size+1<w.heap.size:=by omega
      go_wp2_with (first | (go_at_call 144;refine (vertex_any _ _ _).mono ?_;rintro e w' ⟨rfl,rfl⟩) | (go_at_call 145;refine (pcompare_any _ _ _ _ _).mono ?_;rintro e w1 ⟨rfl,hp1⟩;have k1:=hp1.row e1 id;have k2:=hp1.row e2 id;have k3:=hp1.row e3 id;have k4:=Pure.after e4 hp1;clear e1 e2 e3 e4 hp1;have q0:=Row.cell k1 (i:=0) rfl;have q1:=Row.cell k1 (i:=1) rfl;have q2:=Row.frozen k3 0;have q3:=Row.frozen k3 1;have q4:=Row.cell k3 (i:=0) rfl;have q5:=Row.cell k3 (i:=1) rfl))
      all_goals (first
        | (go_ret
           refine ⟨yh0 (int_eq ?_),(by repeat (first | exact Keeps.refl _ _ | assumption | refine Keeps.drew ?_ | refine Keeps.drewN ?_ _ | refine Keeps.alloc ?_ _ | refine Keeps.setRow ?_ (by simp) _ | refine Keeps.setRow ?_ (by simp;omega) _ | refine Keeps.setCell ?_ (by simp) _ | refine Keeps.setCell ?_ (by simp;omega) _))⟩
           rw [hg.out,yg1 hlt,gchk]
           first
             | rw [if_neg (by omega)]
             | rw [if_pos (by omega),if_neg (by omega)])
        | (refine ⟨⟨k+1,(ge es k).1,(ge es k).2.1,by omega,by go_num,(k2.far (by simp) _).far (by simp) _,(k3.set_ 0 _).set_ 1 _,(k4.setCell (fun h=>absurd h (by simp)) _).setCell (fun h=>absurd h (by simp)) _,?_⟩,by simp [intOf];omega⟩
           show yaZ n es=_
           rw [hg.out,yg1 hlt,gchk,if_pos (by omega),if_pos (by omega)]))
    · go_wp2
      go_ret
      refine ⟨yh0 (int_eq ?_),hp⟩
      rw [hg.out,List.drop_eq_nil_of_le (by omega),gchk]
end Go.Proofs.YtjepipbkiadcpaaGreat

/- The walks of package connect's forests, up to Connected. -/
namespace Go.Proofs.YtjepipbkiadcpaaGreat
open Go.RowKit Go.Maps Go.Proofs.Tryz
set_option maxRecDepth 100000
set_option maxHeartbeats 400000
theorem yhP{sz:Nat}(g:Nat)(F:List Nat)(v:Nat)(w:World)(hF:NRow w g 230 sz F)(h:ydO F)(hv:v<12) :
    Calls Tryz.prog 202 #[.pointer (some ⟨g,0,none⟩), .int .i64 (v:Int)] w fun e w'=>e = .returned (.int .i64 (root F v:Int))∧w=w':=by
  have H:=Lib.hid h
  clear h
  go_enter func202,ntmps202
  go_wp2
  go_loopw [1] (fun i wr=>∃ u:Nat,u<12∧i = .int .i64 (u:Int)∧Hid (root F v=root F u)∧Same wr w) (fun i _=>(intOf i).toNat)
  case atStart=>exact ⟨v,hv,rfl,rfl, .refl _⟩
  case round =>
    obtain ⟨u,hu,rfl,hr,hw⟩:=hrel
    obtain rfl:wr=w:=hw.out
    have hc:=ncell hF (k:=u) (by rw [H.out.1];exact hu)
    simp only [Int.ofNat_eq_natCast] at hc
    have hle:=H.out.2 u hu
    by_cases he:gn F u=u
    · have hb:=neF (a:=(gn F u:Int)) (b:=(u:Int)) (by rw [he])
      have HE:=Lib.hid he
      clear he hw
      go_wp2
      go_ret
      exact ⟨yh0 (int_eq (by rw [hr.out,ydz HE.out])),rfl⟩
    · have hb:=neT (a:=(gn F u:Int)) (b:=(u:Int)) (by omega)
      clear hw
      go_wp2
      go_roundw
      case rel=>exact ⟨gn F u,by omega,rfl,by rw [Hid,hr.out,yfT H.out hu he], .refl _⟩
      case measure=>simp [intOf];omega
theorem join_any(g:Nat)(F:List Nat)(a b:Nat)(w:World)(hF:NRow w g 230 12 F)(h:ydO F)(ha:a<12)(hb:b<12) :
    Calls Tryz.prog 201 #[.pointer (some ⟨g,0,none⟩), .int .i64 (a:Int), .int .i64 (b:Int)] w fun e w'=>e = .returned (.tuple #[])∧NRow w' g 230 12 (ydS F a b)∧Keeps (· = g) w w':=by
  have h1:=ye2 h a ha
  have h2:=ye2 h b hb
  have hfa:=Row.frozen hF (root F a)
  have hfb:=Row.frozen hF (root F b)
  have hca:=ncell hF (k:=root F a) (by rw [h.1];omega)
  have hcb:=ncell hF (k:=root F b) (by rw [h.1];omega)
  have l1:root F a<12:=by omega
  have l2:root F b<12:=by omega
  have H1:=Lib.hid h1
  have H2:=Lib.hid h2
  clear h1 h2
  go_enter func201,ntmps201
  go_wp2_with fail
  refine (yhP g F a _ hF h ha).mono ?_
  rintro e w' ⟨rfl,rfl⟩
  go_wp2_with fail
  refine (yhP g F b _ hF h hb).mono ?_
  rintro e w' ⟨rfl,rfl⟩
  have HF:=Lib.hid hF
  clear hF
  go_wp2
  all_goals go_end0
  all_goals (refine ⟨rfl,?_,(by repeat (first | exact Keeps.refl _ _ | assumption | refine Keeps.drew ?_ | refine Keeps.drewN ?_ _ | refine Keeps.alloc ?_ _ | refine Keeps.setRow ?_ (by simp) _ | refine Keeps.setRow ?_ (by simp;omega) _ | refine Keeps.setCell ?_ (by simp) _ | refine Keeps.setCell ?_ (by simp;omega) _))⟩)
  all_goals (first
    | (rw [show ydS F a b=F.set (root F a) (root F b) by unfold ydS;rw [Nat.max_eq_left (by omega),Nat.min_eq_right (by omega)]];exact nset HF.out _ _)
    | (rw [show ydS F a b=F.set (root F b) (root F a) by unfold ydS;rw [Nat.max_eq_right (by omega),Nat.min_eq_left (by omega)]];exact nset HF.out _ _)
    | (rw [show ydS F a b=F.set (root F a) (root F a) by unfold ydS;rw [Nat.max_eq_right (by omega),Nat.min_eq_left (by omega)];congr 1 <;> omega];exact nset HF.out _ _))
def yhh(F:List Nat):Value := .agg (yej F).toArray
theorem grown_any(w:World) :
    Calls Tryz.prog 200 #[] w fun e w'=>e = .returned (yhh yfx)∧Pure w w':=by
  go_enter func200,ntmps200
  go_wp2
  refine wp_loop_rounds 13 ?_
  repeat any_goals (rw [rounds_succ];go_wp2)
  exact bodyPost_ret (v:=yhh yfx) (by simp [results,Tryz.results200,go_sem,yhh,yej,yfx,List.range,List.range.loop]) rfl ⟨rfl,(by repeat (first | exact Keeps.refl _ _ | assumption | refine Keeps.drew ?_ | refine Keeps.drewN ?_ _ | refine Keeps.alloc ?_ _ | refine Keeps.setRow ?_ (by simp) _ | refine Keeps.setRow ?_ (by simp;omega) _ | refine Keeps.setCell ?_ (by simp) _ | refine Keeps.setCell ?_ (by simp;omega) _))⟩
theorem forestV_lit{F:List Nat}(h:F.length=12):∃ a0 a1 a2 a3 a4 a5 a6 a7 a8 a9 a10 a11:Nat,F=[a0,a1,a2,a3,a4,a5,a6,a7,a8,a9,a10,a11]:=by
  match F,h with
  | [a0,a1,a2,a3,a4,a5,a6,a7,a8,a9,a10,a11],_=>exact ⟨a0,a1,a2,a3,a4,a5,a6,a7,a8,a9,a10,a11,rfl⟩
theorem forest_info:(Tryz.prog.info? 230).map (·.size)=some 12:=by kernel_rfl
theorem joined_any(A:Option Addr)(es:List E3)(cap:Nat)(n:Int)(w:World)(hd:yhx w A es)(hlen:es.length≤1000000000)(hE:yfw es) :
    Calls Tryz.prog 169 #[.agg #[.int .i64 n, .slice A es.length cap]] w fun e w'=>e = .returned (yhh (ya3 es))∧Pure w w':=by
  have HD:=Lib.hid hd
  have HE:=Lib.hid hE
  clear hd hE
  go_enter func169,ntmps169
  go_wp2_with fail
  refine (grown_any _).mono ?_
  rintro e w1 ⟨rfl,hp1⟩
  have r0:=hp1.row (Row.alloc (Row.new w #[.int .i64 n, .slice A es.length cap] 24) _) id
  have r1:=hp1.row (Row.new (w.alloc (.cells #[.int .i64 n, .slice A es.length cap] 24)) #[.int .i64 0, .int .i64 0, .int .i64 0, .int .i64 0, .int .i64 0, .int .i64 0, .int .i64 0, .int .i64 0, .int .i64 0, .int .i64 0, .int .i64 0, .int .i64 0] 230) id
  rw [World.size_alloc] at r1
  have k0:Pure w w1:=Pure.after (by repeat (first | exact Keeps.refl _ _ | assumption | refine Keeps.drew ?_ | refine Keeps.drewN ?_ _ | refine Keeps.alloc ?_ _ | refine Keeps.setRow ?_ (by simp) _ | refine Keeps.setRow ?_ (by simp;omega) _ | refine Keeps.setCell ?_ (by simp) _ | refine Keeps.setCell ?_ (by simp;omega) _)) hp1
  have r00:=Row.cell r0 (i:=0) rfl
  have r01:=Row.cell r0 (i:=1) rfl
  have s0:=r0.lt
  have s1:=r1.lt
  unfold yhh yej yfx
  simp only [List.range,List.range.loop,List.map]
  go_wp2
  have hf0:NRow (w1.alloc (.cells #[.int .i64 0, .int .i64 1, .int .i64 2, .int .i64 3, .int .i64 4, .int .i64 5, .int .i64 6, .int .i64 7, .int .i64 8, .int .i64 9, .int .i64 10, .int .i64 11] 230)) w1.heap.size 230 12 (ya3 (es.take 0)) :=
    Row.new w1 #[.int .i64 0, .int .i64 1, .int .i64 2, .int .i64 3, .int .i64 4, .int .i64 5, .int .i64 6, .int .i64 7, .int .i64 8, .int .i64 9, .int .i64 10, .int .i64 11] 230
  have g0:=Row.alloc r0 (.cells #[.int .i64 0, .int .i64 1, .int .i64 2, .int .i64 3, .int .i64 4, .int .i64 5, .int .i64 6, .int .i64 7, .int .i64 8, .int .i64 9, .int .i64 10, .int .i64 11] 230)
  have g1:=Row.alloc r1 (.cells #[.int .i64 0, .int .i64 1, .int .i64 2, .int .i64 3, .int .i64 4, .int .i64 5, .int .i64 6, .int .i64 7, .int .i64 8, .int .i64 9, .int .i64 10, .int .i64 11] 230)
  have k1:=Keeps.alloc k0 (.cells #[.int .i64 0, .int .i64 1, .int .i64 2, .int .i64 3, .int .i64 4, .int .i64 5, .int .i64 6, .int .i64 7, .int .i64 8, .int .i64 9, .int .i64 10, .int .i64 11] 230)
  go_loopw [10] (fun i wr=>∃ k:Nat,k≤es.length∧i = .int .i64 k∧NRow wr w1.heap.size 230 12 (ya3 (es.take k))∧Row wr (w.heap.size+1) 230 12 [.int .i64 0, .int .i64 0, .int .i64 0, .int .i64 0, .int .i64 0, .int .i64 0, .int .i64 0, .int .i64 0, .int .i64 0, .int .i64 0, .int .i64 0, .int .i64 0]∧Pure w wr) (fun i _=>es.length-(intOf i).toNat)
  case atStart=>exact ⟨0,Nat.zero_le _,rfl,hf0,g1,k1⟩
  clear hf0 g0 g1 k1 r0 r1 k0 r00 r01 hp1
  case round =>
    obtain ⟨k,hk,rfl,hf,hr1,hp⟩:=hrel
    have sM:=hf.lt
    by_cases hlt:k<es.length
    · obtain ⟨b,off,rfl,hb,hc⟩:=HD.out (by omega)
      obtain ⟨c0,c1,c2⟩:=hc k hlt
      clear hc
      replace c0:=hp.cell id c0
      replace c1:=hp.cell id c1
      replace c2:=hp.cell id c2
      obtain ⟨x1,x2,x3,x4⟩:=HE.out _ (ge_mem hlt)
      obtain ⟨u,hu⟩:∃ u:Nat,(ge es k).1=(u:Int):=⟨(ge es k).1.toNat,by omega⟩
      obtain ⟨v,hv⟩:∃ v:Nat,(ge es k).2.1=(v:Int):=⟨(ge es k).2.1.toNat,by omega⟩
      have hbw:b<wr.heap.size:=Nat.lt_of_lt_of_le hb hp.size
      have hT:Hid (ya3 (es.take (k+1))=ydS (ya3 (es.take k)) u v):=by rw [Hid,joinedF_take es hlt,hu,hv];rfl
      rw [hu] at c0 x1 x2
      rw [hv] at c1 x3 x4
      clear hu hv
      go_wp2_with fail
      refine (join_any w1.heap.size (ya3 (es.take k)) u v _ (Row.alloc hf _) (ydi _ (HE.out.take k)) (by omega) (by omega)).mono ?_
      rintro e w2 ⟨rfl,hf2,hp2⟩
      go_wp2
      go_roundw
      case rel=>exact ⟨k+1,by omega,by go_num,by rw [hT.out];exact hf2,hp2.row (Row.alloc hr1 _) (by omega),(Keeps.alloc hp _).then hp2 (fun j hj e=>by omega)⟩
      case measure=>simp [intOf];omega
    · obtain rfl:k=es.length:=by omega
      rw [List.take_length] at hf
      have hL:=(ydi es HE.out).1
      have hfull:=NRow.full (xs:=ya3 es) (by rw [hL];exact hf)
      have hold:=Row.full (xs:=[.int .i64 0, .int .i64 0, .int .i64 0, .int .i64 0, .int .i64 0, .int .i64 0, .int .i64 0, .int .i64 0, .int .i64 0, .int .i64 0, .int .i64 0, .int .i64 0]) hr1
      have hinfo:(Tryz.prog.info? 230).map (·.size)=some (yej (ya3 es)).toArray.size:=by
        rw [List.size_toArray,yeL,hL];exact forest_info
      have HFU:=Lib.hid hfull
      have HOL:=Lib.hid hold
      have HIN:=Lib.hid hinfo
      clear hfull hold hinfo hL
      go_wp2_with (first
        | (refine wpList_load_row rfl 230 (.tmp 3) rfl w1.heap.size rfl 230 (yej (ya3 es)).toArray (0,0) _ HFU.out underlying230 rfl HIN.out ?_)
        | (refine yhz rfl 230 (.tmp 2) (.tmp 20) rfl (w.heap.size+1) rfl (yej (ya3 es)).toArray rfl 230 _ HOL.out (by rw [List.size_toArray,List.size_toArray,yeL,(ydi es HE.out).1];rfl) HIN.out (nvals_one _) ?_))
      refine bodyPost_ret (results_cell_row rfl _ _ (w.heap.size+1) 230 (yej (ya3 es)).toArray (0,0) _ rfl (setRow_heap _ _ _ _ _ _ HOL.out) underlying230 rfl HIN.out) rfl ⟨rfl,(by repeat (first | exact Keeps.refl _ _ | assumption | refine Keeps.drew ?_ | refine Keeps.drewN ?_ _ | refine Keeps.alloc ?_ _ | refine Keeps.setRow ?_ (by simp) _ | refine Keeps.setRow ?_ (by simp;omega) _ | refine Keeps.setCell ?_ (by simp) _ | refine Keeps.setCell ?_ (by simp;omega) _))⟩
end Go.Proofs.YtjepipbkiadcpaaGreat

/- The walk of the parts of a forest: slices of slices that grow. -/
namespace Go.Proofs.YtjepipbkiadcpaaGreat
open Go.RowKit Go.Maps Go.Proofs.Tryz
set_option maxRecDepth 100000
set_option maxHeartbeats 400000
def ycK(F:List Nat):Nat→List (List Nat)
  | 0=>[]
  | k+1=>(if root F k=k then ycK F k++[[]] else ycK F k).modify (ya6 F (root F k)) (· ++ [k])
theorem ydx(F:List Nat):∀ k,(ycK F k).length=ya6 F k
  | 0=>rfl
  | k+1=>by
    rw [ycK,List.length_modify,ya6]
    split <;> simp [ydx F k]
theorem rows_le(F:List Nat):∀ k,∀ r∈ycK F k,r.length≤k
  | 0=>by simp [ycK]
  | k+1=>by
    intro r hr
    rw [ycK] at hr
    obtain ⟨i,hi,rfl⟩:=List.getElem_of_mem hr
    have hb:∀ r'∈(if root F k=k then ycK F k++[[]] else ycK F k),r'.length≤k:=by
      intro r' hr'
      split at hr'
      · rcases List.mem_append.1 hr' with h1 | h1
        · exact rows_le F k r' h1
        · simp at h1;subst h1;simp
      · exact rows_le F k r' hr'
    rw [List.getElem_modify]
    rw [List.length_modify] at hi
    have:=hb _ (List.getElem_mem hi)
    split
    · simp;omega
    · omega
theorem nroots_mono(F:List Nat){a b:Nat}(h:a≤b):ya6 F a≤ya6 F b:=by
  induction b with
  | zero => obtain rfl : a = 0 := by omega
            exact Nat.le_refl _
  | succ b ih =>
    rcases Nat.lt_or_ge a (b+1) with h1 | h1
    · rw [ya6];have:=ih (by omega);omega
    · obtain rfl:a=b+1:=by omega
      exact Nat.le_refl _
theorem yiv(F:List Nat){r k:Nat}(h:r<k)(hr:root F r=r):ya6 F r<ya6 F k:=by
  have:=nroots_mono F (show r+1≤k from h)
  rw [ya6,if_pos hr] at this
  omega
theorem nroots_le(F:List Nat):∀ k,ya6 F k≤k
  | 0=>Nat.le_refl _
  | k+1=>by rw [ya6];have:=nroots_le F k;split <;> omega
def yeJ(w:World)(B:Nat)(vals:List Value)(rows:List (List Nat)):Prop :=
  vals.length=rows.length∧(∀ (i:Nat) (v:Value) (r:List Nat),vals[i]? = some v→rows[i]? = some r→w.ownsRow B 3 1 v r.length (yej r)) ∧
    ∀ (i j:Nat) (v u:Value),i≠j→vals[i]? = some v→vals[j]? = some u→v.ownBlock=none∨v.ownBlock≠u.ownBlock
theorem yeJ.nil(w:World)(B:Nat):yeJ w B [] []:=⟨rfl,by simp,by simp⟩
theorem yeJ.kept{w w':World}{B:Nat}{vals:List Value}{rows:List (List Nat)}{row:Option Nat}(h:yeJ w B vals rows)(hg:w.grownBy w' row)(hr:∀ v∈vals,v.ownBlock=none∨v.ownBlock≠row):yeJ w' B vals rows :=
  ⟨h.1,fun i v r hv hr'=>(h.2.1 i v r hv hr').kept hg (hr v (List.mem_of_getElem? hv)),h.2.2⟩
theorem yeJ.push{w:World}{B:Nat}{vals:List Value}{rows:List (List Nat)}(h:yeJ w B vals rows):yeJ w B (vals++[.slice none 0 0]) (rows++[[]]):=by
  refine ⟨by simp [h.1],fun i v r hv hr=>?_,fun i j v u hij hv hu=>?_⟩
  · rcases Nat.lt_or_ge i vals.length with hi | hi
    · rw [List.getElem?_append_left hi] at hv
      rw [List.getElem?_append_left (by rw [←h.1];exact hi)] at hr
      exact h.2.1 i v r hv hr
    · rw [List.getElem?_append_right hi] at hv
      rw [List.getElem?_append_right (by rw [←h.1];exact hi)] at hr
      have hi0:i-vals.length=0:=by
        rcases Nat.eq_zero_or_pos (i-vals.length) with h0 | h0
        · exact h0
        · rw [List.getElem?_eq_none (by simp;omega)] at hv;cases hv
      rw [hi0] at hv
      rw [←h.1,hi0] at hr
      simp at hv hr
      subst hv;subst hr
      exact World.ownsRow_nil _ _ _ _
  · rcases Nat.lt_or_ge i vals.length with hi | hi
    · rcases Nat.lt_or_ge j vals.length with hj | hj
      · rw [List.getElem?_append_left hi] at hv
        rw [List.getElem?_append_left hj] at hu
        exact h.2.2 i j v u hij hv hu
      · rw [List.getElem?_append_right hj] at hu
        cases hvo:v.ownBlock with
        | none=>exact .inl rfl
        | some g =>
          refine .inr ?_
          have:u = .slice none 0 0:=by
            have:=List.mem_of_getElem? hu
            simpa using this
          subst this
          simp [Value.ownBlock]
    · rw [List.getElem?_append_right hi] at hv
      have:v = .slice none 0 0:=by
        have:=List.mem_of_getElem? hv
        simpa using this
      subst this
      exact .inl rfl
theorem yeJ.grow{w w':World}{B:Nat}{vals:List Value}{rows:List (List Nat)}{c:Nat}{v v':Value}{r:List Nat}{x:Nat}(h:yeJ w B vals rows)(hv:vals[c]? = some v)(hr:rows[c]? = some r)
    (hg:w.grownBy w' v.ownBlock) (hown:w'.ownsRow B 3 1 v' (r.length+1) (yej r++[.int .i64 (Int.ofNat x)])) (hat:v'.ownBlock=v.ownBlock∨∃ g,v'.ownBlock=some g∧w.heap.size≤g) :
    yeJ w' B (vals.set c v') (rows.modify c (· ++ [x])):=by
  have hc:c<vals.length:=(List.getElem?_eq_some_iff.1 hv).1
  have hlt:∀ (i:Nat) (u:Value),vals[i]? = some u→∀ k,u.ownBlock=some k→k<w.heap.size:=fun i u hu k hk=>by
    have hi:i<vals.length:=(List.getElem?_eq_some_iff.1 hu).1
    have hri:rows[i]? = some (rows[i]'(by rw [←h.1];exact hi)):=List.getElem?_eq_getElem (by rw [←h.1];exact hi)
    exact ((h.2.1 i u _ hu hri).lt k hk).2
  refine ⟨by simp [h.1],fun i u r' hu hr'=>?_,fun i j u z hij hu hz=>?_⟩
  · by_cases e:i=c
    · subst e
      rw [List.getElem?_set_self hc] at hu
      rw [List.getElem?_modify,hr] at hr'
      simp at hu hr'
      subst hu;subst hr'
      simpa [yej] using hown
    · rw [List.getElem?_set_ne (fun e'=>e e'.symm)] at hu
      rw [List.getElem?_modify] at hr'
      have e':¬c=i:=fun h=>e h.symm
      have hr'':rows[i]? = some r':=by cases hq:rows[i]? <;> simp_all
      exact (h.2.1 i u r' hu hr'').kept hg (h.2.2 i c u v e hu hv)
  · by_cases e:i=c
    · subst e
      rw [List.getElem?_set_self hc] at hu
      rw [List.getElem?_set_ne (fun e'=>hij e')] at hz
      simp at hu
      subst hu
      rcases hat with e1 | ⟨g,e1,hgs⟩
      · rw [e1];exact h.2.2 i j v z hij hv hz
      · refine .inr ?_
        rw [e1]
        intro e2
        have:=hlt j z hz g e2.symm
        omega
    · rw [List.getElem?_set_ne (fun e'=>e e'.symm)] at hu
      by_cases e3:j=c
      · subst e3
        rw [List.getElem?_set_self hc] at hz
        simp at hz
        subst hz
        cases huo:u.ownBlock with
        | none=>exact .inl rfl
        | some k =>
          refine .inr ?_
          rcases hat with e1 | ⟨g,e1,hgs⟩
          · rw [e1]
            have:=h.2.2 i j u v hij hu hv
            rw [huo] at this
            rcases this with h0 | h0
            · cases h0
            · exact h0
          · rw [e1]
            intro e2
            have:=hlt i u hu k huo
            cases e2
            omega
      · rw [List.getElem?_set_ne (fun e'=>e3 e'.symm)] at hz
        exact h.2.2 i j u z hij hu hz
theorem ints_info:(Tryz.prog.info? 33).map (fun i=>(i.zero,i.size,i.bytes))=some (some (.slice none 0 0),1,24):=by kernel_rfl
theorem zero_int(w:World):(zeroValue 3).run Tryz.prog w = .ok (.int .i64 0) w:=by kernel_rfl
theorem key_int:Keyed Tryz.prog 3:=int_keyed underlying3
theorem wf_small{r:Nat}(hr:r<1000):(Lit.int .i64 (r:Int)).wf=true:=WalkArith.wf_i64 (by omega)
theorem ycr{H:Type}{w:World}{M n:Nat}{D:DataW H}{r:Nat}{c:Int}(h:w.ownsMap Tryz.prog 3 (plainElem Tryz.prog 3) M n D)(hr:r<1000)(hD:D.atKey (.int .i64 (r:Int)) (.lit (.int .i64 0)) = .lit (.int .i64 c)) :
    (Instr.lookup 266 (.map (some M)) (.int .i64 (r:Int)) false).run Tryz.prog w = .ok (.int .i64 c) w:=by
  obtain ⟨c',h1,h2,_⟩:=h.lookup_int key_int underlying266 underlying3 (zero_int w) (key := .int .i64 (r:Int)) (keyOf_int_mk underlying3 (wf_small hr))
  rw [hD] at h2
  simp at h2
  rw [h1,h2]
theorem yh3{w:World}{B n:Nat}{v:Value}{xs:List Value}{e:TypeId}(h:w.ownsRow B e 1 v n xs):∃ A c,v = .slice A n c:=by
  rcases h.2 with ⟨rfl,rfl⟩ | ⟨g,cap,cur,rfl,_⟩
  · exact ⟨_,_,rfl⟩
  · exact ⟨_,_,rfl⟩
theorem yhk{H:Type}{P:Program}{w:World}{B e size n m k:Nat}{v:Value}{xs:List Value}{R:Value→Option (DataW H×List MemPlace)}{D:DataW H}{M:Nat}(h:w.ownsRow B e size v n xs)(hm:w.ownsMap P k R M m D):v.ownBlock=none∨v.ownBlock≠some M:=by
  obtain ⟨es,clock,hM,_⟩:=hm
  rcases h.2 with ⟨rfl,_⟩ | ⟨g,cap,cur,rfl,_,hg,_⟩
  · exact .inl rfl
  · refine .inr ?_
    simp only [Value.ownBlock]
    intro e'
    cases e'
    rw [hg] at hM
    cases hM
theorem own_ne_map' {H:Type}{P:Program}{w:World}{B e size n m k:Nat}{v:Value}{xs:List Value}{R:Value→Option (DataW H×List MemPlace)}{D:DataW H}{M:Nat}(h:w.ownsRow B e size v n xs)(hm:w.ownsMap P k R M m D):some M≠v.ownBlock:=by
  rcases yhk h hm with e | e
  · rw [e];simp
  · exact fun e'=>e e'.symm
theorem undrew{w w':World}{r:Option Nat}(h:w.drew.grownBy w' r):w.grownBy w' r:=⟨h.os,h.tape,h.output,h.size,h.block⟩
theorem yfi{w:World}{B B' e e' size size' n n':Nat}{v v':Value}{xs xs':List Value}(he:e≠e')(h:w.ownsRow B e size v n xs)(h':w.ownsRow B' e' size' v' n' xs'):v.ownBlock=none∨v.ownBlock≠v'.ownBlock:=by
  rcases h.2 with ⟨rfl,_⟩ | ⟨g,cap,cur,rfl,_,hg,_⟩
  · exact .inl rfl
  · refine .inr ?_
    rcases h'.2 with ⟨rfl,_⟩ | ⟨g',cap',cur',rfl,_,hg',_⟩
    · simp [Value.ownBlock]
    · simp only [Value.ownBlock]
      intro e''
      simp only [Option.some.injEq] at e''
      subst e''
      rw [hg] at hg'
      simp only [Option.some.injEq,Obj.cells.injEq] at hg'
      exact he hg'.2.1
theorem yeJ.row{w:World}{B:Nat}{vals:List Value}{rows:List (List Nat)}(h:yeJ w B vals rows){v:Value}(hv:v∈vals):∃ n xs,w.ownsRow B 3 1 v n xs:=by
  obtain ⟨i,hi,rfl⟩:=List.getElem_of_mem hv
  have hr:rows[i]? = some (rows[i]'(by rw [←h.1];exact hi)):=List.getElem?_eq_getElem (by rw [←h.1];exact hi)
  exact ⟨_,_,h.2.1 i _ _ (List.getElem?_eq_getElem hi) hr⟩
theorem row_block{w:World}{B e n c g cap:Nat}{xs:List Value}{u:Value}(h:w.ownsRow B e 1 (.slice (some ⟨g,0,none⟩) n cap) n xs)(hu:xs[c]? = some u):w.cell? ⟨g,c,none⟩=some u∧w.frozen? ⟨g,c,none⟩=false:=by
  have h1:=h.cells (g:=g) rfl c u hu
  have hadd:(⟨g,0,none⟩:Addr).add c=⟨g,c,none⟩:=by unfold Addr.add;split <;> simp_all
  rw [hadd] at h1
  refine ⟨h1,?_⟩
  rcases h.2 with ⟨h0,_⟩ | ⟨g',cap',cur,h0,_,hg,_⟩
  · cases h0
  · cases h0
    simp [World.frozen?,hg]
set_option maxHeartbeats 4000000 in
theorem parts_any{sz:Nat}(g:Nat)(F:List Nat)(n:Nat)(w:World)(hF:NRow w g 230 sz F)(h:ydO F)(hn:n≤12) :
    Calls Tryz.prog 170 #[.pointer (some ⟨g,0,none⟩), .int .i64 (n:Int)] w fun e w'=>∃ v vals,e = .returned v∧w'.ownsRow w.heap.size 33 1 v (ya6 F n) vals∧yeJ w' w.heap.size vals (ycK F n)∧Pure w w':=by
  have HF:=Lib.hid h
  clear h
  obtain ⟨i0,hi,hz0,hz1,hz2⟩:=info_parts int_info
  obtain ⟨i1,hi1,hy0,hy1,hy2⟩:=info_parts ints_info
  have hmm:=@run_makeMap Tryz.prog
  go_enter func170,ntmps170
  go_wp2
  have hm0:=World.ownsMap_made (H:=Unit) w Tryz.prog 3 (plainElem Tryz.prog 3)
  go_loopw [5,11] (fun out i wr=>∃ (k:Nat) (vals:List Value) (D:DataW Unit),k≤n∧i = .int .i64 k∧wr.ownsRow w.heap.size 33 1 out (ya6 F k) vals∧yeJ wr w.heap.size vals (ycK F k) ∧
      wr.ownsMap Tryz.prog 3 (plainElem Tryz.prog 3) w.heap.size k D∧Hid (IsMap D∧∀ r,r<k→root F r=r→D.atKey (.int .i64 (r:Int)) (.lit (.int .i64 0)) = .lit (.int .i64 (ya6 F r:Int)))∧Pure w wr) (fun _ i _=>n-(intOf i).toNat)
  case atStart=>exact ⟨0,[], .map [],Nat.zero_le _,rfl,World.ownsRow_nil _ _ _ _,yeJ.nil _ _,hm0,⟨isMap_empty,fun r hr=>absurd hr (by omega)⟩,(by repeat (first | exact Keeps.refl _ _ | assumption | refine Keeps.drew ?_ | refine Keeps.drewN ?_ _ | refine Keeps.alloc ?_ _ | refine Keeps.setRow ?_ (by simp) _ | refine Keeps.setRow ?_ (by simp;omega) _ | refine Keeps.setCell ?_ (by simp) _ | refine Keeps.setCell ?_ (by simp;omega) _))⟩
  case round =>
    obtain ⟨k,vals,D,hk,rfl,hown,hsl,hmap,HD,hp⟩:=hrel
    clear hm0
    have hFr:NRow wr g 230 sz F:=hp.row hF id
    obtain ⟨A,cp,rfl⟩:=yh3 hown
    by_cases hlt:k<n
    · have hrl:=ye2 HF.out k (by omega)
      have hnk:=nroots_le F k
      have hMw:w.heap.size<wr.heap.size:=hmap.lt
      by_cases hr:root F k=k
      case' pos =>
        have hb:((root F k:Int)==(k:Int))=true:=by simp [hr]
        have HR:=Lib.hid hr
        go_wp2_with fail
        refine (yhP g F k _ hFr HF.out (by omega)).mono ?_
        rintro e w' ⟨rfl,rfl⟩
        rw [hr] at hb ⊢
        clear hr
        go_wp2_with (first
          | (refine wpList_mapUpdate_own _ rfl _ _ _ 266 rfl 3 3 key_int underlying266 _ w.heap.size k D rfl hmap (by unfold maxLen;omega) _ _ _ rfl rfl (keyOf_int_mk underlying3 (wf_small (by omega))) (.lit (.int .i64 (ya6 F k:Int))) [] (plainElem_int underlying3 (wf_small (by omega))) ?_;intro w1 hmap1 hgrow1;have hown1:=hown.kept hgrow1 (yhk hown hmap);have hsl1:=hsl.kept hgrow1 (fun v hv=>by obtain ⟨_,_,hq⟩:=hsl.row hv;exact yhk hq hmap);have hsz1:=hgrow1.size)
          | (at_builtin;refine wpList_append_own _ rfl _ _ 43 rfl w.heap.size 33 i1 (.slice none 0 0) 1 24 underlying43 hi1 hy0 hy1 hy2 rfl (by decide) _ _ _ rfl (hown1.alloc _) ⟨w1.heap.size,0,none⟩ 1 1 [.slice none 0 0] rfl rfl (cell_one_new _ _ _) (by simp [Value.oneCell']) (by unfold maxLen;omega) (by omega) (by have:=hp.size;simp;omega) ?_;intro v2 wA hown2 hgrow2 _))
        obtain ⟨G,capA,rfl,hG1,hG2⟩:=hown2.form (by omega)
        have hS:=((hsl1.kept (World.grownBy_alloc w1 _ none) (fun v _=>by cases v.ownBlock <;> simp)).kept hgrow2 (fun v hv=>by obtain ⟨_,_,hq⟩:=hsl1.row hv;exact yfi (by decide) hq hown1)).push
        have hM:=(hmap1.alloc (.cells #[.slice none 0 0] 33)).kept hgrow2 (own_ne_map' hown1 hmap1)
        have hP:Pure w wA:=by
          refine Keeps.grown (Keeps.alloc (Keeps.grown hp hgrow1 (fun j e hj=>by cases e;omega)) _) hgrow2 (fun j e hj=>?_)
          have:=(hown1.lt j e).1
          omega
        have hlen:vals.length=ya6 F k:=by have:=hown.1;omega
        have hO:=hown2
        obtain ⟨vi,hvi⟩:∃ vi:Value,vi = .slice none 0 0:=⟨_,rfl⟩
        obtain ⟨rr,hrr⟩:∃ rr:List Nat,rr=[]:=⟨_,rfl⟩
        have HX:Hid ((ycK F k++[[]])[ya6 F k]? = some rr∧(ycK F (k+1)=(ycK F k++[[]]).modify (ya6 F k) (· ++ [k])∧ya6 F (k+1)=ya6 F k+1)∧(IsMap (D.put (.int .i64 (k:Int)) (.lit (.int .i64 (ya6 F k:Int))))∧∀ r,r<k+1→root F r=r→(D.put (.int .i64 (k:Int)) (.lit (.int .i64 (ya6 F k:Int)))).atKey (.int .i64 (r:Int)) (.lit (.int .i64 0)) = .lit (.int .i64 (ya6 F r:Int)))∧(D.put (.int .i64 (k:Int)) (.lit (.int .i64 (ya6 F k:Int)))).atKey (.int .i64 (k:Int)) (.lit (.int .i64 0)) = .lit (.int .i64 (ya6 F k:Int))∧(vals++[.slice none 0 0])[ya6 F k]? = some vi∧ya6 F k<ya6 F k+1):=by
          rw [hvi,hrr]
          have hk1:WideAt.IsKeyLit (.int .i64 (k:Int)):=trivial
          refine ⟨?_,⟨?_,?_⟩,⟨HD.out.1.put _ _,?_⟩,?_,?_,by omega⟩
          · rw [List.getElem?_append_right (by rw [ydx];exact Nat.le_refl _),ydx];simp
          · rw [ycK,HR.out,if_pos rfl]
          · rw [ya6,if_pos HR.out]
          · intro q hq hqr
            by_cases e:q=k
            · subst e;exact atKey_put_same HD.out.1 hk1 _ _
            · rw [atKey_put_other (by simp;omega)]
              exact HD.out.2 q (by omega) hqr
          · exact atKey_put_same HD.out.1 hk1 _ _
          · rw [List.getElem?_append_right (by omega),hlen];simp
        clear hgrow2 hmap1 hgrow1 hown1 hsl1 hsz1 hown hsl hmap HD hlen hown2 HR
        generalize hvv:vals++[(.slice none 0 0:Value)]=vA at *
        clear hvv
        generalize hrw:ycK F k++[[]]=rowsA at *
        clear hrw
        have hform:∃ Ai ci,vi = .slice Ai rr.length ci:=⟨none,0,by rw [hvi,hrr];rfl⟩
        have hvo':wA.ownsRow w.heap.size 3 1 vi rr.length (yej rr):=by rw [hvi,hrr];exact World.ownsRow_nil _ _ _ _
        have hrl12:rr.length≤1000:=by rw [hrr];simp
        clear hvi hrr
        generalize hL:ya6 F k+1=L at *
        clear hL
        generalize hcc:ya6 F k=c at *
        clear hcc
        generalize hDD:D.put (.int .i64 (k:Int)) (.lit (.int .i64 (c:Int)))=DA at *
        clear hDD
        obtain ⟨Ai,ci,rfl⟩:=hform
        have hcL:c<L:=HX.out.2.2.2.2.2
        have hc0:(0:Int)≤(c:Int):=by omega
        have hc1:(c:Int)<(L:Int):=by omega
        have hcv:=HX.out.2.2.2.2.1
        obtain ⟨hq1,hq2⟩:=row_block hO hcv
        have hr12:k<1000:=by omega
        have hLk:=ycr hM hr12 HX.out.2.2.2.1
        have hlk1:=ycr (World.ownsMap.drew hM) hr12 HX.out.2.2.2.1
        have hlk2:=ycr (World.ownsMap.drew (hM.alloc (.cells #[.int .i64 (k:Int)] 3))) hr12 HX.out.2.2.2.1
        have hGn:=yfi (by decide) hO hvo'
        have hMG:=own_ne_map' hvo' hM
        have hGw:G<wA.heap.size:=(hO.lt G rfl).2
        have HO:=Lib.hid hO
        have HS:=Lib.hid hS
        have HM:=Lib.hid hM
        have HV:=Lib.hid hvo'
        have HMG:=Lib.hid hMG
        have HGn:Hid (some G≠(Value.slice Ai rr.length ci).ownBlock):=by
          rcases hGn with e | e
          · simp [Value.ownBlock] at e
          · exact e
        clear hO hS hM hvo' hMG hGn hcv hLk
        go_region_law ((refine step_append_lies _ (by rfl) _ _ _ (by rfl) w.heap.size 3 i0 _ 1 8 underlying33 hi hz0 hz1 hz2 rfl (by omega) (.slice Ai rr.length ci) rr.length (yej rr) (by rfl) ((HV.out.alloc _).drew) ⟨wA.heap.size,0,none⟩ 1 1 [.int .i64 (k:Int)] (by rfl) (by rfl) (World.news_of_block (cs:=#[.int .i64 (k:Int)]) (t:=3) (fr:=(0,0)) (heap_alloc_new wA _)) (by simp [Value.oneCell']) (by omega) (by unfold maxLen;omega) (by omega) (by simp;omega) (wA.heap.size+1) (by simp) ?_;intro gg cap w3 hown3 hgrow hat hlt3;have hbG:=hgrow.block G (by simp;omega) HGn.out;have hbG':=hbG.trans (Below.heap_alloc wA _ G hGw);have hq3:=(World.cell?_of_block (w:=wA) (a:=⟨G,c,none⟩) hbG').trans hq1;have hq4:=(World.frozen?_of_block (w:=wA) (a:=⟨G,c,none⟩) hbG').trans hq2;have hM3:=(World.ownsMap.drew (HM.out.alloc (.cells #[.int .i64 (k:Int)] 3))).kept hgrow HMG.out;have hlk3:=ycr hM3 hr12 HX.out.2.2.2.1;have HM3:=Lib.hid hM3;have HG3:=Lib.hid hgrow;have HO3:=Lib.hid hown3;have HA3:=Lib.hid hat;clear hbG hbG' hM3 hgrow hown3 hat))
        all_goals (
          have o3:=(HO.out.alloc (.cells #[.int .i64 (k:Int)] 3)).kept (w':=w3) (undrew HG3.out) (.inr (by simpa [Value.ownBlock] using HGn.out))
          have o4:=o3.stored c (.slice (some ⟨gg,0,none⟩) (rr.length+1) cap)
          have s3:=yeJ.grow (v' := .slice (some ⟨gg,0,none⟩) (rr.length+1) cap) (x:=k) (HS.out.kept (World.grownBy_alloc wA (.cells #[.int .i64 (k:Int)] 3) none) (fun v _=>by cases v.ownBlock <;> simp)) HX.out.2.2.2.2.1 HX.out.1 (undrew HG3.out) HO3.out (by
            rcases HA3.out with e | e
            · exact .inl e.symm
            · exact .inr ⟨gg,rfl,by rw [e];simp⟩)
          have s4:=s3.kept o4.2 (fun v hv=>by obtain ⟨_,_,hq⟩:=s3.row hv;exact yfi (by decide) hq o3)
          have m4:=HM3.out.kept o4.2 (own_ne_map' o3 HM3.out)
          have p4:Pure w (w3.setCell ⟨G,c,none⟩ (.slice (some ⟨gg,0,none⟩) (rr.length+1) cap)):=by
            refine Keeps.setCell (Keeps.grown (Keeps.drew (Keeps.alloc hP _)) HG3.out (fun j e hj=>?_)) (by simp;omega) _
            have:=(HV.out.lt j e).1
            omega
          have HO4:=Lib.hid o4.1
          have HS4:=Lib.hid s4
          have HM4:=Lib.hid m4
          have HP4:=Lib.hid p4
          clear o3 o4 s3 s4 m4 p4 hq1 hq2 hq3 hq4 hlk1 hlk2 hlk3
          go_wp2
          go_roundw
          case rel=>exact ⟨k+1,vA.set c (.slice (some ⟨gg,0,none⟩) (rr.length+1) cap),DA,by omega,by go_num,by rw [HX.out.2.1.2];exact HO4.out,by rw [HX.out.2.1.1];exact HS4.out,HM4.out,HX.out.2.2.1,HP4.out⟩
          case measure=>simp [intOf];omega)
      case' neg =>
        have hb:((root F k:Int)==(k:Int))=false:=by simp;omega
        have hrk:root F k<k:=by omega
        have HR:=Lib.hid hr
        clear hr
        have hcl:ya6 F (root F k)<ya6 F k:=yiv F hrk (yim HF.out (by omega))
        obtain ⟨G,capA,e0,hG1,hG2⟩:=hown.form (by omega)
        cases e0
        have hlen:vals.length=ya6 F k:=by have:=hown.1;omega
        have hv0:vals[ya6 F (root F k)]? = some (vals[ya6 F (root F k)]'(by omega)):=List.getElem?_eq_getElem _
        have hr0:(ycK F k)[ya6 F (root F k)]? = some ((ycK F k)[ya6 F (root F k)]'(by rw [ydx];omega)):=List.getElem?_eq_getElem _
        obtain ⟨vi,hvi⟩:∃ vi:Value,vi=vals[ya6 F (root F k)]'(by omega):=⟨_,rfl⟩
        obtain ⟨rr,hrr⟩:∃ rr:List Nat,rr=(ycK F k)[ya6 F (root F k)]'(by rw [ydx];omega):=⟨_,rfl⟩
        rw [←hvi] at hv0
        rw [←hrr] at hr0
        have hrl12:rr.length≤1000:=by
          have:=rows_le F k rr (by rw [hrr];exact List.getElem_mem _)
          omega
        clear hvi hrr
        go_wp2_with fail
        refine (yhP g F k _ hFr HF.out (by omega)).mono ?_
        rintro e w' ⟨rfl,rfl⟩
        go_wp2
        obtain ⟨wA,hwA⟩:∃ wA:World,wA=wr:=⟨_,rfl⟩
        rw [←hwA] at hown hsl hmap hp hG2 ⊢
        clear hwA
        have hO:=hown
        have hS:=hsl
        have hM:=hmap.mono (Nat.le_succ k)
        have hP:=hp
        have hvo':=hsl.2.1 _ _ _ hv0 hr0
        have hform:∃ Ai ci,vi = .slice Ai rr.length ci:=yh3 hvo'
        have HX:Hid ((ycK F k)[ya6 F (root F k)]? = some rr∧(ycK F (k+1)=(ycK F k).modify (ya6 F (root F k)) (· ++ [k])∧ya6 F (k+1)=ya6 F k)∧(IsMap D∧∀ r,r<k+1→root F r=r→D.atKey (.int .i64 (r:Int)) (.lit (.int .i64 0)) = .lit (.int .i64 (ya6 F r:Int)))∧D.atKey (.int .i64 (root F k:Int)) (.lit (.int .i64 0)) = .lit (.int .i64 (ya6 F (root F k):Int))∧vals[ya6 F (root F k)]? = some vi∧ya6 F (root F k)<ya6 F k):=by
          refine ⟨hr0,⟨?_,?_⟩,⟨HD.out.1,?_⟩,?_,hv0,hcl⟩
          · rw [ycK,if_neg HR.out]
          · rw [ya6,if_neg HR.out,Nat.add_zero]
          · intro q hq hqr
            by_cases e:q=k
            · subst e;exact absurd hqr HR.out
            · exact HD.out.2 q (by omega) hqr
          · exact HD.out.2 _ hrk (yim HF.out (by omega))
        clear hown hsl hmap HD hlen HR hv0 hr0 hcl
        generalize hL:ya6 F k=L at *
        clear hL
        generalize hcc:ya6 F (root F k)=c at *
        clear hcc
        generalize hrw:ycK F k=rowsA at *
        clear hrw
        generalize hq:root F k=r at *
        clear hq
        obtain ⟨Ai,ci,rfl⟩:=hform
        have hcL:c<L:=HX.out.2.2.2.2.2
        have hc0:(0:Int)≤(c:Int):=by omega
        have hc1:(c:Int)<(L:Int):=by omega
        have hcv:=HX.out.2.2.2.2.1
        obtain ⟨hq1,hq2⟩:=row_block hO hcv
        have hr12:r<1000:=by omega
        have hLk:=ycr hM hr12 HX.out.2.2.2.1
        have hlk1:=ycr (World.ownsMap.drew hM) hr12 HX.out.2.2.2.1
        have hlk2:=ycr (World.ownsMap.drew (hM.alloc (.cells #[.int .i64 (k:Int)] 3))) hr12 HX.out.2.2.2.1
        have hGn:=yfi (by decide) hO hvo'
        have hMG:=own_ne_map' hvo' hM
        have hGw:G<wA.heap.size:=(hO.lt G rfl).2
        have HO:=Lib.hid hO
        have HS:=Lib.hid hS
        have HM:=Lib.hid hM
        have HV:=Lib.hid hvo'
        have HMG:=Lib.hid hMG
        have HGn:Hid (some G≠(Value.slice Ai rr.length ci).ownBlock):=by
          rcases hGn with e | e
          · simp [Value.ownBlock] at e
          · exact e
        clear hO hS hM hvo' hMG hGn hcv hLk
        go_region_law ((refine step_append_lies _ (by rfl) _ _ _ (by rfl) w.heap.size 3 i0 _ 1 8 underlying33 hi hz0 hz1 hz2 rfl (by omega) (.slice Ai rr.length ci) rr.length (yej rr) (by rfl) ((HV.out.alloc _).drew) ⟨wA.heap.size,0,none⟩ 1 1 [.int .i64 (k:Int)] (by rfl) (by rfl) (World.news_of_block (cs:=#[.int .i64 (k:Int)]) (t:=3) (fr:=(0,0)) (heap_alloc_new wA _)) (by simp [Value.oneCell']) (by omega) (by unfold maxLen;omega) (by omega) (by simp;omega) (wA.heap.size+1) (by simp) ?_;intro gg cap w3 hown3 hgrow hat hlt3;have hbG:=hgrow.block G (by simp;omega) HGn.out;have hbG':=hbG.trans (Below.heap_alloc wA _ G hGw);have hq3:=(World.cell?_of_block (w:=wA) (a:=⟨G,c,none⟩) hbG').trans hq1;have hq4:=(World.frozen?_of_block (w:=wA) (a:=⟨G,c,none⟩) hbG').trans hq2;have hM3:=(World.ownsMap.drew (HM.out.alloc (.cells #[.int .i64 (k:Int)] 3))).kept hgrow HMG.out;have hlk3:=ycr hM3 hr12 HX.out.2.2.2.1;have HM3:=Lib.hid hM3;have HG3:=Lib.hid hgrow;have HO3:=Lib.hid hown3;have HA3:=Lib.hid hat;clear hbG hbG' hM3 hgrow hown3 hat))
        all_goals (
          have o3:=(HO.out.alloc (.cells #[.int .i64 (k:Int)] 3)).kept (w':=w3) (undrew HG3.out) (.inr (by simpa [Value.ownBlock] using HGn.out))
          have o4:=o3.stored c (.slice (some ⟨gg,0,none⟩) (rr.length+1) cap)
          have s3:=yeJ.grow (v' := .slice (some ⟨gg,0,none⟩) (rr.length+1) cap) (x:=k) (HS.out.kept (World.grownBy_alloc wA (.cells #[.int .i64 (k:Int)] 3) none) (fun v _=>by cases v.ownBlock <;> simp)) HX.out.2.2.2.2.1 HX.out.1 (undrew HG3.out) HO3.out (by
            rcases HA3.out with e | e
            · exact .inl e.symm
            · exact .inr ⟨gg,rfl,by rw [e];simp⟩)
          have s4:=s3.kept o4.2 (fun v hv=>by obtain ⟨_,_,hq⟩:=s3.row hv;exact yfi (by decide) hq o3)
          have m4:=HM3.out.kept o4.2 (own_ne_map' o3 HM3.out)
          have p4:Pure w (w3.setCell ⟨G,c,none⟩ (.slice (some ⟨gg,0,none⟩) (rr.length+1) cap)):=by
            refine Keeps.setCell (Keeps.grown (Keeps.drew (Keeps.alloc hP _)) HG3.out (fun j e hj=>?_)) (by simp;omega) _
            have:=(HV.out.lt j e).1
            omega
          have HO4:=Lib.hid o4.1
          have HS4:=Lib.hid s4
          have HM4:=Lib.hid m4
          have HP4:=Lib.hid p4
          clear o3 o4 s3 s4 m4 p4 hq1 hq2 hq3 hq4 hlk1 hlk2 hlk3
          go_wp2
          go_roundw
          case rel=>exact ⟨k+1,vals.set c (.slice (some ⟨gg,0,none⟩) (rr.length+1) cap),D,by omega,by go_num,by rw [HX.out.2.1.2];exact HO4.out,by rw [HX.out.2.1.1];exact HS4.out,HM4.out,HX.out.2.2.1,HP4.out⟩
          case measure=>simp [intOf];omega)
    · go_wp2
      go_ret
      obtain rfl:k=n:=by omega
      exact ⟨_,vals,rfl,hown,hsl,hp⟩
end Go.Proofs.YtjepipbkiadcpaaGreat

/- The walks of connect.Components and connect.Connected. -/
namespace Go.Proofs.YtjepipbkiadcpaaGreat
open Go.RowKit Go.Maps Go.Proofs.Tryz
set_option maxRecDepth 100000
set_option maxHeartbeats 400000
theorem gchk_ends{n:Int}(hn:n≤12):∀ (es:List E3) (a b:Int),gchk n a b es=0→yfw es:=by
  intro es
  induction es with
  | nil=>intro a b _ x hx;cases hx
  | cons e t ih =>
    intro a b h
    rw [gchk] at h
    split at h
    · rename_i h1
      split at h
      · rename_i h2
        intro x hx
        rcases List.mem_cons.1 hx with rfl | hx
        · omega
        · exact ih _ _ h x hx
      · omega
    · omega
theorem gcheck_ends{n:Int}{es:List E3}(h:yaZ n es=0):yfw es∧1≤n∧n≤12:=by
  rw [yaZ] at h
  split at h
  · rename_i h1
    exact ⟨gchk_ends h1.2 es _ _ h,h1⟩
  · omega
def yg8(n:Int)(es:List E3):Bool:=ya6 (ya3 es) n.toNat==1
theorem own_base{w:World}{B B' e size n:Nat}{v:Value}{xs:List Value}(h:w.ownsRow B e size v n xs)(hB:B'≤B):w.ownsRow B' e size v n xs:=by
  refine ⟨h.1,?_⟩
  rcases h.2 with h0 | ⟨g,cap,cur,hv,hb,r⟩
  · exact .inl h0
  · exact .inr ⟨g,cap,cur,hv,Nat.le_trans hB hb,r⟩
theorem yeJ.base{w:World}{B B':Nat}{vals:List Value}{rows:List (List Nat)}(h:yeJ w B vals rows)(hB:B'≤B):yeJ w B' vals rows :=
  ⟨h.1,fun i v r hv hr=>own_base (h.2.1 i v r hv hr) hB,h.2.2⟩
def CompPost(n:Int)(es:List E3)(w:World)(e:Ending)(w':World):Prop :=
  ∃ v L vals,e = .returned (.tuple #[v, .int .i64 (yaZ n es)])∧w'.ownsRow w.heap.size 33 1 v L vals∧(yaZ n es≠0→L=0) ∧
    (yaZ n es=0→L=ya6 (ya3 es) n.toNat∧yeJ w' w.heap.size vals (ycK (ya3 es) n.toNat))∧Pure w w'
theorem components_any(A:Option Addr)(es:List E3)(cap:Nat)(n:Int)(w:World)(hd:yhx w A es)(hlen:es.length≤1000000000) :
    Calls Tryz.prog 116 #[.agg #[.int .i64 n, .slice A es.length cap]] w (CompPost n es w):=by
  by_cases hg:yaZ n es=0
  case neg =>
    have hb:=neT hg
    have HG:=Lib.hid hg
    clear hg
    go_enter func116,ntmps116
    go_wp2_with fail
    refine (gcheck_any A es cap n _ (hd.keep (by repeat (first | exact Keeps.refl _ _ | assumption | refine Keeps.drew ?_ | refine Keeps.drewN ?_ _ | refine Keeps.alloc ?_ _ | refine Keeps.setRow ?_ (by simp) _ | refine Keeps.setRow ?_ (by simp;omega) _ | refine Keeps.setCell ?_ (by simp) _ | refine Keeps.setCell ?_ (by simp;omega) _))) hlen).mono ?_
    rintro e w1 ⟨rfl,hp1⟩
    go_wp2
    go_ret2
    exact ⟨.slice none 0 0,0,[],rfl,World.ownsRow_nil _ _ _ _,fun _=>rfl,fun h=>absurd h HG.out,Pure.after (by repeat (first | exact Keeps.refl _ _ | assumption | refine Keeps.drew ?_ | refine Keeps.drewN ?_ _ | refine Keeps.alloc ?_ _ | refine Keeps.setRow ?_ (by simp) _ | refine Keeps.setRow ?_ (by simp;omega) _ | refine Keeps.setCell ?_ (by simp) _ | refine Keeps.setCell ?_ (by simp;omega) _)) hp1⟩
  have hb:=neF hg
  obtain ⟨hE,h1,h2⟩:=gcheck_ends hg
  have HG:=Lib.hid hg
  clear hg
  go_enter func116,ntmps116
  go_wp2_with fail
  refine (gcheck_any A es cap n _ (hd.keep (by repeat (first | exact Keeps.refl _ _ | assumption | refine Keeps.drew ?_ | refine Keeps.drewN ?_ _ | refine Keeps.alloc ?_ _ | refine Keeps.setRow ?_ (by simp) _ | refine Keeps.setRow ?_ (by simp;omega) _ | refine Keeps.setCell ?_ (by simp) _ | refine Keeps.setCell ?_ (by simp;omega) _))) hlen).mono ?_
  rintro e w1 ⟨rfl,hp1⟩
  have p1:Pure w w1:=Pure.after (by repeat (first | exact Keeps.refl _ _ | assumption | refine Keeps.drew ?_ | refine Keeps.drewN ?_ _ | refine Keeps.alloc ?_ _ | refine Keeps.setRow ?_ (by simp) _ | refine Keeps.setRow ?_ (by simp;omega) _ | refine Keeps.setCell ?_ (by simp) _ | refine Keeps.setCell ?_ (by simp;omega) _)) hp1
  have r0:=hp1.row (Row.new w #[.int .i64 n, .slice A es.length cap] 24) id
  have c0:=Row.cell r0 (i:=0) rfl
  have c1:=Row.cell r0 (i:=1) rfl
  have s0:=r0.lt
  go_wp2_with fail
  refine (joined_any A es cap n _ (hd.keep p1) hlen hE).mono ?_
  rintro e w2 ⟨rfl,hp2⟩
  have p2:Pure w w2:=Pure.after p1 hp2
  have r1:=hp2.row r0 id
  have d0:=Row.cell r1 (i:=0) rfl
  have d1:=Row.cell r1 (i:=1) rfl
  have s1:=r1.lt
  clear c0 c1 s0 r0
  have hF:=ydi es hE
  obtain ⟨a0,a1,a2,a3,a4,a5,a6,a7,a8,a9,a10,a11,hl⟩:=forestV_lit hF.1
  obtain ⟨m,rfl⟩:=Int.eq_ofNat_of_zero_le (show 0≤n by omega)
  have HL:=Lib.hid hl
  have hrow:NRow (w2.alloc (.cells (yej (ya3 es)).toArray 230)) w2.heap.size 230 12 (ya3 es):=by
    have:=Row.new w2 (yej (ya3 es)).toArray 230
    have hsz:(yej (ya3 es)).toArray.size=12:=by rw [List.size_toArray,yeL,hF.1]
    rw [hsz] at this
    exact this
  rw [hl] at hrow
  unfold yhh
  rw [hl]
  clear hl
  have hF':ydO [a0,a1,a2,a3,a4,a5,a6,a7,a8,a9,a10,a11]:=by rw [←HL.out];exact hF
  have HF:=Lib.hid hF'
  clear hF hF'
  simp only [yej,List.map] at hrow ⊢
  go_wp2_with fail
  refine (parts_any w2.heap.size _ m _ hrow HF.out (by omega)).mono ?_
  rintro e w3 ⟨v,vals,rfl,ho,hs,hp3⟩
  have p3:Pure w w3:=Pure.after (Keeps.alloc p2 _) hp3
  have HO:=Lib.hid ho
  clear ho
  go_wp2
  go_ret2
  have hle:w.heap.size≤(w2.alloc (.cells #[.int .i64 0] 0)).heap.size:=by have:=p2.size;simp;omega
  simp only [World.size_alloc] at hle
  refine ⟨v,_,vals,yh0 (by rw [HG.out];rfl),own_base HO.out (by simpa using hle),fun h=>absurd HG.out h,fun _=>⟨by rw [HL.out];rfl,?_⟩,p3⟩
  have:=hs.base (B':=w.heap.size) (by simpa using hle)
  rw [HL.out]
  exact this
theorem connected_any(A:Option Addr)(es:List E3)(cap:Nat)(n:Int)(w:World)(hd:yhx w A es)(hlen:es.length≤1000000000) :
    Calls Tryz.prog 72 #[.agg #[.int .i64 n, .slice A es.length cap]] w fun e w' =>
      e = .returned (.tuple #[.bool (decide (yaZ n es=0∧yg8 n es=true)), .int .i64 (yaZ n es)])∧Pure w w':=by
  go_enter func72,ntmps72
  go_wp2_with fail
  refine (components_any A es cap n _ (hd.keep (by repeat (first | exact Keeps.refl _ _ | assumption | refine Keeps.drew ?_ | refine Keeps.drewN ?_ _ | refine Keeps.alloc ?_ _ | refine Keeps.setRow ?_ (by simp) _ | refine Keeps.setRow ?_ (by simp;omega) _ | refine Keeps.setCell ?_ (by simp) _ | refine Keeps.setCell ?_ (by simp;omega) _))) hlen).mono ?_
  rintro e w1 ⟨v,L,vals,rfl,ho,h1,h2,hp1⟩
  have p1:Pure w w1:=Pure.after (by repeat (first | exact Keeps.refl _ _ | assumption | refine Keeps.drew ?_ | refine Keeps.drewN ?_ _ | refine Keeps.alloc ?_ _ | refine Keeps.setRow ?_ (by simp) _ | refine Keeps.setRow ?_ (by simp;omega) _ | refine Keeps.setCell ?_ (by simp) _ | refine Keeps.setCell ?_ (by simp;omega) _)) hp1
  have hL:((L:Int)==1)=decide (yaZ n es=0∧yg8 n es=true):=by
    by_cases hg:yaZ n es=0
    · obtain ⟨rfl,_⟩:=h2 hg
      simp only [hg,true_and,yg8]
      rw [Bool.eq_iff_iff]
      simp
      omega
    · rw [h1 hg]
      simp [hg]
  obtain ⟨A1,c1,rfl⟩:=yh3 ho
  have HL:=Lib.hid hL
  clear hL ho h1 h2
  go_wp2
  go_ret2
  refine ⟨?_,p1⟩
  rw [←HL.out]
  rfl
end Go.Proofs.YtjepipbkiadcpaaGreat

/- A right graph's edges; its forest of parts against ways out of sets. No program in sight. -/
namespace Go.Proofs.YtjepipbkiadcpaaGreat
open Go Go.Proofs.Tryz
theorem gchk_ok{n:Int} : ∀ (es:List E3) (a b:Int),gchk n a b es=0→∀ x∈es,0≤x.1∧x.1<n∧0≤x.2.1∧x.2.1<n∧1≤x.2.2∧x.2.2≤50
  | [],_,_,_=>by simp
  | x::t,a,b,h=>by
    rw [gchk] at h
    split at h
    · rename_i c
      split at h
      · intro y hy
        rcases List.mem_cons.1 hy with rfl | hy
        · omega
        · exact gchk_ok t _ _ h y hy
      · omega
    · omega
theorem yes{n:Nat}{es:List E3}(h:yaZ n es=0):EOk n es∧1≤n∧n≤12:=by
  unfold yaZ at h
  split at h
  · rename_i c
    exact ⟨gchk_ok es _ _ h,by omega,by omega⟩
  · omega
theorem root_side{n:Nat}{S:Nat→Bool} : ∀ (es:List E3),yfw es→(∀ x∈es,S x.1.toNat=S x.2.1.toNat)→∀ v,v<12→S (root (ya3 es) v)=S v:=by
  suffices H:∀ (l:List E3) (F:List Nat),yfw l→(∀ x∈l,S x.1.toNat=S x.2.1.toNat)→ydO F→(∀ v,v<12→S (root F v)=S v)→∀ v,v<12→S (root (l.foldl (fun F x=>ydS F x.1.toNat x.2.1.toNat) F) v)=S v by
    intro es hE hS
    refine H es yfx hE hS yft fun v hv=>?_
    rw [ydz (by rw [gn_of_lt (by simpa [yfx] using hv)];simp [yfx])]
  intro l
  induction l with
  | nil=>exact fun F _ _ _ h=>h
  | cons x l ih =>
    intro F hE hS hF h
    have hx:=hE x (by simp)
    have hSx:=hS x (by simp)
    refine ih _ (fun y hy=>hE y (by simp [hy])) (fun y hy=>hS y (by simp [hy])) (yeN hF (by omega) (by omega)) fun v hv=>?_
    rw [root_joinN hF (by omega) (by omega) v hv]
    have ha:=h x.1.toNat (by omega)
    have hb:=h x.2.1.toNat (by omega)
    split
    · rename_i e
      rw [←h v hv,e]
      rcases Nat.le_total (root F x.1.toNat) (root F x.2.1.toNat) with q | q
      · rw [Nat.max_eq_right q,Nat.min_eq_left q,ha,hb,hSx]
      · rw [Nat.max_eq_left q,Nat.min_eq_right q,ha,hb,hSx]
    · exact h v hv
theorem root_edge:∀ (es:List E3),yfw es→∀ x∈es,root (ya3 es) x.1.toNat=root (ya3 es) x.2.1.toNat:=by
  suffices H:∀ (l:List E3) (F:List Nat),yfw l→ydO F→(∀ a b,a<12→b<12→root F a=root F b→root (l.foldl (fun F x=>ydS F x.1.toNat x.2.1.toNat) F) a=root (l.foldl (fun F x=>ydS F x.1.toNat x.2.1.toNat) F) b) ∧
      ∀ x∈l,root (l.foldl (fun F x=>ydS F x.1.toNat x.2.1.toNat) F) x.1.toNat=root (l.foldl (fun F x=>ydS F x.1.toNat x.2.1.toNat) F) x.2.1.toNat from
    fun es hE=>(H es yfx hE yft).2
  intro l
  induction l with
  | nil=>exact fun F _ _=>⟨fun a b _ _ h=>h,by simp⟩
  | cons x l ih =>
    intro F hE hF
    have hx:=hE x (by simp)
    have hJ:=yeN hF (a:=x.1.toNat) (b:=x.2.1.toNat) (by omega) (by omega)
    obtain ⟨i1,i2⟩:=ih (ydS F x.1.toNat x.2.1.toNat) (fun y hy=>hE y (by simp [hy])) hJ
    have hr:=root_joinN hF (a:=x.1.toNat) (b:=x.2.1.toNat) (by omega) (by omega)
    refine ⟨fun a b ha hb h=>i1 a b ha hb (by rw [hr a ha,hr b hb,h]),fun y hy=>?_⟩
    rcases List.mem_cons.1 hy with rfl | hy
    · refine i1 _ _ (by omega) (by omega) ?_
      rw [hr _ (by omega),hr _ (by omega)]
      rcases Nat.le_total (root F y.1.toNat) (root F y.2.1.toNat) with q | q
      · rw [Nat.max_eq_right q,Nat.min_eq_left q,if_pos rfl];split <;> omega
      · rw [Nat.max_eq_left q,Nat.min_eq_right q,if_pos rfl];split <;> omega
    · exact i2 y hy
theorem nroots_one{F:List Nat}(hF:ydO F){n:Nat}(hn:1≤n)(h12:n≤12):ya6 F n=1↔∀ v,v<n→root F v=root F 0:=by
  have h0:root F 0=0:=by have:=(ye2 hF 0 (by omega)).1;omega
  constructor
  · intro h v hv
    have h1:=ye2 hF v (by omega)
    have h2:root F (root F v)=root F v:=yim hF (by omega)
    rw [h0]
    apply Nat.eq_zero_of_not_pos
    intro hpos
    have h3:=yiv F hpos h0
    have h4:=yiv F (show root F v<n by omega) h2
    omega
  · intro h
    have H:∀ k,k+1≤n→ya6 F (k+1)=1:=by
      intro k
      induction k with
      | zero=>intro _;rw [ya6,ya6,if_pos h0]
      | succ k ih =>
        intro hk
        rw [ya6,ih (by omega),if_neg]
        rw [h (k+1) (by omega),h0];omega
    obtain ⟨k,rfl⟩:∃ k,n=k+1:=⟨n-1,by omega⟩
    exact H k (Nat.le_refl _)
section
variable {n : Nat} {es : List E3} (hE : EOk n es) (hn : 1 ≤ n) (h12 : n ≤ 12)
include hE hn h12
theorem EOk.ends:yfw es:=fun x hx=>by have:=hE x hx;omega
theorem W_edge{x:E3}(hx:x∈es)(hne:x.1≠x.2.1):0<W es x.1.toNat x.2.1.toNat:=by
  have h:=hE x hx
  exact (W_adj hE).2 ⟨x.2.2,ycx.2 ⟨x,hx,hne,by omega,by omega,rfl⟩⟩
end
end Go.Proofs.YtjepipbkiadcpaaGreat

/- The walks of package reduced: what is checked first, debts, the beginning of a state. -/
namespace Go.Proofs.YtjepipbkiadcpaaGreat
open Go.RowKit Go.Proofs.Tryz
set_option maxRecDepth 100000
set_option maxHeartbeats 8000000
end Go.Proofs.YtjepipbkiadcpaaGreat

/- The package's own functions: Reduce, Lend. -/
namespace Go.Proofs.YtjepipbkiadcpaaGreat
open Go Go.Proofs.Tryz
theorem checkF_ok{d:List Int}{n:Nat}(h:yeK d n=0):d.length=n∧1≤n∧n≤12∧∀ j,j<n → -1048576≤gi d j∧gi d j≤1048576:=by
  unfold yeK vertsF at h
  by_cases c:1≤(n:Int)∧(n:Int)≤12
  · rw [if_pos c,if_pos rfl] at h
    by_cases c2:(d.length:Int)=n
    · rw [if_pos c2] at h
      by_cases c3:d.all inF=true
      · refine ⟨by omega,by omega,by omega,fun j hj=>?_⟩
        have:=(ye8 inF d).1 c3 j (by omega)
        simpa [inF] using this
      · rw [if_neg c3] at h;omega
    · rw [if_neg c2] at h;omega
  · rw [if_neg c,if_neg (by omega)] at h;omega
structure Leads(n:Nat)(es:List E3)(q:Nat)(d d' s':List Int):Prop where
  dl:d'.length=n
  sl:s'.length=n
  lp:∀ v,v<n→gi d' v=gi d v-Lp n es (gi s') v
  sq:gi s' q=0
  pos:∀ v,v<n→v≠q→0≤gi d' v
  bd:∀ v,v<n → -600000≤gi d' v∧gi d' v≤600000
  bs:∀ v,v<n → -600000≤gi s' v∧gi s' v≤600000
structure Lends(n:Nat)(es:List E3)(q:Nat)(d d' s':List Int):Prop extends Leads n es q d d' s' where
  same:(∀ v,v<n→v≠q→0≤gi d v)→d'=d
structure Reduces(n:Nat)(es:List E3)(q:Nat)(d d' s':List Int):Prop extends Leads n es q d d' s' where
  red:Red n es q d'
structure Small(n:Int)(es:List E3)(d:List Int):Prop where
  el:es.length≤40
  g:yaZ n es=0→n≤6∧(es.map (·.2.2)).sum≤9
  d:yeK d n=0→∀ v:Nat,(v:Int)<n → -200≤gi d v∧gi d v≤200
section
variable {n : Nat} {es : List E3} {q : Nat} {d0 : List Int} (hE : EOk n es) (hn : n ≤ 6) (hn1 : 1 ≤ n) (hq : q < n) (hC : Conn n es q) (hsum : (es.map (·.2.2)).sum ≤ 9) (hel : es.length ≤ 40) (hd0 : ∀ v, v < n → -200 ≤ gi d0 v ∧ gi d0 v ≤ 200) (hdl : d0.length = n)
include hE hn hn1 hq hC hsum hel hd0 hdl
end
end Go.Proofs.YtjepipbkiadcpaaGreat

/- The package's own functions: IsReduced, Unburnt. -/
namespace Go.Proofs.YtjepipbkiadcpaaGreat
open Go Go.RowKit Go.Proofs.Tryz
end Go.Proofs.YtjepipbkiadcpaaGreat

/- The chapter's examples come out right. -/
namespace Go.Proofs.YtjepipbkiadcpaaGreat
open Go Go.RowKit Go.Shelf Go.Proofs.Tryz
end Go.Proofs.YtjepipbkiadcpaaGreat

/- Plain facts on graphs that the references need: checks, weights, connectedness, sets as bits. No program in sight. -/
namespace Go.Proofs.YtjepipbkiadcpaaGreat
open Go Go.RowKit Go.Shelf Go.Proofs.Tryz
def ygf(n a b:Int)(x:E3):Int:=if (0≤x.1∧x.1<n)∧(0≤x.2.1∧x.2.1<n)∧1≤x.2.2∧x.2.2≤50 then (if x.1≤x.2.1∧ygg a b x.1 x.2.1<0 then 0 else 9) else 2
theorem ye9(n a b:Int)(x:E3)(t:List E3):gchk n a b (x::t)=if ygf n a b x=0 then gchk n x.1 x.2.1 t else ygf n a b x:=by
  rw [gchk]
  unfold ygf
  by_cases c:(0≤x.1∧x.1<n)∧(0≤x.2.1∧x.2.1<n)∧1≤x.2.2∧x.2.2≤50
  · rw [if_pos c,if_pos c]
    by_cases c2:x.1≤x.2.1∧ygg a b x.1 x.2.1<0
    · rw [if_pos c2,if_pos c2,if_pos rfl]
    · rw [if_neg c2,if_neg c2,if_neg (by omega)]
  · rw [if_neg c,if_neg c,if_neg (by omega)]
theorem pcmp_lt(a b c d:Int):ygg a b c d<0↔a<c∨(a=c∧b<d):=by
  unfold ygg orF cmpF
  by_cases h1:a<c
  · simp [h1]
  · by_cases h2:c<a
    · simp [h1,h2];omega
    · have:a=c:=by omega
      subst this
      simp
      by_cases h3:b<d
      · simp [h3]
      · by_cases h4:d<b <;> simp [h3,h4]
def pre(es:List E3)(k:Nat):Int×Int:=if k=0 then (-1, -1) else ((ge es (k-1)).1,(ge es (k-1)).2.1)
theorem yii{n:Int} : ∀ (es:List E3) (a b:Int),gchk n a b es=0→∀ x∈es,(a<x.1∨(a=x.1∧b<x.2.1))∧x.1≤x.2.1
  | [],_,_,_=>by simp
  | x::t,a,b,h=>by
    rw [ye9] at h
    by_cases h0:ygf n a b x=0
    · rw [if_pos h0] at h
      have hx:x.1≤x.2.1∧(a<x.1∨(a=x.1∧b<x.2.1)):=by
        unfold ygf at h0
        split at h0
        · split at h0
          · rename_i c;exact ⟨c.1,(pcmp_lt _ _ _ _).1 c.2⟩
          · omega
        · omega
      intro y hy
      rcases List.mem_cons.1 hy with rfl | hy
      · exact ⟨hx.2,hx.1⟩
      · have:=yii t _ _ h y hy
        omega
    · rw [if_neg h0] at h;exact absurd h h0
theorem yig{n:Int}(u v:Nat)(huv:u≠v):∀ (es:List E3) (a b:Int),gchk n a b es=0→((es.find? fun x=>decide (x.1=mnF (u:Int) v∧x.2.1=mxF (u:Int) v)).map (·.2.2)).getD 0=W es u v
  | [],_,_,_=>rfl
  | x::t,a,b,h=>by
    have hlt:=yii (x::t) a b h
    rw [ye9] at h
    by_cases h0:ygf n a b x=0
    · rw [if_pos h0] at h
      have ih:=yig u v huv t _ _ h
      have ht:=yii t _ _ h
      have hx:=(hlt x (by simp)).2
      have hmn:mnF (u:Int) v=if (u:Int)<v then (u:Int) else v:=by unfold mnF;split <;> (try split) <;> omega
      have hmx:mxF (u:Int) v=if (u:Int)<v then (v:Int) else u:=by unfold mxF;split <;> (try split) <;> omega
      rw [List.find?_cons,yhV]
      by_cases c:x.1=mnF (u:Int) v∧x.2.1=mxF (u:Int) v
      · have hnone:t.find? (fun x=>decide (x.1=mnF (u:Int) v∧x.2.1=mxF (u:Int) v))=none:=by
          rw [List.find?_eq_none]
          intro y hy
          have:=ht y hy
          simp only [decide_eq_true_eq]
          omega
        rw [hnone] at ih
        have hw:w1 x u v=x.2.2:=by
          unfold w1
          rw [if_pos]
          rw [hmn,hmx] at c
          by_cases q:(u:Int)<v
          · rw [if_pos q,if_pos q] at c;omega
          · rw [if_neg q,if_neg q] at c;omega
        rw [decide_eq_true c,hw,←ih]
        simp
      · have hw:w1 x u v=0:=by
          unfold w1
          rw [if_neg]
          intro q
          apply c
          rw [hmn,hmx]
          by_cases q2:(u:Int)<v
          · rw [if_pos q2,if_pos q2];omega
          · rw [if_neg q2,if_neg q2];omega
        rw [decide_eq_false c,hw,←ih]
        simp
    · rw [if_neg h0] at h;exact absurd h h0
theorem yeH{n:Int}{es:List E3}(h:yaZ n es=0):gchk n (-1) (-1) es=0:=by
  unfold yaZ at h
  split at h
  · exact h
  · omega
def smallF(n:Int)(es:List E3)(a b:Int):Bool:=decide (es.length≤40∧(yaZ n es=0→n≤a∧(es.map (·.2.2)).sum≤b))
theorem gb_rep(n v:Nat):gb (List.replicate n false) v=false:=by
  rcases Nat.lt_or_ge v n with h | h
  · rw [yeU (by simpa using h)];simp
  · exact gb_ge (by simpa using h)
theorem set_same{l:List Bool}{v:Nat}(h:gb l v=true):l.set v true=l:=by
  rcases Nat.lt_or_ge v l.length with hv | hv
  · rw [yeU hv] at h
    rw [←h];exact List.set_getElem_self hv
  · rw [gb_ge hv] at h;cases h
def Cl(n:Nat)(es:List E3)(o:List Bool):Prop:=∀ a b,a<n→b<n→gb o a=true→0<W es a b→gb o b=true
theorem root_W{n:Nat}{es:List E3}(hE:EOk n es)(hn:1≤n)(h12:n≤12){a b:Nat}(h:0<W es a b):root (ya3 es) a=root (ya3 es) b:=by
  obtain ⟨m,hm⟩:=(W_adj hE).1 h
  obtain ⟨x,hx,q1,q2,q3,q4⟩:=ycx.1 hm
  have h1:=root_edge es (hE.ends hn h12) x hx
  have hbx:=hE x hx
  rcases q2 with q2 | q2
  · rwa [show x.1.toNat=a by omega,show x.2.1.toNat=b by omega] at h1
  · rw [show x.1.toNat=b by omega,show x.2.1.toNat=a by omega] at h1;exact h1.symm
theorem conn_root{n:Nat}{es:List E3}(hE:EOk n es)(hn:1≤n)(h12:n≤12):yg8 n es=true↔∀ v,v<n→root (ya3 es) v=root (ya3 es) 0:=by
  have hF:=ydi es (hE.ends hn h12)
  unfold yg8
  rw [beq_iff_eq,Int.toNat_natCast]
  exact nroots_one hF hn h12
theorem cl_root{n:Nat}{es:List E3}(hE:EOk n es)(hn:1≤n)(h12:n≤12){o:List Bool}(hC:Cl n es o){v:Nat}(hv:v<n)(hvo:gb o v=true)(hs:∀ u,u<n→gb o u=true→root (ya3 es) u=root (ya3 es) v) :
    ∀ u,u<n→gb o u=decide (root (ya3 es) u=root (ya3 es) v):=by
  have hcl:∀ x∈es,gb o x.1.toNat=gb o x.2.1.toNat:=fun x hx=>by
    have hb:=hE x hx
    by_cases e:x.1=x.2.1
    · rw [e]
    · have hw:=W_edge hE hn h12 hx e
      cases h1:gb o x.1.toNat <;> cases h2:gb o x.2.1.toNat
      · rfl
      · rw [hC _ _ (by omega) (by omega) h2 (by rw [yhq];exact hw)] at h1;cases h1
      · rw [hC _ _ (by omega) (by omega) h1 hw] at h2;cases h2
      · rfl
  have hside:=root_side (n:=n) (S:=gb o) es (hE.ends hn h12) hcl
  intro u hu
  cases h:gb o u with
  | true=>exact (decide_eq_true (hs u hu h)).symm
  | false =>
    symm
    rw [decide_eq_false_iff_not]
    intro e
    have h1:=hside u (by omega)
    have h2:=hside v (by omega)
    rw [e,h2,hvo] at h1
    rw [h] at h1;cases h1
def joinedE(n:Int)(es:List E3):Int:=if yaZ n es=0 then (if yg8 n es=true then 0 else 13) else yaZ n es
end Go.Proofs.YtjepipbkiadcpaaGreat

/- Reduce of a divisor that is reduced already: it is the form, and the script is 0. -/
namespace Go.Proofs.YtjepipbkiadcpaaGreat
open Go Go.Proofs.Tryz
end Go.Proofs.YtjepipbkiadcpaaGreat

/- Pure forms of functions whose walks were proved by hand: reduced's, connect.Connected, the law's awake. -/
namespace Go.Proofs.YtjepipbkiadcpaaGreat
open Go Go.RowKit Go.Shelf Go.Proofs.Tryz
theorem sl_edges{A:Option Addr}{l cap:Nat}{es:List E3}{O:Nat→Prop}{w:World}(h:(FP.sl c3 A l cap es).P O w):l=es.length∧yhx w A es:=by
  obtain ⟨h1,h2,h3⟩:=h
  refine ⟨h1,fun h0=>?_⟩
  obtain ⟨b,off,e,hb,ho,hc⟩:=h3 h0
  refine ⟨b,off,e,hb,fun k hk=>?_⟩
  obtain ⟨vs,hv,hu⟩:=hc k _ (ydJ hk)
  have hv:vs=[.int .i64 (ge es k).1, .int .i64 (ge es k).2.1, .int .i64 (ge es k).2.2]:=hv
  subst hv
  exact ⟨hu 0 _ rfl,hu 1 _ rfl,hu 2 _ rfl⟩
theorem sep_pure{w w':World}{O:Nat→Prop}(hO:∀ k,O k→k<w.heap.size)(h:Pure w w'):Sep w no O w' (rl []):=(Sep.start w hO).pur h
section
variable {O : Nat → Prop} {w : World} {n : Int} {es : List E3} {q : Int} {d : List Int} {A : Option Addr} {l c : Nat} {D : Option Addr} {ld cd : Nat}
def yb2(n:Int)(es:List E3)(R:Bool→Int→Prop):Prop:=es.length≤1000000000∧R (decide (yaZ n es=0∧yg8 n es=true)) (yaZ n es)
theorem yd5{R:Bool→Int→Prop}(h:yb2 n es R)(hO:∀ k,O k→k<w.heap.size)(a0:(FP.sl c3 A l c es).P O w) :
    Calls Tryz.prog 72 #[.agg #[.int .i64 n, .slice A l c]] w fun e w'=>∃ r:Bool,∃ r2:Int,e = .returned (.tuple #[.bool r, .int .i64 r2])∧Sep w no O w' (rl [])∧R r r2:=by
  obtain ⟨h1,h3⟩:=h
  obtain ⟨rfl,he⟩:=sl_edges a0
  refine (connected_any A es c n w he h1).mono ?_
  rintro _ w' ⟨rfl,p⟩
  exact ⟨_,_,rfl,sep_pure hO p,h3⟩
end
end Go.Proofs.YtjepipbkiadcpaaGreat

/- Values of interface types: a method called through one, making one, asking for its type. No program in sight. -/
namespace Go.Proofs.YtjepipbkiadcpaaGreat
open Go Go.RowKit Go.Shelf Go.Proofs.Tryz
theorem n_inv{P:Program}{E:Env}{w:World}{d:Option Tmp}{ty:TypeId}{ps:String}{af:Array Edge}{g:Option (Nat×Bool)}{K:Value→World→Prop}{f:FuncId}{ats:Array TypeId}{fo:Operand}{name:String}{t:TypeId}{v rv:Value}
    (hf:evE E fo = .iface t v) (hm:(method (P.types.size+Made.depth) t v name).run P w = .ok (f,rv) w) (he:Enters P f)
    (h:Calls P f #[rv] w fun e w''=>∃ v,e = .returned v∧K v w''):ybO P ⟨d, .call ⟨.invoke fo name,#[],ats⟩,ty,ps,af,g⟩ (evE E) w K:=by
  unfold ybO execOp
  simp only [resolve,hf,Sem.run_bind,Sem.run_pure,Result.andThen,invoke,callMethod]
  have e1:(#[Value.iface t v]++Array.map (evE E) #[]) = #[Value.iface t v]:=by simp
  have e2:(#[rv]++(#[Value.iface t v]:Array Value).extract 1) = #[rv]:=by simp
  have e3 : (do
          let q ←program
          let x ←method (q.types.size+Made.depth) t v name
          callFunc x.fst (#[x.snd]++(#[Value.iface t v]:Array Value).extract 1):Sem Next).run P w = .ok (.enter f #[rv]) w:=by
    have h0:(program:Sem Program).run P w = .ok P w:=rfl
    rw [Sem.run_bind,h0]
    show Sem.run P (do
          let x ←method (P.types.size+Made.depth) t v name
          callFunc x.fst (#[x.snd]++(#[Value.iface t v]:Array Value).extract 1)) w=_
    rw [Sem.run_bind,hm]
    show Sem.run P (callFunc f (#[rv]++(#[Value.iface t v]:Array Value).extract 1)) w=_
    rw [e2];exact he _ _
  rw [e1]
  show (match Sem.run P (do
          let q ←program
          let x ←method (q.types.size+Made.depth) t v name
          callFunc x.fst (#[x.snd]++(#[Value.iface t v]:Array Value).extract 1)) w with
    | Result.ok (Next.value v) w'=>K v w'
    | Result.ok Next.skip w'=>K undef w'
    | Result.ok (Next.enter f args) w'=>Calls P f args w' fun e w''=>∃ v,e=Ending.returned v∧K v w''
    | Result.ok (Next.round l f tmps assign body) w'=>RoundIn Fence.wide 0 P l f tmps assign body w' fun e w''=>∃ v,e=Ending.returned v∧K v w''
    | x=>False)
  rw [e3]
  exact h
section
variable {P : Program} {E : Env} {w : World} {d : Option Tmp} {ty : TypeId} {ps : String} {af : Array Edge} {g : Option (Nat × Bool)} {x : Operand} {xt t a : TypeId} {v : Value} {fs : Array Field}
theorem v_mkif(hx:evE E x=v)(hu:P.underlying xt=some (.struct fs)):(execOp (evE E) ⟨d, .makeInterface xt x,ty,ps,af,g⟩).run P w = .ok (.value (.iface xt v)) w:=by
  unfold execOp
  simp only [hx,Instr.makeInterface,Sem.run_bind,Sem.run_pure,Result.andThen,run_underlying hu]
theorem v_tas_t(hx:evE E x = .iface t v)(hu:P.underlying t=some (.struct fs)):(execOp (evE E) ⟨d, .typeAssert x xt t true,ty,ps,af,g⟩).run P w = .ok (.value (.tuple #[v, .bool true])) w:=by
  unfold execOp
  simp only [hx,Instr.typeAssert,Sem.run_bind,Sem.run_pure,Result.andThen,run_underlying hu]
  simp [Sem.run_pure]
theorem v_tas_f{z:Value}{n b:Nat}(hx:evE E x = .iface t v)(hu:P.underlying a=some (.struct fs))(hne:Nat.beq t a=false)(hi:(P.info? a).map (fun i=>(i.zero,i.size,i.bytes))=some (some z,n,b)):(execOp (evE E) ⟨d, .typeAssert x xt a true,ty,ps,af,g⟩).run P w = .ok (.value (.tuple #[z, .bool false])) w:=by
  have hne:¬t=a:=fun e=>by subst e;rw [Nat.beq_refl] at hne;cases hne
  have hz:(zeroValue a).run P w = .ok z w:=by
    cases hq:P.info? a with
    | none=>rw [hq] at hi;cases hi
    | some i =>
      rw [hq] at hi
      have hzi:i.zero=some z:=by simpa using congrArg (fun o=>o.bind (·.1)) hi
      simp [zeroValue,typeInfo,hq,hzi,Sem.run_bind,Sem.run_pure,Result.andThen,go_sem]
  unfold execOp
  simp only [hx,Instr.typeAssert,Sem.run_bind,Sem.run_pure,Result.andThen,run_underlying hu]
  simp [hne,hz,Sem.run_bind,Sem.run_pure,Result.andThen]
end
end Go.Proofs.YtjepipbkiadcpaaGreat

/- Lists of pointers to variables with a queue each (lines): one line at a time is taken out and put back. No program in sight. -/
namespace Go.Proofs.YtjepipbkiadcpaaGreat
open Go Go.RowKit Go.Shelf Go.Proofs.Tryz
structure Ln where
  q:List Int
  rem:Int
  snt:Int
  fr:Int
  dst:Int
  acc:Int
instance:Inhabited Ln:=⟨⟨[],0,0,0,0,0⟩⟩
def lbF(t:TypeId)(G:List Nat)(Q:List AT)(LL:List Ln)(i:Nat):SP:=SP.box t (gx G i) [.slice (gx Q i).1 (gx Q i).2.1 (gx Q i).2.2, .int .i64 (gx LL i).rem, .int .i64 (gx LL i).snt, .int .i64 (gx LL i).fr, .int .i64 (gx LL i).dst, .int .i64 (gx LL i).acc]
def lqF(e:TypeId)(Q:List AT)(LL:List Ln)(i:Nat):SP:=SP.own (fI .i64) e (gx Q i).1 (gx Q i).2.1 (gx Q i).2.2 (gx LL i).q
def lnB(t:TypeId)(G:List Nat)(Q:List AT)(LL:List Ln):SP:=SP.star (G.length=LL.length∧Q.length=LL.length) (rgS LL.length (lbF t G Q LL))
def lnQ(e:TypeId)(Q:List AT)(LL:List Ln):SP:=SP.star (Q.length=LL.length) (rgS LL.length (lqF e Q LL))
def lnBH(t:TypeId)(G:List Nat)(Q:List AT)(LL:List Ln)(a:Nat):SP:=SP.star (G.length=LL.length∧Q.length=LL.length) ((rgS LL.length (lbF t G Q LL)).set a SP.none)
def lnQH(e:TypeId)(Q:List AT)(LL:List Ln)(a:Nat):SP:=SP.star (Q.length=LL.length) ((rgS LL.length (lqF e Q LL)).set a SP.none)
section
variable {w0 w w' : World} {S O : Nat → Prop} {L : Hold} {e t : TypeId} {G : List Nat} {Q : List AT} {LL : List Ln}
theorem Sep.lnnil(h:Sep w0 S O w L)(i:Nat)(hi:L i = .gone)(t:TypeId):Sep w0 S O w (stl L i (.sem (lnB t [] [] []))):=h.rgnil i hi ⟨rfl,rfl⟩ _
theorem Sep.lqnil(h:Sep w0 S O w L)(i:Nat)(hi:L i = .gone)(e:TypeId):Sep w0 S O w (stl L i (.sem (lnQ e [] []))):=h.rgnil i hi rfl _
theorem Sep.lnlen(h:Sep w0 S O w L)(i:Nat)(hi:L i = .sem (lnB t G Q LL)):G.length=LL.length∧Q.length=LL.length:=h.rgfact i hi
theorem Sep.lbout(h:Sep w0 S O w L)(i j:Nat)(d:Nat.beq j i=false)(hi:L i = .sem (lnB t G Q LL))(hj:L j = .gone){a:Nat}(ha:a<LL.length) :
    Sep w0 S O w (stl (stl L i (.sem (lnBH t G Q LL a))) j (.box t (gx G a) [.slice (gx Q a).1 (gx Q a).2.1 (gx Q a).2.2, .int .i64 (gx LL a).rem, .int .i64 (gx LL a).snt, .int .i64 (gx LL a).fr, .int .i64 (gx LL a).dst, .int .i64 (gx LL a).acc])):=by
  have h2:=(h.rgout i j d hi hj ha).sembox j (yaS _ _ _)
  rw [ydY] at h2
  exact h2
theorem Sep.lqout(h:Sep w0 S O w L)(i j:Nat)(d:Nat.beq j i=false)(hi:L i = .sem (lnQ e Q LL))(hj:L j = .gone){a:Nat}(ha:a<LL.length) :
    Sep w0 S O w (stl (stl L i (.sem (lnQH e Q LL a))) j (.own cI e (gx Q a).1 (gx Q a).2.1 (gx Q a).2.2 (gx LL a).q)):=by
  have h2:=(h.rgout i j d hi hj ha).semown j (yaS _ _ _)
  rw [ydY] at h2
  exact h2
theorem Sep.lbin(h:Sep w0 S O w L)(i j:Nat)(d:Nat.beq j i=false){a:Nat}(hi:L i = .sem (lnBH t G Q LL a)){A:Option Addr}{l c:Nat}{x:Ln}(hj:L j = .box t (gx G a) [.slice A l c, .int .i64 x.rem, .int .i64 x.snt, .int .i64 x.fr, .int .i64 x.dst, .int .i64 x.acc])(ha:a<LL.length) :
    Sep w0 S O w (stl (stl L j .gone) i (.sem (lnB t G (Q.set a (A,l,c)) (LL.set a x)))):=by
  have hij:j≠i:=ydC d
  have hQ:G.length=LL.length∧Q.length=LL.length:=h.rgfact i hi
  have h1:=h.boxsem j hj
  have hi1:=(yaJ L (.sem (SP.box t (gx G a) [.slice A l c, .int .i64 x.rem, .int .i64 x.snt, .int .i64 x.fr, .int .i64 x.dst, .int .i64 x.acc])) (fun q=>hij q.symm:i≠j)).trans hi
  have h2:=h1.rgin i j d (p':=G.length=(LL.set a x).length∧(Q.set a (A,l,c)).length=(LL.set a x).length) (fun q=>by rw [List.length_set,List.length_set];exact q) hi1 (yaS _ _ _)
    (F':=lbF t G (Q.set a (A,l,c)) (LL.set a x)) (by unfold lbF;rw [ybm (by omega),ybm (by omega),if_pos rfl,if_pos rfl])
    (fun b hb hne=>by unfold lbF;rw [ybm (by omega),ybm (by omega),if_neg hne,if_neg hne])
  rw [ydY] at h2
  have e1:lnB t G (Q.set a (A,l,c)) (LL.set a x)=SP.star (G.length=(LL.set a x).length∧(Q.set a (A,l,c)).length=(LL.set a x).length) (rgS LL.length (lbF t G (Q.set a (A,l,c)) (LL.set a x))):=by
    have hlen:(LL.set a x).length=LL.length:=List.length_set
    unfold lnB;rw [hlen]
  rw [e1];exact h2
theorem Sep.lqin(h:Sep w0 S O w L)(i j:Nat)(d:Nat.beq j i=false){a:Nat}(hi:L i = .sem (lnQH e Q LL a)){A:Option Addr}{l c:Nat}{x:Ln}(hj:L j = .own cI e A l c x.q)(ha:a<LL.length) :
    Sep w0 S O w (stl (stl L j .gone) i (.sem (lnQ e (Q.set a (A,l,c)) (LL.set a x)))):=by
  have hij:j≠i:=ydC d
  have hQ:Q.length=LL.length:=h.rgfact i hi
  have h1:=h.ownsem j (f:=fI .i64) hj
  have hi1:stl L j (.sem (SP.own (fI .i64) e A l c x.q)) i = .sem (lnQH e Q LL a):=by rw [yaJ _ _ (fun q=>hij q.symm),hi]
  have h2:=h1.rgin i j d (p':=(Q.set a (A,l,c)).length=(LL.set a x).length) (fun q=>by rw [List.length_set,List.length_set];exact q) hi1 (yaS _ _ _)
    (F':=lqF e (Q.set a (A,l,c)) (LL.set a x)) (by unfold lqF;rw [ybm (by omega),ybm (by omega),if_pos rfl,if_pos rfl])
    (fun b hb hne=>by unfold lqF;rw [ybm (by omega),ybm (by omega),if_neg hne,if_neg hne])
  rw [ydY] at h2
  have e1:lnQ e (Q.set a (A,l,c)) (LL.set a x)=SP.star ((Q.set a (A,l,c)).length=(LL.set a x).length) (rgS LL.length (lqF e (Q.set a (A,l,c)) (LL.set a x))):=by
    have hlen:(LL.set a x).length=LL.length:=List.length_set
    unfold lnQ;rw [hlen]
  rw [e1];exact h2
end
def fLp(G:List Nat):Fl Nat:=⟨1,fun i=>[.pointer (some ⟨gx G i,0,none⟩)],fun _=>rfl,fun x u hu=>by rw [List.mem_singleton] at hu;subst hu;rfl⟩
inductive Pk where
  | lt (i:Nat) (n k:Int)
  | rc (i:Nat) (n:Int)
instance:Inhabited Pk:=⟨.rc 0 0⟩
def pkV(t1 t2:TypeId)(G:List Nat):Pk→Value
  | .lt i n k => .iface t1 (.agg #[.pointer (some ⟨gx G i,0,none⟩), .int .i64 n, .int .i64 k])
  | .rc i n => .iface t2 (.agg #[.pointer (some ⟨gx G i,0,none⟩), .int .i64 n])
def fPk(t1 t2:TypeId)(G:List Nat):Fl Pk:=⟨1,fun x=>[pkV t1 t2 G x],fun _=>rfl,fun x u hu=>by rw [List.mem_singleton] at hu;subst hu;cases x <;> rfl⟩
section
variable {w0 w w' : World} {S O : Nat → Prop} {L : Hold} {e t : TypeId} {G : List Nat} {Q : List AT} {LL : List Ln}
theorem Sep.lbadd(h:Sep w0 S O w L)(i j:Nat)(d:Nat.beq j i=false)(hi:L i = .sem (lnB t G Q LL)){g:Nat}{A:Option Addr}{l c:Nat}{x:Ln}(hj:L j = .box t g [.slice A l c, .int .i64 x.rem, .int .i64 x.snt, .int .i64 x.fr, .int .i64 x.dst, .int .i64 x.acc]) :
    Sep w0 S O w (stl (stl L j .gone) i (.sem (lnB t (G++[g]) (Q++[(A,l,c)]) (LL++[x])))):=by
  have hij:j≠i:=ydC d
  have hQ:G.length=LL.length∧Q.length=LL.length:=h.rgfact i hi
  have h1:=h.boxsem j hj
  have hi1:=(yaJ L (.sem (SP.box t g [.slice A l c, .int .i64 x.rem, .int .i64 x.snt, .int .i64 x.fr, .int .i64 x.dst, .int .i64 x.acc])) (fun q=>hij q.symm:i≠j)).trans hi
  have h2:=h1.rgadd i j d (p':=(G++[g]).length=(LL++[x]).length∧(Q++[(A,l,c)]).length=(LL++[x]).length) (fun q=>by simp [q.1,q.2]) hi1 (yaS _ _ _)
    (F':=lbF t (G++[g]) (Q++[(A,l,c)]) (LL++[x])) (by unfold lbF;rw [yeg,yeg,yeg];simp [hQ.1,hQ.2])
    (fun b hb=>by unfold lbF;rw [yeg,yeg,yeg];simp [hQ.1,hQ.2,hb])
  rw [ydY] at h2
  have e1:lnB t (G++[g]) (Q++[(A,l,c)]) (LL++[x])=SP.star ((G++[g]).length=(LL++[x]).length∧(Q++[(A,l,c)]).length=(LL++[x]).length) (rgS (LL.length+1) (lbF t (G++[g]) (Q++[(A,l,c)]) (LL++[x]))):=by
    have hlen:(LL++[x]).length=LL.length+1:=by rw [List.length_append];rfl
    unfold lnB;rw [hlen]
  rw [e1];exact h2
theorem Sep.lqadd(h:Sep w0 S O w L)(i j:Nat)(d:Nat.beq j i=false)(hi:L i = .sem (lnQ e Q LL)){A:Option Addr}{l c:Nat}{x:Ln}(hj:L j = .own cI e A l c x.q) :
    Sep w0 S O w (stl (stl L j .gone) i (.sem (lnQ e (Q++[(A,l,c)]) (LL++[x])))):=by
  have hij:j≠i:=ydC d
  have hQ:Q.length=LL.length:=h.rgfact i hi
  have h1:=h.ownsem j (f:=fI .i64) hj
  have hi1:stl L j (.sem (SP.own (fI .i64) e A l c x.q)) i = .sem (lnQ e Q LL):=by rw [yaJ _ _ (fun q=>hij q.symm),hi]
  have h2:=h1.rgadd i j d (p':=(Q++[(A,l,c)]).length=(LL++[x]).length) (fun q=>by simp [q]) hi1 (yaS _ _ _)
    (F':=lqF e (Q++[(A,l,c)]) (LL++[x])) (by unfold lqF;rw [yeg,yeg];simp [hQ])
    (fun b hb=>by unfold lqF;rw [yeg,yeg];simp [hQ,hb])
  rw [ydY] at h2
  have e1:lnQ e (Q++[(A,l,c)]) (LL++[x])=SP.star ((Q++[(A,l,c)]).length=(LL++[x]).length) (rgS (LL.length+1) (lqF e (Q++[(A,l,c)]) (LL++[x]))):=by
    have hlen:(LL++[x]).length=LL.length+1:=by rw [List.length_append];rfl
    unfold lnQ;rw [hlen]
  rw [e1];exact h2
theorem Sep.lpgrow(h:Sep w0 S O w L)(j:Nat){A:Option Addr}{l c:Nat}{xs:List Nat}(hj:L j = .own (fLp G).cod e A l c xs)(g:Nat)(hx:∀ x∈xs,x<G.length):Sep w0 S O w (stl L j (.own (fLp (G++[g])).cod e A l c xs)):=by
  refine h.one j (fun k hk=>by rw [hj];exact hk) ?_
  have:=h.ok j
  rw [hj] at this
  obtain ⟨hl,cells,ho,hc⟩:=this
  refine ⟨hl,cells,ho,fun k x hk=>?_⟩
  obtain ⟨vs,hR,hu⟩:=hc k x hk
  refine ⟨vs,?_,hu⟩
  have hR:vs=[.pointer (some ⟨gx G x,0,none⟩)]:=hR
  show vs=[.pointer (some ⟨gx (G++[g]) x,0,none⟩)]
  rw [yeg,if_pos (hx x (List.mem_of_getElem? hk))]
  exact hR
end
end Go.Proofs.YtjepipbkiadcpaaGreat

/- Lines once more: a line that was only read goes back, the first letters are cut off, the number of a new pointer. No program in sight. -/
namespace Go.Proofs.YtjepipbkiadcpaaGreat
open Go Go.RowKit Go.Shelf Go.Proofs.Tryz
theorem slA_blk{A:Option Addr}{c k sz b:Nat}(h:(slA A c k sz).map (·.block)=some b):A.map (·.block)=some b:=by
  unfold slA at h
  split at h
  · exact h
  · cases A with
    | none=>cases h
    | some a =>
      rw [←h,Option.map_map]
      simp only [Option.map_some,Function.comp]
      unfold Addr.add
      split <;> rfl
theorem OwnS.dropS{w:World}{B:Nat}{e:TypeId}{sz:Nat}{A:Option Addr}{l c:Nat}{xs:List Value}(h:OwnS w B e sz A l c xs){k:Nat}(hk:k≤l):OwnS w B e sz (slA A c k sz) (l-k) (c-k) (xs.drop (k*sz)):=by
  refine ⟨by rw [List.length_drop,h.1,Nat.sub_mul],?_⟩
  rcases h.2 with ⟨rfl,rfl,rfl⟩ | ⟨g,o,cur,rfl,hb,hg,h1,h2,h3,h4⟩
  · have:k=0:=by omega
    subst this
    exact .inl ⟨rfl,rfl,rfl⟩
  · have hlen:k*sz≤l*sz:=Nat.mul_le_mul_right _ hk
    by_cases e1:c=k
    · have e2:l=k:=by omega
      refine .inr ⟨g,o,cur,by unfold slA;rw [if_pos e1],hb,hg,by omega,by omega,by rw [show c-k=0 by omega];simp;omega,?_⟩
      rw [show l-k=0 by omega,Nat.zero_mul,List.take_zero,List.drop_eq_nil_of_le (by rw [h.1,e2];exact Nat.le_refl _)]
    · refine .inr ⟨g,o+k*sz,cur,by unfold slA;rw [if_neg e1];simp [Addr.add_mid],hb,hg,by omega,by omega,?_,?_⟩
      · have:(c-k)*sz=c*sz-k*sz:=Nat.sub_mul _ _ _
        have h5:k*sz≤c*sz:=Nat.mul_le_mul_right _ (by omega)
        omega
      · rw [←h4,List.drop_take,List.drop_drop,Nat.sub_mul]
theorem fcl{O:Nat→Prop}{w:World}{a:Addr}{j:Nat}{v:Value}(hno:¬O a.block)(hc:w.cell? (a.add j)=some v):(FP.cl (a.add j) v).P O w:=by
  refine ⟨?_,hc⟩
  have e:(a.add j).block=a.block:=by unfold Addr.add;split <;> rfl
  rw [e];exact hno
theorem yhg{O:Nat→Prop}{w:World}{L:Hold}{Ψ Φ:FP}(h:Ψ.P (Bl O L) w){i:Nat}(hi:L i = .gone):Ψ.P (Bl O (stl L i (.ro Φ))) w:=Ψ.sub h fun k _ hk=>Bl.add_ro hi rfl k hk
theorem pk_all{t1 t2:TypeId}{G:List Nat}{x:Pk}{n:Int} : (#[pkV t1 t2 G x,Value.int .i64 n].toList.all (·.oneCell'))=true:=by cases x <;> rfl
section
variable {w0 w w' : World} {S O : Nat → Prop} {L : Hold} {e t : TypeId} {G : List Nat} {Q : List AT} {LL : List Ln}
theorem Sep.cutl{τ:Type}(h:Sep w0 S O w L)(i:Nat){c:Cod τ}{e:TypeId}{A:Option Addr}{l cap:Nat}{xs:List τ}(hi:L i = .own c e A l cap xs){k:Int}(hk:0≤k∧k≤((xs.length:Nat):Int)) :
    Sep w0 S O w (stl L i (.own c e (slA A cap k.toNat c.sz) (l-k.toNat) (cap-k.toNat) (xs.drop k.toNat))):=by
  have hs:=Bl.sub_ro (L:=L) (O:=O) (i:=i) (r := .own c e (slA A cap k.toNat c.sz) (l-k.toNat) (cap-k.toNat) (xs.drop k.toNat)) (fun b hb=>by rw [hi];exact slA_blk hb)
  refine h.one i (fun b hb=>by rw [hi];exact slA_blk hb) ?_
  have:=h.ok i
  rw [hi] at this
  obtain ⟨hl,cells,ho,hc⟩:=this
  refine ⟨by rw [List.length_drop,hl],_,ho.dropS (by omega),fun j x hx=>?_⟩
  rw [List.getElem?_drop] at hx
  obtain ⟨vs,hR,hu⟩:=hc _ x hx
  refine ⟨vs,c.sub hR (fun b _ hb=>hs b hb),fun q u hq=>?_⟩
  have h1:=hu q u hq
  rw [List.getElem?_drop,←h1,Nat.add_mul,Nat.add_assoc]
theorem Sep.lbback(h:Sep w0 S O w L)(i j:Nat)(d:Nat.beq j i=false){a:Nat}(hi:L i = .sem (lnBH t G Q LL a))(hj:L j = .box t (gx G a) [.slice (gx Q a).1 (gx Q a).2.1 (gx Q a).2.2, .int .i64 (gx LL a).rem, .int .i64 (gx LL a).snt, .int .i64 (gx LL a).fr, .int .i64 (gx LL a).dst, .int .i64 (gx LL a).acc])(ha:a<LL.length) :
    Sep w0 S O w (stl (stl L j .gone) i (.sem (lnB t G Q LL))):=by
  have h1:=h.lbin i j d hi (x:=gx LL a) hj ha
  have e1:((gx Q a).1,(gx Q a).2.1,(gx Q a).2.2)=gx Q a:=rfl
  rw [e1,yfv,yfv] at h1
  exact h1
theorem Sep.lqback(h:Sep w0 S O w L)(i j:Nat)(d:Nat.beq j i=false){a:Nat}(hi:L i = .sem (lnQH e Q LL a))(hj:L j = .own cI e (gx Q a).1 (gx Q a).2.1 (gx Q a).2.2 (gx LL a).q)(ha:a<LL.length) :
    Sep w0 S O w (stl (stl L j .gone) i (.sem (lnQ e Q LL))):=by
  have h1:=h.lqin i j d hi (x:=gx LL a) hj ha
  have e1:((gx Q a).1,(gx Q a).2.1,(gx Q a).2.2)=gx Q a:=rfl
  rw [e1,yfv,yfv] at h1
  exact h1
theorem Sep.lpnew(h:Sep w0 S O w L)(i:Nat){g:Nat}{x:Ln}(hi:L i = .sem (lnB t (G++[g]) Q (LL++[x]))):Value.pointer (some ⟨g,0,none⟩)=Value.pointer (some ⟨gx (G++[g]) LL.length,0,none⟩):=by
  have h1:=(h.lnlen i hi).1
  have h2:G.length=LL.length:=by simpa using h1
  rw [yeg,if_neg (by omega),if_pos h2.symm]
end
end Go.Proofs.YtjepipbkiadcpaaGreat

/- Iterators that hand over slices: what is yielded is a pure thing and addresses. No program in sight. -/
namespace Go.Proofs.YtjepipbkiadcpaaGreat
open Go Go.RowKit Go.Shelf Go.Proofs.Tryz
def FP.and(a b:FP):FP :=
  ⟨fun O w=>a.P O w∧b.P O w,fun ⟨h1,h2⟩ hk=>⟨a.keep h1 hk,b.keep h2 hk⟩,fun ⟨h1,h2⟩ hs=>⟨a.sub h1 hs,b.sub h2 hs⟩⟩
structure SessP(P:Program)(l:Nat){α β:Type}(enc:α→β→Array Value)(pass:α→β→FP)(Pr:List α→Prop)(J Jx:BS→BS→List α→World→Prop):Prop where
  gen:GenOk J
  genx:GenOk Jx
  two:TwoOk J
  twox:TwoOk Jx
  yld:∀ {T G:BS} {pre:List α} {x:α} {b:β} {W:World},J T G pre W→Pr (pre++[x])→(pass x b).P (fun k=>T k∨G k) W →
    YieldAt Fence.wide 1 P l (enc x b) W fun e W'=>∃ T',RK T W T' W'∧((e = .returned (.bool true)∧J T' G (pre++[x]) W')∨(e = .returned (.bool false)∧Jx T' G (pre++[x]) W'))
section
variable {P : Program} {l : Nat} {α β : Type} {val : α → β → Array Value} {pass : α → β → FP} {Pr : List α → Prop} {J Jx : BS → BS → List α → World → Prop}
end
end Go.Proofs.YtjepipbkiadcpaaGreat
