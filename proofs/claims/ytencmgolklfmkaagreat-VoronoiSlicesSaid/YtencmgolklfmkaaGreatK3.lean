/- Texts laid together: Tab, Cnt, Opn, Opn2. -/
import Derived.Test.YtencmgolklfmkaaGreatRows
import Derived.ProofKit
import Derived.Lib.SmallJoins
import Derived.Deep.Slices
import Derived.Below
import Derived.OpenShut
import Derived.Test.YtencmgolklfmkaaGreatK2
set_option linter.unusedVariables false
set_option linter.unusedSimpArgs false
set_option linter.unusedSectionVars false
/- A table whose rows are slices of one's own: the outer slice holds their addresses, the rows are one thing. No program in sight. -/
namespace Go.Proofs.YtencmgolklfmkaaGreat
open Go Go.RowKit Go.Shelf Go.Proofs.Tryz
theorem tn_lt{a:Int}{n:Nat}(h:0≤a∧a<(n:Int)):a.toNat<n:=by omega
def fA:Fl (Option Addr×Nat×Nat):=⟨1,fun x=>[.slice x.1 x.2.1 x.2.2],fun _=>rfl,fun x u hu=>by rw [List.mem_singleton] at hu;subst hu;rfl⟩
def cA:Cod (Option Addr×Nat×Nat):=fA.cod
def rowH(g:Nat)(xs:List Int):Option Addr×Nat×Nat:=(some ⟨g,0,none⟩,xs.length,xs.length)
def ows(G:List Nat)(T:List (List Int)):List (Option Addr×Nat×Nat):=List.zipWith rowH G T
def rowA(G:List Nat)(a:Int):Option Addr:=some ⟨G.getD a.toNat 0,0,none⟩
theorem ows_len{G:List Nat}{T:List (List Int)}(h:G.length=T.length):(ows G T).length=T.length:=by simp [ows,h]
theorem ows_get{G:List Nat}{T:List (List Int)}{k g:Nat}{xs:List Int}(hg:G[k]? = some g)(hx:T[k]? = some xs):(ows G T)[k]? = some (rowH g xs):=by
  simp [ows,List.getElem?_zipWith,hg,hx]
theorem ows_snoc{G:List Nat}{T:List (List Int)}(h:G.length=T.length)(g:Nat)(xs:List Int):ows (G++[g]) (T++[xs])=ows G T++[rowH g xs]:=by
  unfold ows
  rw [List.zipWith_append h];rfl
theorem ows_set{G:List Nat}{T:List (List Int)}{a:Nat}{xs ys:List Int}(hx:T[a]? = some xs)(hl:ys.length=xs.length):ows G (T.set a ys)=ows G T:=by
  apply List.ext_getElem?
  intro k
  simp only [ows,List.getElem?_zipWith,List.getElem?_set]
  by_cases hk:a=k
  · subst hk
    have:a<T.length:=(List.getElem?_eq_some_iff.1 hx).1
    rw [hx]
    cases G[a]? <;> simp [this,rowH,hl]
  · simp [hk]
section
variable {w0 w w' : World} {S O : Nat → Prop} {L : Hold} {e e2 : TypeId} {G : List Nat} {T : List (List Int)}
theorem Sep.rowsl(h:Sep w0 S O w L)(i:Nat)(hi:L i = .rows e G T):G.length=T.length:=by
  have:=h.ok i;rw [hi] at this;exact this.2.1
theorem Sep.rowsnil(h:Sep w0 S O w L)(i:Nat)(hi:L i = .gone)(e:TypeId):Sep w0 S O w (stl L i (.rows e [] [])) :=
  h.add i hi _ (Keeps.refl _ _) (fun k hk=>by cases hk) ⟨List.nodup_nil,rfl,fun k g xs hg=>by simp at hg⟩
theorem Sep.rowadd(h:Sep w0 S O w L)(i j:Nat)(hij:Nat.beq i j=false)(hi:L i = .rows e G T){g l:Nat}{xs:List Int}(hj:L j = .own cI e (some ⟨g,0,none⟩) l l xs):Sep w0 S O w (stl (stl L j .gone) i (.rows e (G++[g]) (T++[xs]))):=by
  have hij:i≠j:=fun q=>by subst q;simp at hij
  have hri:=h.ok i
  rw [hi] at hri
  have hrj:=h.own j hj
  have hgG:g∉G:=fun hm=>hij (h.nd i j g (by rw [hi];exact hm) (by rw [hj];exact rfl))
  have hl:l=xs.length:=hrj.1
  have hsub:∀ k,Bl O (stl (stl L j .gone) i (.rows e (G++[g]) (T++[xs]))) k→Bl O L k:=by
    rintro k (q | ⟨x,hx⟩)
    · exact .inl q
    · by_cases e1:x=i
      · subst e1
        rw [yaH] at hx
        rcases List.mem_append.1 hx with q | q
        · exact .inr ⟨x,by rw [hi];exact q⟩
        · rw [List.mem_singleton] at q;subst q;exact .inr ⟨j,by rw [hj];exact rfl⟩
      · rw [yau _ _ e1] at hx
        by_cases e2:x=j
        · subst e2;rw [yaH] at hx;cases hx
        · rw [yau _ _ e2] at hx;exact .inr ⟨x,hx⟩
  have hhas:∀ x k,(stl (stl L j .gone) i (.rows e (G++[g]) (T++[xs])) x).has k→(x=i∧(k∈G∨k=g))∨(x≠i∧x≠j∧(L x).has k):=by
    intro x k hx
    by_cases e1:x=i
    · subst e1
      rw [yaH] at hx
      refine .inl ⟨rfl,?_⟩
      rcases List.mem_append.1 hx with q | q
      · exact .inl q
      · exact .inr (List.mem_singleton.1 q)
    · rw [yau _ _ e1] at hx
      by_cases e2:x=j
      · subst e2;rw [yaH] at hx;cases hx
      · rw [yau _ _ e2] at hx;exact .inr ⟨e1,e2,hx⟩
  refine h.step (T:=no) (Keeps.refl _ _) (fun _ _ h=>h.elim) (fun x k hk => .inl ?_) (fun x=>?_) (fun a b k ha hb=>?_)
  · rcases hhas x k hk with ⟨rfl,q | rfl⟩ | ⟨_,_,q⟩
    · exact ⟨x,by rw [hi];exact q⟩
    · exact ⟨j,by rw [hj];exact rfl⟩
    · exact ⟨x,q⟩
  · by_cases e1:x=i
    · subst e1
      rw [yaH]
      refine .inr ⟨?_,by simp [hri.2.1],fun k g' xs' hg' hx'=>?_⟩
      · rw [List.nodup_append]
        refine ⟨hri.1,by simp,fun a ha b hb=>?_⟩
        rw [List.mem_singleton] at hb;subst hb
        exact fun q=>hgG (q▸ha)
      · have hfl:∀ {O1 O2:Nat→Prop} {A:Option Addr} {l c:Nat} {xs:List Int},OwnC cI 0 O1 w e A l c xs→OwnC cI 0 O2 w e A l c xs:=fun ⟨a,cells,b,c⟩=>⟨a,cells,b,c⟩
        rcases Nat.lt_or_ge k G.length with q | q
        · rw [List.getElem?_append_left q] at hg'
          rw [List.getElem?_append_left (by rw [←hri.2.1];exact q)] at hx'
          exact hfl (hri.2.2 k g' xs' hg' hx')
        · rw [List.getElem?_append_right q] at hg'
          rw [List.getElem?_append_right (by rw [←hri.2.1];exact q)] at hx'
          have hk0:k-G.length=0:=by
            have:=(List.getElem?_eq_some_iff.1 hg').1
            simp at this;omega
          have hk1:k-T.length=0:=by rw [←hri.2.1];exact hk0
          rw [hk0] at hg';rw [hk1] at hx'
          simp at hg' hx'
          subst hg';subst hx'
          have:=hfl (O2:=Bl O (stl (stl L j .gone) x (.rows e (G++[g]) (T++[xs])))) hrj
          rw [hl] at this
          exact this
    · rw [yau _ _ e1]
      by_cases e2:x=j
      · subst e2;rw [yaH];exact .inr trivial
      · rw [yau _ _ e2];exact .inl ⟨x,rfl,fun _ _=>id⟩
  · rcases hhas a k ha with ⟨rfl,qa⟩ | ⟨a1,a2,qa⟩
    · rcases hhas b k hb with ⟨rfl,qb⟩ | ⟨b1,b2,qb⟩
      · rfl
      · rcases qa with qa | rfl
        · exact absurd (h.nd a b k (by rw [hi];exact qa) qb).symm b1
        · exact absurd (h.nd j b k (by rw [hj];exact rfl) qb).symm b2
    · rcases hhas b k hb with ⟨rfl,qb⟩ | ⟨b1,b2,qb⟩
      · rcases qb with qb | rfl
        · exact absurd (h.nd a b k qa (by rw [hi];exact qb)) a1
        · exact absurd (h.nd a j k qa (by rw [hj];exact rfl)) a2
      · exact h.nd a b k qa qb
theorem Sep.rowown(h:Sep w0 S O w L)(i:Nat)(hi:L i = .rows e G T){a:Int}(ha:0≤a∧a<(T.length:Int)):OwnC cI 0 (Bl O L) w e (rowA G a) (gx T a.toNat).length (gx T a.toNat).length (gx T a.toNat):=by
  have hri:=h.ok i
  rw [hi] at hri
  have h1:a.toNat<T.length:=by omega
  have h2:a.toNat<G.length:=by rw [hri.2.1];exact h1
  have:=hri.2.2 a.toNat G[a.toNat] (gx T a.toNat) (List.getElem?_eq_getElem h2) (ycO h1)
  have e:rowA G a=some ⟨G[a.toNat],0,none⟩:=by simp [rowA,h2]
  rw [e];exact this
theorem Sep.rowfp(h:Sep w0 S O w L)(i:Nat)(hi:L i = .rows e G T){a:Int}(ha:0≤a∧a<(T.length:Int)):(FP.sl cI (rowA G a) (gx T a.toNat).length (gx T a.toNat).length (gx T a.toNat)).P no w :=
  (h.rowown i hi ha).rd (fun _ _ h=>h.elim) fun _ _=>id
theorem Sep.rowcell(h:Sep w0 S O w L)(i j:Nat)(hi:L i = .rows e G T){A:Option Addr}{l cap:Nat}(hj:L j = .own cA e2 A l cap (ows G T)){a:Int}(ha:0≤a∧a<(T.length:Int)):w.cell? (ixA A a 1)=some (.slice (rowA G a) (gx T a.toNat).length (gx T a.toNat).length):=by
  have hl:=h.rowsl i hi
  have h1:a.toNat<T.length:=by omega
  have h2:a.toNat<G.length:=by omega
  have:=rd_1 (f:=fA) (h.rdo j hj) (i:=a) (by rw [ows_len hl];exact ha) (x:=rowH G[a.toNat] (gx T a.toNat)) (fun _=>ows_get (List.getElem?_eq_getElem h2) (ycO h1)) (u := .slice (rowA G a) (gx T a.toNat).length (gx T a.toNat).length) (by simp [fA,rowH,rowA,h2])
  exact this
theorem Sep.rowix(h:Sep w0 S O w L)(i j:Nat)(hi:L i = .rows e G T){A:Option Addr}{l cap:Nat}(hj:L j = .own cA e2 A l cap (ows G T)){a:Int}(ha:0≤a∧a<(T.length:Int)):Ix A l a :=
  yaB (h.rdo j hj) (by rw [ows_len (h.rowsl i hi)];exact ha)
theorem Sep.rowwr(h:Sep w0 S O w L)(i:Nat)(hi:L i = .rows e G T){a:Int}(ha:0≤a∧a<(T.length:Int)){b:Int}(hb:0≤b∧b<((gx T a.toNat).length:Int)):Wr w (ixA (rowA G a) b 1):=by
  obtain ⟨hl,cells,ho,hE⟩:=h.rowown i hi ha
  obtain ⟨vs,hR,hu⟩:=hE b.toNat (gx T a.toNat)[b.toNat] (List.getElem?_eq_getElem (by omega))
  have hv:=cI.len hR
  obtain ⟨v,rfl⟩:=List.length_eq_one_iff.1 hv
  obtain ⟨g,o,hA,_,h1,h2⟩:=ho.cellAt (hu 0 v rfl)
  have ho0:o=0∧G.getD a.toNat 0=g:=by unfold rowA at hA;injection hA with hA;injection hA with q1 q2;exact ⟨q2.symm,q1⟩
  unfold rowA
  rw [yf5,ho0.2]
  rw [ho0.1] at h1 h2
  have hsz:cI.sz=1:=rfl
  rw [hsz,Nat.add_zero] at h1 h2
  exact ⟨by rw [h1];rfl,h2⟩
theorem Sep.rowst(h:Sep w0 S O w L)(i:Nat)(hi:L i = .rows e G T){a:Int}(ha:0≤a∧a<(T.length:Int)){b:Int}(hb:0≤b∧b<((gx T a.toNat).length:Int))(v:Int)(e1:w'=w.setCell (ixA (rowA G a) b 1) (.int .i64 v)):Sep w0 S O w' (stl L i (.rows e G (T.set a.toNat ((gx T a.toNat).set b.toNat v)))):=by
  have hri:=h.ok i
  rw [hi] at hri
  have h1:a.toNat<T.length:=by omega
  have h2:a.toNat<G.length:=by rw [hri.2.1];exact h1
  have hA:rowA G a=some ⟨G[a.toNat],0,none⟩:=by simp [rowA,h2]
  rw [hA,yf5,Nat.mul_one,Nat.zero_add] at e1
  have hK:Keeps (fun j=>j=G[a.toNat]) w w':=by rw [e1];exact (Keeps.refl (fun j=>j=G[a.toNat]) w).setCell (p:=⟨G[a.toNat],b.toNat,none⟩) (fun _=>rfl) _
  refine h.upd i _ hK (fun j _ hj=>by rw [hi,hj];exact List.getElem_mem h2) (fun j hj => .inl (by rw [hi];exact hj)) ⟨hri.1,by rw [List.length_set];exact hri.2.1,fun k g xs hg hx=>?_⟩
  by_cases q:a.toNat=k
  · subst q
    rw [List.getElem?_set,if_pos rfl,if_pos h1] at hx
    rw [List.getElem?_eq_getElem h2] at hg
    cases hg;cases hx
    obtain ⟨hl,cells,ho,hE⟩:=hri.2.2 a.toNat G[a.toNat] (gx T a.toNat) (List.getElem?_eq_getElem h2) (ycO h1)
    have hbl:b.toNat<(gx T a.toNat).length:=by omega
    have hcl:cells.length=(gx T a.toNat).length:=by rw [ho.1];exact Nat.mul_one _
    have ho2:=ho.set1 (i:=b.toNat) (by omega) (.int .i64 v) rfl
    refine ⟨rfl,cells.set b.toNat (.int .i64 v),?_,fun t y hy=>?_⟩
    · rw [e1,List.length_set]
      simpa using ho2
    · rw [List.getElem?_set] at hy
      by_cases q2:b.toNat=t
      · subst q2
        rw [if_pos rfl,if_pos hbl] at hy
        cases hy
        refine ⟨[.int .i64 v],rfl,fun s u hs=>?_⟩
        have hs0:s=0:=by
          have:=(List.getElem?_eq_some_iff.1 hs).1
          simp at this;exact this
        subst hs0
        simp at hs
        subst hs
        show (cells.set b.toNat _)[b.toNat*1+0]? = _
        rw [Nat.mul_one,Nat.add_zero,List.getElem?_set,if_pos rfl,if_pos (by omega)]
      · rw [if_neg q2] at hy
        obtain ⟨vs,hR,hu⟩:=hE t y hy
        refine ⟨vs,hR,fun s u hs=>?_⟩
        have hs0:s=0:=by
          have:=(List.getElem?_eq_some_iff.1 hs).1
          have hv:vs.length=1:=cI.len hR
          omega
        have:=hu s u hs
        rw [List.getElem?_set,if_neg (by show ¬b.toNat=t*1+s;omega)]
        exact this
  · rw [List.getElem?_set,if_neg q] at hx
    obtain ⟨hl,cells,ho,hE⟩:=hri.2.2 k g xs hg hx
    have hne:g≠G[a.toNat]:=fun e=>q (by
      obtain ⟨hk,e2⟩:=List.getElem?_eq_some_iff.1 hg
      exact ((List.getElem_inj hri.1).1 (e2.trans e)).symm)
    exact ⟨hl,cells,ho.keep_ fun k' hk=>by cases hk;exact hK.block g (ho.at_ rfl).2 hne,fun t y hy=>hE t y hy⟩
theorem Sep.rowre(h:Sep w0 S O w L)(j:Nat){A:Option Addr}{l cap:Nat}(hj:L j = .own cA e2 A l cap (ows G T)){T':List (List Int)}(e:ows G T'=ows G T):Sep w0 S O w (stl L j (.own cA e2 A l cap (ows G T'))):=by
  have:stl L j (.own cA e2 A l cap (ows G T'))=L:=by
    funext k
    by_cases q:k=j
    · subst q;rw [yaH,e,hj]
    · rw [yau _ _ q]
  rw [this];exact h
theorem Sep.rowfrz(h:Sep w0 S O w L)(i j:Nat)(hij:Nat.beq i j=false)(hi:L i = .rows e G T){A:Option Addr}{l cap:Nat}(hj:L j = .own cA e2 A l cap (ows G T)):Sep w0 S O w (stl (stl L i .gone) j (.own (cL cI) e2 A l cap T)):=by
  have hij:i≠j:=fun q=>by subst q;simp at hij
  have hri:=h.ok i
  rw [hi] at hri
  obtain ⟨hl,cells,ho,hE⟩:=h.own j hj
  have hlen:=ows_len hri.2.1
  have hhas:∀ x k,(stl (stl L i .gone) j (.own (cL cI) e2 A l cap T) x).has k→x≠i∧(L x).has k:=by
    intro x k hx
    by_cases e1:x=j
    · subst e1;rw [yaH] at hx;exact ⟨hij.symm,by rw [hj];exact hx⟩
    · rw [yau _ _ e1] at hx
      by_cases e2:x=i
      · subst e2;rw [yaH] at hx;cases hx
      · rw [yau _ _ e2] at hx;exact ⟨e2,hx⟩
  have hnb:∀ g,g∈G→¬Bl O (stl (stl L i .gone) j (.own (cL cI) e2 A l cap T)) g:=by
    rintro g hg (q | ⟨x,hx⟩)
    · have h1:=h.lt g q
      rcases h.bd i g (by rw [hi];exact hg) with h2 | h2
      · omega
      · exact h1.2 h2
    · obtain ⟨h1,h2⟩:=hhas x g hx
      exact h1 (h.nd x i g h2 (by rw [hi];exact hg))
  refine h.step (T:=no) (Keeps.refl _ _) (fun _ _ h=>h.elim) (fun x k hk => .inl ⟨x,(hhas x k hk).2⟩) (fun x=>?_) (fun a b k ha hb=>h.nd a b k (hhas a k ha).2 (hhas b k hb).2)
  by_cases e1:x=j
  · subst e1
    rw [yaH]
    refine .inr ⟨by rw [hl,hlen],cells,ho,fun k xs hx=>?_⟩
    have hkT:k<T.length:=(List.getElem?_eq_some_iff.1 hx).1
    have hkG:k<G.length:=by rw [hri.2.1];exact hkT
    obtain ⟨vs,hR,hu⟩:=hE k _ (ows_get (List.getElem?_eq_getElem hkG) hx)
    have hvs:vs=[.slice (some ⟨G[k],0,none⟩) xs.length xs.length]:=hR
    refine ⟨vs,⟨_,_,_,hvs,rfl,Nat.le_refl _,?_⟩,hu⟩
    have:=(hri.2.2 k G[k] xs (List.getElem?_eq_getElem hkG) hx).rd (O':=Bl O (stl (stl L i .gone) x (.own (cL cI) e2 A l cap T))) (fun k _ hk=>by
      rcases hk with q | ⟨y,hy⟩
      · exact .inl q
      · exact .inr ⟨y,(hhas y k hy).2⟩) (fun k' hk'=>by cases hk';exact hnb _ (List.getElem_mem hkG))
    exact this.2.2
  · rw [yau _ _ e1]
    by_cases e2:x=i
    · subst e2;rw [yaH];exact .inr trivial
    · rw [yau _ _ e2];exact .inl ⟨x,rfl,fun _ _=>id⟩
theorem Sep.tabnil(h:Sep w0 S O w L)(i j:Nat)(hi:L i = .gone)(hj:L j = .gone)(d:Nat.beq j i=false)(e2 e:TypeId):Sep w0 S O w (stl (stl L i (.own cA e2 none 0 0 (ows [] []))) j (.rows e [] [])) :=
  Sep.rowsnil (h.nil i hi cA e2) j (by rw [yau _ _ (fun q=>by subst q;simp at d)];exact hj) e
theorem Sep.rowpush(h:Sep w0 S O w L)(i j k:Nat)(d1:Nat.beq j i=false)(d2:Nat.beq j k=false)(d3:Nat.beq i k=false)(hi:L i = .rows e G T){A:Option Addr}{l cap g m:Nat}{xs:List Int}(hj:L j = .own cA e2 A l cap (ows G T++[(some ⟨g,0,none⟩,m,m)]))(hk:L k = .own cI e (some ⟨g,0,none⟩) m m xs) :
    Sep w0 S O w (stl (stl (stl L k .gone) i (.rows e (G++[g]) (T++[xs]))) j (.own cA e2 A l cap (ows (G++[g]) (T++[xs])))):=by
  have hm:m=xs.length:=(h.own k hk).1
  have hl:=h.rowsl i hi
  have h2:=h.rowadd i k d3 hi hk
  have e1:ows (G++[g]) (T++[xs])=ows G T++[(some ⟨g,0,none⟩,m,m)]:=by rw [ows_snoc hl,hm];rfl
  have n1:j≠i:=fun q=>by subst q;simp at d1
  have n2:j≠k:=fun q=>by subst q;simp at d2
  have:stl (stl (stl L k .gone) i (.rows e (G++[g]) (T++[xs]))) j (.own cA e2 A l cap (ows (G++[g]) (T++[xs])))=stl (stl L k .gone) i (.rows e (G++[g]) (T++[xs])):=by
    funext x
    by_cases q:x=j
    · subst q;rw [yaH,yau _ _ n1,yau _ _ n2,hj,e1]
    · rw [yau _ _ q]
  rw [this];exact h2
end
end Go.Proofs.YtencmgolklfmkaaGreat

/- Words for proofs from pure forms: loops that count up, lists that are filled from the left. No program in sight. -/
namespace Go.Proofs.YtencmgolklfmkaaGreat
open Go Go.Proofs.Tryz
def Cnt(N:Nat)(P:Nat→Prop)(m:Nat)(v:Int):Prop:=∃ k:Nat,m=N-k∧v=(k:Int)∧k≤N∧P k
theorem Cnt.start{N:Nat}{P:Nat→Prop}(h:P 0):∃ m0,Cnt N P m0 0:=⟨N,0,rfl,rfl,Nat.zero_le _,h⟩
theorem Cnt.next{N:Nat}{P:Nat→Prop}{k:Nat}(hk:k<N)(hN:N≤1000000000000)(h:P (k+1)):In64 ((k:Int)+1)∧∃ m',m'<N-k∧Cnt N P m' ((k:Int)+1) :=
  ⟨⟨by omega,by omega⟩,N-(k+1),by omega,k+1,rfl,by omega,by omega,h⟩
theorem Cnt.next' {N:Nat}{P:Nat→Prop}{k:Nat}(hk:k<N)(h:P (k+1)):∃ m',m'<N-k∧Cnt N P m' ((k:Int)+1) :=
  ⟨N-(k+1),by omega,k+1,rfl,by omega,by omega,h⟩
theorem i64{a:Int}(h : -9000000000000000000≤a∧a≤9000000000000000000):In64 a:=⟨by omega,by omega⟩
def tab(f:Nat→Int)(n:Nat):List Int:=(List.range n).map f
theorem yaI(f:Nat→Int)(n:Nat):(tab f n).length=n:=by simp [tab]
theorem ycc(f:Nat→Int){n i:Nat}(hi:i<n):gi (tab f n) i=f i:=by rw [ybe (by rw [yaI];exact hi)];simp [tab]
theorem ygB{f g:Nat→Int}{n:Nat}(h:∀ i,i<n→f i=g i):tab f n=tab g n:=by
  refine ygj (by simp [yaI]) fun i hi=>?_
  rw [yaI] at hi
  rw [ycc _ hi,ycc _ hi,h i hi]
theorem eq_tab{l:List Int}{n:Nat}(hl:l.length=n)(f:Nat→Int)(h:∀ i,i<n→gi l i=f i):l=tab f n:=by
  subst hl
  refine ygj (by simp [yaI]) fun i hi=>?_
  rw [h i hi,ycc _ hi]
theorem sm_bound{f:Nat→Int}{B:Int}(hB:0≤B):∀ {n:Nat},(∀ i,i<n → -B≤f i∧f i≤B) → -(n*B)≤sm n f∧sm n f≤n*B
  | 0,_=>by simp [sm]
  | n+1,h=>by
    have ih:=sm_bound hB (n:=n) fun i hi=>h i (by omega)
    have:=h n (by omega)
    rw [sm,show ((n+1:Nat):Int)*B=n*B+B by rw [Int.natCast_add,Int.add_mul];simp]
    omega
end Go.Proofs.YtencmgolklfmkaaGreat

/- What the arguments of the laws read as: numbers, lists, graphs; and what is handed back. -/
namespace Go.Proofs.YtencmgolklfmkaaGreat
open Go Go.ChangeShapes Go.WideShapes Go.ChangeAt Go.RowKit Go.Joins Go.Deep Go.Proofs.Tryz
theorem own:ownKnob Tryz.prog.godebug=none:=by kernel_rfl
theorem laidOut:laidOutB Tryz.prog=true:=by kernel_rfl
theorem cells_int:Tryz.prog.cellsOf 3=1:=by kernel_rfl
theorem cells_graph:Tryz.prog.cellsOf 24=2:=by kernel_rfl
theorem cells_edge:Tryz.prog.cellsOf 93=3:=by kernel_rfl
theorem cells3{w:World}{base:Nat}{a:Addr}{cs:List Value}(h:w.cells? base a 3=some cs):∃ x y z,cs=[x,y,z]∧w.cell? a=some x∧w.cell? (a.add 1)=some y∧w.cell? (a.add 2)=some z:=by
  unfold World.cells? at h
  split at h
  · have e:List.range 3=[0,1,2]:=rfl
    rw [e] at h
    cases h0:w.cell? (a.add 0) with
    | none=>simp [h0] at h
    | some x =>
      cases h1:w.cell? (a.add 1) with
      | none=>simp [h0,h1] at h
      | some y =>
        cases h2:w.cell? (a.add 2) with
        | none=>simp [h0,h1,h2] at h
        | some z =>
          simp [h0,h1,h2] at h
          exact ⟨x,y,z,h.symm,h0,rfl,rfl⟩
  · cases h
theorem ints_sl{W:World}{A:Option Addr}{xs:List Int}{c:Nat}(hc:xs.length≤c)(h:Ints W A xs):(FP.sl cI A xs.length c xs).P no W:=by
  refine ⟨rfl,hc,fun h0=>?_⟩
  obtain ⟨b,off,e,hb,hcell⟩:=h h0
  refine ⟨b,off,e,hb,id,fun k x hx=>⟨_,rfl,fun j u hj=>?_⟩⟩
  have hk:k<xs.length:=(List.getElem?_eq_some_iff.1 hx).1
  have hj0:j=0:=by
    have:=(List.getElem?_eq_some_iff.1 hj).1
    simp [fI] at this;exact this
  subst hj0
  have hu:u = .int .i64 x:=by
    have:(some (Value.int .i64 x))=some u:=hj
    simpa using this.symm
  rw [yaF hk] at hx
  cases hx
  rw [hu]
  have:=hcell k hk
  simpa [cI,Fl.cod,fI] using this
theorem edges_sl{W:World}{A:Option Addr}{xs:List E3}{c:Nat}(hc:xs.length≤c)(h:yhy W A xs):(FP.sl c3 A xs.length c xs).P no W:=by
  refine ⟨rfl,hc,fun h0=>?_⟩
  obtain ⟨b,off,e,hb,hcell⟩:=h h0
  refine ⟨b,off,e,hb,id,fun k x hx=>⟨_,rfl,fun j u hj=>?_⟩⟩
  have hk:k<xs.length:=(List.getElem?_eq_some_iff.1 hx).1
  rw [ydz hk] at hx
  cases hx
  obtain ⟨q0,q1,q2⟩:=hcell k hk
  match j,hj with
  | 0,hj =>
    have:(some (Value.int .i64 (ge xs k).1))=some u:=hj
    cases this;exact q0
  | 1,hj =>
    have:(some (Value.int .i64 (ge xs k).2.1))=some u:=hj
    cases this;exact q1
  | 2,hj =>
    have:(some (Value.int .i64 (ge xs k).2.2))=some u:=hj
    cases this;exact q2
  | j+3,hj=>cases hj
set_option maxRecDepth 100000
variable {H : Type} {enc : TypeId × Value → H} {W : World} {r : Reach} {b0 : Nat}
theorem open_list{t:TypeId}(ht:Tryz.prog.underlying t=some (.slice 3)){v:Value}{d:DataW H}{p:List MemPlace}(hv:Value.okWide Tryz.prog W r b0 t v)(h:DataW.Trod enc Tryz.prog W 0 (fun _=>true) true t v d p) :
    ∃ (A:Option Addr) (l:List Int) (c:Nat),v = .slice A l.length c∧(FP.sl cI A l.length c l).P no W:=by
  suffices h:∃ (A:Option Addr) (l:List Int) (c:Nat),v = .slice A l.length c∧l.length≤c∧Ints W A l by
    obtain ⟨A,l,c,e,hlc,hi⟩:=h
    exact ⟨A,l,c,e,ints_sl hlc hi⟩
  obtain ⟨a0,len,cap,rfl⟩:=okWide_slice ht hv
  obtain ⟨fuel,hf⟩:=h
  rcases open_ints ht underlying3 cells_int hf with ⟨hcs,hx⟩ | ⟨a,len',cap',zs,hcs,_,hl,hm,hz,hx,hcell,hwz⟩
  · simp [Value.cells] at hcs
    obtain ⟨rfl,rfl,rfl⟩:=hcs
    exact ⟨none,[],0,rfl,Nat.le_refl _,Ints.nil _ _⟩
  · simp [Value.cells] at hcs
    obtain ⟨rfl,rfl,rfl⟩:=hcs
    simp only [if_true] at hz
    refine ⟨some a,zs.take len,cap,by rw [List.length_take,Nat.min_eq_left (by omega)],by rw [List.length_take];omega,fun hp=>?_⟩
    rw [List.length_take,Nat.min_eq_left (by omega)] at hp ⊢
    obtain ⟨b,off,rfl,hc⟩:=ints_at hcell (by omega)
    refine ⟨b,off,rfl,?_,fun k hk=>?_⟩
    · have:=hc 0 (by omega)
      apply Nat.lt_of_not_le
      intro hle
      unfold World.cell? at this
      rw [Array.getElem?_eq_none hle] at this
      simp at this
    · rw [hc k (by omega),ybe (by rw [List.length_take];omega),List.getElem_take,List.getD_eq_getElem?_getD,List.getElem?_eq_getElem (by omega)]
      rfl
theorem open_edge{fuel base:Nat}{spare:Nat→Bool}{held:Bool}{x y z:Value}{o:DataW H×List MemPlace}(h:DataW.trod enc Tryz.prog W base spare held fuel 93 [x,y,z]=some o):∃ a b c:Int,x = .int .i64 a∧y = .int .i64 b∧z = .int .i64 c:=by
  obtain ⟨xs,n,_,rfl,hl,hlen,hf⟩:=DataW.trod_struct underlying93 h
  obtain ⟨x0,x1,x2,rfl⟩:∃ x0 x1 x2,xs=[x0,x1,x2]:=by
    match xs,hlen with
    | [x0,x1,x2],_=>exact ⟨_,_,_,rfl⟩
  have f0:=hf 0 _ rfl
  have f1:=hf 1 _ rfl
  have f2:=hf 2 _ rfl
  simp [cells_int] at f0 f1 f2
  obtain ⟨a,e0, -, -⟩:=DataW.trod_int underlying3 f0
  obtain ⟨b,e1, -, -⟩:=DataW.trod_int underlying3 f1
  obtain ⟨c,e2, -, -⟩:=DataW.trod_int underlying3 f2
  simp at e0 e1 e2
  exact ⟨a,b,c,e0,e1,e2⟩
theorem open_graph{v:Value}{d:DataW H}{p:List MemPlace}(hv:Value.okWide Tryz.prog W r b0 24 v)(h:DataW.Trod enc Tryz.prog W 0 (fun _=>true) true 24 v d p) :
    ∃ (n:Int) (A:Option Addr) (es:List E3) (c:Nat),v = .agg #[.int .i64 n, .slice A es.length c]∧(FP.sl c3 A es.length c es).P no W:=by
  suffices h:∃ (n:Int) (A:Option Addr) (es:List E3) (c:Nat),v = .agg #[.int .i64 n, .slice A es.length c]∧es.length≤c∧yhy W A es by
    obtain ⟨n,A,l,c,e,hlc,hi⟩:=h
    exact ⟨n,A,l,c,e,edges_sl hlc hi⟩
  obtain ⟨c0,c1,y0,y1,m,rfl,rfl,rfl,hy0,hy1⟩:=open_agg2 underlying24 (by kernel_rfl) cells_graph hv h
  obtain ⟨n,e0, -, -⟩:=DataW.trod_int underlying3 hy0
  simp at e0
  subst e0
  rcases open_slice underlying22 hy1 with ⟨hcs, -⟩ | ⟨a,len,cap,mm,nn,D,Pl,hcs, -,hl,hm,hmm, -,hel⟩
  · simp at hcs
    subst hcs
    exact ⟨n,none,[],0,rfl,Nat.le_refl _,fun h=>absurd h (by simp)⟩
  · simp at hcs
    subst hcs
    simp only [if_true] at hmm
    have hex:∀ i,i<len→∃ e:E3,W.cell? (a.add (i*3))=some (.int .i64 e.1)∧W.cell? ((a.add (i*3)).add 1)=some (.int .i64 e.2.1)∧W.cell? ((a.add (i*3)).add 2)=some (.int .i64 e.2.2):=fun i hi=>by
      obtain ⟨cs',hc,ht⟩:=hel i (by omega)
      rw [cells_edge] at hc
      obtain ⟨x,y,z,rfl,k0,k1,k2⟩:=cells3 hc
      obtain ⟨xa,xb,xc,rfl,rfl,rfl⟩:=open_edge ht
      exact ⟨(xa,xb,xc),k0,k1,k2⟩
    let f:Nat→E3:=fun i=>if h:i<len then Classical.choose (hex i h) else (0,0,0)
    have hf:∀ i,i<len→W.cell? (a.add (i*3))=some (.int .i64 (f i).1)∧W.cell? ((a.add (i*3)).add 1)=some (.int .i64 (f i).2.1)∧W.cell? ((a.add (i*3)).add 2)=some (.int .i64 (f i).2.2):=fun i hi=>by
      show _∧_∧_
      have e:f i=Classical.choose (hex i hi):=dif_pos hi
      rw [e]
      exact Classical.choose_spec (hex i hi)
    have hlen:((List.range len).map f).length=len:=by simp
    refine ⟨n,some a,(List.range len).map f,cap,by rw [hlen],by rw [hlen];omega,fun hp=>?_⟩
    rw [hlen] at hp ⊢
    obtain ⟨b,off,spot⟩:=a
    have hspot:spot=none:=by simpa [Addr.add] using World.cell?_spot (hf 0 hp).1
    subst hspot
    refine ⟨b,off,rfl,?_,fun k hk=>?_⟩
    · have:=(hf 0 hp).1
      apply Nat.lt_of_not_le
      intro hle
      unfold World.cell? at this
      rw [Array.getElem?_eq_none (by simpa [Addr.add] using hle)] at this
      simp at this
    · have hg:ge ((List.range len).map f) k=f k:=by rw [ydg (by rw [hlen];exact hk)];simp
      rw [hg]
      have:=hf k hk
      simpa [Addr.add_mid] using this
end Go.Proofs.YtencmgolklfmkaaGreat

/- What arguments read as: lists of lists, pairs of lists. -/
namespace Go.Proofs.YtencmgolklfmkaaGreat
open Go Go.ChangeShapes Go.WideShapes Go.ChangeAt Go.RowKit Go.Joins Go.Deep Go.Proofs.Tryz
set_option maxRecDepth 100000
variable {H : Type} {enc : TypeId × Value → H} {W : World} {r : Reach} {b0 : Nat}
end Go.Proofs.YtencmgolklfmkaaGreat
