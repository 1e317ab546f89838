/- Texts laid together: Srt, Lay, SrtD, PSa, SySp, SySq, SySr, SySs, PSl, Lr37, Lr37a, Lr37b, SrtC. -/
import Derived.Shelf.SlSortCmp.NoneTotal
import Derived.Shelf.SlLaysF
import Derived.Test.YtjepipbkiadcpaaGreatChecked
import Derived.Test.YtjepipbkiadcpaaGreatK5
set_option linter.unusedVariables false
set_option linter.unusedSimpArgs false
set_option linter.unusedSectionVars false
/- slices.SortFunc at slices of one's own: the kit's contract, said of what is owned. Elements of one cell. No program in sight. -/
namespace Go.Proofs.YtjepipbkiadcpaaGreat
open Go Go.RowKit Go.Shelf Go.Lib Go.Sort Go.Proofs.Tryz
theorem pair_up{τ:Type}{p:Value→τ→Prop} : ∀ (cells:List Value) (xs:List τ),cells.length=xs.length→(∀ (k:Nat) x u,xs[k]? = some x→cells[k]? = some u→p u x)→∃ ds:List {q:Value×τ // p q.1 q.2},ds.map (·.1.1)=cells∧ds.map (·.1.2)=xs
  | [],[],_,_=>⟨[],rfl,rfl⟩
  | [],_::_,h,_=>by simp at h
  | _::_,[],h,_=>by simp at h
  | u::cells,x::xs,h,hp=>by
    obtain ⟨ds,h1,h2⟩:=pair_up (p:=p) cells xs (by simpa using h) fun k y v hy hv=>hp (k+1) y v (by simpa using hy) (by simpa using hv)
    exact ⟨⟨(u,x),hp 0 x u rfl rfl⟩::ds,by rw [List.map_cons,h1],by rw [List.map_cons,h2]⟩
theorem yfE{α:Type} [Inhabited α](enc:α→Value)(w:World)(blk off m:Nat)(d:Array α)(os:Array Obj):Keeps (fun k=>k=blk) w (sortWorld enc w blk off m d os):=by
  refine ⟨rfl,rfl,rfl,?_,fun k hk hn=>?_⟩
  · show w.heap.size≤((w.heap.modify blk (onCells (putCells enc off d)))++os).size
    simp
  · show ((w.heap.modify blk (onCells (putCells enc off d)))++os)[k]? = _
    rw [Array.getElem?_append_left (by simpa using hk),Array.getElem?_modify,if_neg (fun q=>hn q.symm)]
theorem sortWorld_at{α:Type} [Inhabited α](enc:α→Value)(w:World)(blk off m:Nat)(d:Array α)(os:Array Obj){cur:Array Value}{e:TypeId}{fr:Nat×Nat}(h:w.heap[blk]? = some (.cells cur e fr)):(sortWorld enc w blk off m d os).heap[blk]? = some (.cells (putCells enc off d cur) e fr):=by
  show ((w.heap.modify blk (onCells (putCells enc off d)))++os)[blk]? = _
  have hb:=(Array.getElem?_eq_some_iff.1 h).1
  rw [Array.getElem?_append_left (by simpa using hb),Array.getElem?_modify,if_pos rfl,h]
  rfl
section
variable {P : Program} {ρ : Ren} {τ : Type} {c : Cod τ} {cf : τ → τ → Int} {g : Nat}
theorem srt_own(L:SlLaysF.n6 P ρ)(hc1:c.sz=1)(hO:SWO (ltOf cf))(eg:Enters P g)
    {w:World} {S O:Nat→Prop} {e:TypeId} {A:Option Addr} {l cap:Nat} {xs:List τ} {R:List τ→Prop}
    (hcmp:∀ W x y vx vy,x∈xs→y∈xs→c.R no W [vx] x→c.R no W [vy] y→Calls P g #[vx,vy] W fun e w'=>e = .returned (.int .i64 (cf x y))∧∃ q os',w'=grow (W.drewN q) os')
    (hlen:xs.length≤1000000000) (h:∀ zs,zs.Perm xs→zs.Pairwise (fun a b=>¬cf b a<0)→R zs)
    (hS:Sep w S O w (rl [Res.own c e A l cap xs])):Calls P (ρ.f 6) #[.slice A l cap, .func (.func g) #[] #[]] w fun e' w'=>∃ zs,e' = .returned (.tuple #[])∧Sep w S O w' (rl [Res.own c e A l cap zs])∧R zs:=by
  obtain ⟨hl,cells,ho,hc⟩:=hS.own 0 rfl
  by_cases h0:xs=[]
  · subst h0
    simp at hl
    subst hl
    refine (AnyF.slices_SortFunc_none { L with } A cap _ w).mono ?_
    rintro _ w' ⟨rfl,rfl⟩
    exact ⟨[],rfl,hS,h [] (List.Perm.refl _) List.Pairwise.nil⟩
  · have hlp:0<xs.length:=List.length_pos_iff.2 h0
    rcases ho.2 with ⟨_,q,_⟩ | ⟨gb,o,cur,rfl,hb,hg,hlc,hcm,hsz,hcur⟩
    · omega
    · have hcl:cells.length=xs.length:=by rw [ho.1,hc1,hl];omega
      obtain ⟨Φ,hΦ⟩:∃ Φ:Value→τ→Prop,∀ u x,Φ u x↔(u.oneCell'=true∧c.R (Bl O (rl [Res.own c e (some ⟨gb,o,none⟩) l cap xs])) w [u] x∧x∈xs):=⟨_,fun _ _=>Iff.rfl⟩
      obtain ⟨ds,hd1,hd2⟩:=pair_up (p:=Φ) cells xs hcl fun k x u hx hu=>by
        obtain ⟨vs,hR,hv⟩:=hc k x hx
        have hv1:=c.len hR
        rw [hc1] at hv1
        obtain ⟨v,rfl⟩:=List.length_eq_one_iff.1 hv1
        have:=hv 0 v rfl
        rw [hc1,Nat.mul_one,Nat.add_zero,hu] at this
        cases this
        exact (hΦ _ _).2 ⟨c.one hR _ (by simp),hR,List.mem_of_getElem? hx⟩
      have hdl:ds.length=xs.length:=by have q:=congrArg List.length hd2;rwa [List.length_map] at q
      have:Inhabited {q:Value×τ // Φ q.1 q.2}:=⟨ds[0]'(by omega)⟩
      have hget:∀ j (hj:j<ds.length) (hj2:j<cells.length),(ds.toArray[j]!).1.1=cells[j]:=fun j hj hj2=>by
        rw [getElem!_pos _ _ (by simpa using hj)]
        simp only [←hd1,List.getElem_map,List.getElem_toArray]
      have hlt:gb<w.heap.size:=(Array.getElem?_eq_some_iff.1 hg).1
      have hll:l=ds.toArray.size:=by rw [hl];simp [hdl]
      have hcm2:ds.toArray.size<4611686018427387904:=by rw [←hll,hl];exact Nat.lt_of_le_of_lt hlen (by decide)
      have hmain:=Any.slices_SortFunc L (fun q : {q:Value×τ // Φ q.1 q.2}=>q.1.1) (fun q=>((hΦ _ _).1 q.2).1) (fun a b=>cf a.1.2 b.1.2)
        ⟨fun a=>hO.irrefl a.1.2,fun a b d=>hO.trans a.1.2 b.1.2 d.1.2,fun a b d=>hO.ntrans a.1.2 b.1.2 d.1.2⟩ g #[] gb o cap ds.toArray w eg
        (fun m os dk _ x y=>by
          have hK:=(yfE (fun q : {q:Value×τ // Φ q.1 q.2}=>q.1.1) w gb o m dk os).mono (S':=Bl O (rl [Res.own c e (some ⟨gb,o,none⟩) l cap xs])) fun k _ hk => .inr ⟨0,by rw [hk];rfl⟩
          have hx:=c.sub (O':=no) (c.keep ((hΦ _ _).1 x.2).2.1 hK) fun _ _ h=>h.elim
          have hy:=c.sub (O':=no) (c.keep ((hΦ _ _).1 y.2).2.1 hK) fun _ _ h=>h.elim
          rw [Array.append_empty]
          exact hcmp _ _ _ _ _ ((hΦ _ _).1 x.2).2.2 ((hΦ _ _).1 y.2).2.2 hx hy)
        (fun j hj=>by
          have hj':j<ds.length:=by simpa using hj
          obtain ⟨g',o',e',_,h1,h2⟩:=ho.cellAt (i:=j) (List.getElem?_eq_getElem (by rw [hcl,←hdl];exact hj'))
          cases e'
          exact ⟨by rw [h1];congr 1;exact (hget j hj' _).symm,h2⟩) hlt hcm2
      rw [←hll] at hmain
      refine hmain.mono ?_
      rintro _ w' ⟨rfl,d',n,os,⟨p1,p2,p3⟩,hs,rfl⟩
      have hd'l:d'.size=l:=by rw [p1,hll]
      have hp:d'.toList.Perm ds:=by
        have e1:d'.extract 0 l=d':=by rw [←hd'l];exact Array.extract_size
        have e2:ds.toArray.extract 0 l=ds.toArray:=by rw [hll];exact Array.extract_size
        rwa [e1,e2] at p3
      refine ⟨d'.toList.map (·.1.2),rfl,?_,h _ ((hp.map (fun q=>q.1.2)).trans (List.Perm.of_eq hd2)) ?_⟩
      · have hK:=yfE (fun q : {q:Value×τ // Φ q.1 q.2}=>q.1.1) w gb o n d' os
        refine (hS.upd 0 (Res.own c e (some ⟨gb,o,none⟩) l cap (d'.toList.map (·.1.2))) hK (fun k _ hk=>by rw [hk];rfl) (fun k hk => .inl hk) ?_).sel [0] (by decide)
        refine ⟨by simp [hd'l],d'.toList.map (·.1.1),⟨by simp [hd'l,hc1], .inr ⟨gb,o,_,rfl,Nat.zero_le _,sortWorld_at _ w gb o n d' os hg,hlc,hcm,by simpa [putCells] using hsz,?_⟩⟩,fun k x hx=>?_⟩
        · rw [hc1,Nat.mul_one] at hsz ⊢
          apply List.ext_getElem?
          intro i
          rw [List.getElem?_take]
          by_cases hi:i<l
          · rw [if_pos hi,List.getElem?_drop,Array.getElem?_toList]
            have hic:o+i<cur.size:=by omega
            rw [putCells,Array.getElem?_mapIdx,Array.getElem?_eq_getElem hic,Option.map_some,if_pos ⟨by omega,by omega⟩,show o+i-o=i by omega,List.getElem?_map,Array.getElem?_toList,Array.getElem?_eq_getElem (by omega),Option.map_some,getElem!_pos _ _ (by omega)]
          · rw [if_neg hi,List.getElem?_eq_none (by simp;omega)]
        · rw [List.getElem?_map,Array.getElem?_toList] at hx
          have hk:k<d'.size:=by
            rcases Nat.lt_or_ge k d'.size with q | q
            · exact q
            · rw [Array.getElem?_eq_none q] at hx;cases hx
          rw [Array.getElem?_eq_getElem hk,Option.map_some] at hx
          cases hx
          refine ⟨[d'[k].1.1],?_,fun j u hj=>?_⟩
          · have hK2:=hK.mono (S':=Bl O (rl [Res.own c e (some ⟨gb,o,none⟩) l cap xs])) fun k _ hk => .inr ⟨0,by rw [hk];rfl⟩
            refine c.sub (c.keep ((hΦ _ _).1 d'[k].2).2.1 hK2) fun k _ hk=>?_
            rcases hk with q | ⟨i,q⟩
            · exact .inl q
            · by_cases hi:i=0
              · subst hi;rw [yaF] at q;exact .inr ⟨0,q⟩
              · rw [yas _ _ hi] at q;exact .inr ⟨i,q⟩
          · cases j with
            | zero =>
              simp at hj
              subst hj
              rw [hc1,Nat.mul_one,Nat.add_zero,List.getElem?_map,Array.getElem?_toList,Array.getElem?_eq_getElem hk,Option.map_some]
            | succ j=>simp at hj
      · rw [List.pairwise_map,List.pairwise_iff_getElem]
        intro i j hi hj hij
        have hj':j<d'.size:=by simpa using hj
        have:=hs i j (Nat.zero_le _) hij (by omega)
        rw [getElem!_pos d' j hj',getElem!_pos d' i (by omega)] at this
        simpa [ltOf] using this
end
end Go.Proofs.YtjepipbkiadcpaaGreat

/- slices.SortFunc lies in this program. -/
namespace Go.Proofs.YtjepipbkiadcpaaGreat
open Go Go.Shelf Go.Proofs.Tryz
def sortD_ren:Go.Shelf.Ren:=⟨fun | 6=>34 | 15=>79 | 14=>78 | 28=>129 | 29=>130 | 20=>121 | 21=>122 | 22=>123 | 23=>124 | 24=>125 | 25=>126 | 26=>127 | 27=>128 | 46=>173 | 47=>174 | 48=>175 | 49=>176 | 50=>177 | 57=>205 | n=>n,fun | 22=>28 | 24=>34 | 25=>77 | 3=>3 | 39=>129 | 0=>0 | 53=>191 | 55=>193 | 4=>4 | 46=>184 | 45=>183 | 50=>188 | 5=>5 | 9=>9 | 66=>239 | 70=>243 | 76=>269 | 77=>270 | n=>n,fun | n=>n⟩
theorem sortD:Go.Proofs.SlLaysF.n6 Tryz.prog sortD_ren:={
  mixed:=by kernel_rfl
  f6:=⟨Tryz.f34.name,by decide,func34.trans (congrArg some (by kernel_rfl))⟩
  f14:=⟨Tryz.f78.name,by decide,func78.trans (congrArg some (by kernel_rfl))⟩
  f15:=func79.trans (congrArg some (by kernel_rfl))
  f20:=⟨Tryz.f121.name,by decide,func121.trans (congrArg some (by kernel_rfl))⟩
  f21:=⟨Tryz.f122.name,by decide,func122.trans (congrArg some (by kernel_rfl))⟩
  f22:=⟨Tryz.f123.name,by decide,func123.trans (congrArg some (by kernel_rfl))⟩
  f23:=⟨Tryz.f124.name,by decide,func124.trans (congrArg some (by kernel_rfl))⟩
  f24:=⟨Tryz.f125.name,by decide,func125.trans (congrArg some (by kernel_rfl))⟩
  f25:=⟨Tryz.f126.name,by decide,func126.trans (congrArg some (by kernel_rfl))⟩
  f26:=⟨Tryz.f127.name,by decide,func127.trans (congrArg some (by kernel_rfl))⟩
  f27:=⟨Tryz.f128.name,by decide,func128.trans (congrArg some (by kernel_rfl))⟩
  f28:=func129.trans (congrArg some (by kernel_rfl))
  f29:=func130.trans (congrArg some (by kernel_rfl))
  f46:=⟨Tryz.f173.name,by decide,func173.trans (congrArg some (by kernel_rfl))⟩
  f47:=func174.trans (congrArg some (by kernel_rfl))
  f48:=func175.trans (congrArg some (by kernel_rfl))
  f49:=⟨Tryz.f176.name,by decide,func176.trans (congrArg some (by kernel_rfl))⟩
  f50:=⟨Tryz.f177.name,by decide,func177.trans (congrArg some (by kernel_rfl))⟩
  f57:=⟨Tryz.f205.name,by decide,func205.trans (congrArg some (by kernel_rfl))⟩
  t0:=underlying0
  a0:=Tryz.isAgg0
  z0:=Tryz.sizeOf0
  v0:=Tryz.zeroValue0
  t3:=underlying3
  a3:=Tryz.isAgg3
  z3:=Tryz.sizeOf3
  v3:=Tryz.zeroValue3
  t4:=underlying4
  a4:=Tryz.isAgg4
  z4:=Tryz.sizeOf4
  v4:=Tryz.zeroValue4
  t5:=underlying5
  a5:=Tryz.isAgg5
  z5:=Tryz.sizeOf5
  v5:=Tryz.zeroValue5
  t9:=underlying9
  a9:=Tryz.isAgg9
  z9:=Tryz.sizeOf9
  v9:=Tryz.zeroValue9
  t22:=underlying28
  a22:=Tryz.isAgg28
  z22:=Tryz.sizeOf28
  v22:=Tryz.zeroValue28
  a24:=Tryz.isAgg34
  z24:=Tryz.sizeOf34
  t25:=underlying77
  a25:=Tryz.isAgg77
  z25:=Tryz.sizeOf77
  v25:=Tryz.zeroValue77
  t39:=underlying129
  a39:=Tryz.isAgg129
  z39:=Tryz.sizeOf129
  v39:=Tryz.zeroValue129
  t45:=underlying183
  a45:=Tryz.isAgg183
  z45:=Tryz.sizeOf183
  v45:=Tryz.zeroValue183
  t46:=underlying184
  a46:=Tryz.isAgg184
  z46:=Tryz.sizeOf184
  v46:=Tryz.zeroValue184
  t50:=underlying188
  a50:=Tryz.isAgg188
  z50:=Tryz.sizeOf188
  v50:=Tryz.zeroValue188
  t53:=underlying191
  a53:=Tryz.isAgg191
  z53:=Tryz.sizeOf191
  v53:=Tryz.zeroValue191
  t55:=underlying193
  a55:=Tryz.isAgg193
  z55:=Tryz.sizeOf193
  v55:=Tryz.zeroValue193
  t66:=underlying239
  a66:=Tryz.isAgg239
  z66:=Tryz.sizeOf239
  v66:=Tryz.zeroValue239
  t70:=underlying243
  a70:=Tryz.isAgg243
  z70:=Tryz.sizeOf243
  v70:=Tryz.zeroValue243
  t76:=underlying269
  a76:=Tryz.isAgg269
  z76:=Tryz.sizeOf269
  v76:=Tryz.zeroValue269
  t77:=underlying270
  a77:=Tryz.isAgg270
  z77:=Tryz.sizeOf270
  v77:=Tryz.zeroValue270 }
end Go.Proofs.YtjepipbkiadcpaaGreat

/- The sort of divisors: slices.SortFunc by slices.Compare. -/
namespace Go.Proofs.YtjepipbkiadcpaaGreat
open Go Go.RowKit Go.Shelf Go.Sort Go.Proofs.Tryz
set_option maxRecDepth 100000
set_option maxHeartbeats 400000
theorem order_any(W:World)(x y:List Int)(vx vy:Value)(lx:x.length≤1000000000)(ly:y.length≤1000000000)(hx:(cL cI).R no W [vx] x)(hy:(cL cI).R no W [vy] y) :
    Calls Tryz.prog 180 #[vx,vy] W fun e w'=>e = .returned (.int .i64 (lexC x y))∧W=w':=by
  obtain ⟨A,l,ca,e1,h1⟩:=hx
  obtain ⟨B,m,cb,e2,h2⟩:=hy
  cases e1
  cases e2
  obtain ⟨rfl,ha⟩:=yg4 h1
  obtain ⟨rfl,hb⟩:=yg4 h2
  go_enter func180,ntmps180
  go_wp2_with (first | (go_at_call 36;refine (compD_any A B x y ca cb _ ha hb lx ly).mono ?_;rintro e w' ⟨rfl,rfl⟩))
  go_ret
  exact ⟨rfl,rfl⟩
theorem swo_lex:SWO (ltOf lexC):=by
  refine ⟨fun a=>?_,fun a b d h1 h2=>?_,fun a b d h1 h2=>?_⟩
  · simp [ltOf,yeT]
  · simp only [ltOf,decide_eq_true_iff] at *
    exact yhe _ _ _ h1 h2
  · simp only [ltOf,decide_eq_false_iff_not] at *
    intro h
    have k1:lexC b a≤0:=by rw [yf3];omega
    have k2:lexC d b≤0:=by rw [yf3];omega
    have k3:=lexC_le_trans k2 k1
    rw [yf3] at k3
    omega
def yfw(xs:List (List Int))(R:List (List Int)→Prop):Prop:=xs.length≤1000000000∧(∀ x∈xs,x.length≤1000000000)∧∀ zs:List (List Int),zs.Perm xs→zs.Pairwise (fun a b=>¬lexC b a<0)→R zs
theorem yhh{S O:Nat→Prop}{w:World}{xs:List (List Int)}{A:Option Addr}{l c:Nat}{t:TypeId}{R:List (List Int)→Prop}(h:yfw xs R)(hS:Sep w S O w (rl [Res.own (cL cI) t A l c xs])) :
    Calls Tryz.prog 34 #[.slice A l c, .func (.func 180) #[] #[]] w fun e w'=>∃ z:List (List Int),e = .returned (.tuple #[])∧Sep w S O w' (rl [Res.own (cL cI) t A l c z])∧R z :=
  (srt_own sortD (c:=cL cI) rfl swo_lex enter_180 (fun W x y vx vy mx my hx hy=>(order_any W x y vx vy (h.2.1 x mx) (h.2.1 y my) hx hy).mono fun e w' ⟨h1,h2⟩=>⟨h1,0,#[],by rw [←h2];simp [grow,World.drewN]⟩) h.1 h.2.2 hS).mono fun e w' ⟨z,h1,h2,h3⟩=>⟨z,h1,h2,h3⟩
end Go.Proofs.YtjepipbkiadcpaaGreat

/- Pure forms of functions, made by program (pf.py), each with the proof that the code does so. -/
namespace Go.Proofs.YtjepipbkiadcpaaGreat
open Go Go.RowKit Go.Shelf Go.Proofs.Tryz
set_option maxRecDepth 100000
set_option maxHeartbeats 8000000
def ycT(g:Int)(g2:List E3)(l:List (List Int))(R:Int→Prop):Prop :=
ybI g g2 (fun r r2 =>
((r2=0 →
((r=true →
(∃ I2:Nat→Int→Prop,(∃ m0,I2 m0 0)∧∀ m2 v,I2 m2 v → 
((v<(l.length:Int) →
((0≤v∧v<(l.length:Int)) ∧
ybL (gx l v.toNat) g (fun r3 =>
((r3=0 →
(In64 (v+1) ∧
∃ m3,m3<m2∧I2 m3 (v+1))) ∧
(¬(r3=0) →
R r3))))) ∧
(¬(v<(l.length:Int)) →
R 0)))) ∧
(¬(r=true) →
R 13))) ∧
(¬(r2=0) →
R r2)))
theorem yhH{O:Nat→Prop}{w:World}{g g2 l Ag lg cg Al ll cl}{R:Int→Prop}(h:ycT g g2 l R)(hO:∀ k,O k→k<w.heap.size)(hA0:(FP.sl c3 Ag lg cg g2).P O w)(hA1:(FP.sl (cL cI) Al ll cl l).P O w) :
    Calls Tryz.prog 84 #[(.agg #[(ii g),(.slice Ag lg cg)]),(.slice Al ll cl)] w fun e w'=>∃ r4,e = .returned (ii r4)∧Sep w no O w' (rl [])∧R r4:=by
  unfold ycT at h;have hS:Sep w no O w (rl [Res.ro (FP.sl c3 Ag lg cg g2),Res.ro (FP.sl (cL cI) Al ll cl l)]):=Sep.startl hO [(FP.sl c3 Ag lg cg g2),(FP.sl (cL cI) Al ll cl l)] ⟨hA0,hA1,trivial⟩;refine yak (l:=[(.agg #[(ii g),(.slice Ag lg cg)]),(.slice Al ll cl)]) func84 rfl ntmps84 zY (zs (zn (ybi (v:=(.agg #[(ii g),(.slice Ag lg cg)])) rfl ?_)));intro g3 w2 hN;replace hS:Sep w no O w2 (stl _ 2 (Res.box 24 g3 [(ii g),(.slice Ag lg cg)])):=hS.new 2 rfl hN;clear hN;refine zb (zQ (ii 0) (yaa (zs (zq (yao (vs:=[(ii g),(.slice Ag lg cg)]) rfl underlying24 rfl yat ⟨Row.cell (hS.bx 2 rfl) (i:=0) rfl,Row.cell (hS.bx 2 rfl) (i:=1) rfl,trivial⟩) (zn (yaj rfl (am1 rfl) enter_72 ((ycW h (yaN _) (hS.rdr 0 rfl)).mono ?_)))))));rintro _ w3 ⟨r,r2,rfl,hC,h⟩;replace hS:=hS.pur hC.pure;clear hC;refine ⟨_,rfl,?_⟩;refine zb (zM (.tuple #[(.bool (r)),(ii r2)]) (zq (zx (.bool (r))) (zq (zx (ii r2)) (zQ (.bool (r)) (zQ (ii r2) (yaa (yac (yah (zs (zM (ii r2) (zq zN (zQ (.bool (!(decide (r2=0)))) (yaa ?_)))))))))))));by_cases hp:r2=0
  · replace h:=h.1 hp;refine ze hp (zs (zM (.bool (r)) (zq (ydd rfl) (zQ (.bool (!(r))) (yaa ?_)))));by_cases hp2:r=true
    · replace h:=h.1 hp2;refine yaq (zC (zB hp2)) (yaf (yag (yac (zs (zM (.slice Al ll cl) (zq (ybw (n:=l.length) rfl underlying28 (ybh (hS.rdr 1 rfl))) (zM (ii 0) (yaa (yah ?_)))))))));obtain ⟨I2,⟨m0,h0⟩,hr⟩:=h;refine yaA (fun m E ds w'=>∃ v,I2 m v∧ds=[]∧E 2=(Value.pointer (some ⟨g3,0,none⟩))∧E 22=(Value.slice Al ll cl)∧E 23=(ii (l.length:Int))∧E 24=(ii v)∧Sep w no O w' (rl [Res.box 24 g3 [(ii g),(.slice Ag lg cg)],Res.ro (FP.sl c3 Ag lg cg g2),Res.ro (FP.sl (cL cI) Al ll cl l)])) m0 ⟨_,h0,rfl,rfl,rfl,rfl,rfl,(hS.sel [2,0,1])⟩ ?_;clear h0 hS;rintro m2 E ds w4 ⟨v,h,rfl,H2,H22,H23,H24,hS⟩ ag;replace h:=hr m2 v h;clear hr;refine zs (zq (ydf H24 H23) (yaa (yac ?_)));by_cases hp3:v<(l.length:Int)
      · replace h:=h.1 hp3;refine zc hp3 (yaf (yac (yah (zs ?_))));obtain ⟨hx,h⟩:=h;refine zq (ycw H22 H24 underlying28 yaY (yaU (hS.rdr 2 rfl) hx)) ?_;obtain ⟨A,l2,c,hc,hq⟩:=hS.el 2 rfl hx 3 4 rfl rfl (by decide);replace hS:=hq;clear hq;refine zq (yam (v:=(.slice A l2 c)) rfl underlying34 rfl (hS.clr 4 rfl)) (zQ (.slice A l2 c) (yaa (zs (zM (.slice A l2 c) (zq (yae H2 underlying24 rfl yab) (zq (zl underlying3 (Row.cell (hS.bx 0 rfl) (i:=0) rfl)) (zn (yaj rfl (am2 rfl rfl) yf6 ((yds h (yaN _) (hS.rdr 3 rfl)).mono ?_)))))))));rintro _ w5 ⟨r3,rfl,hC,h⟩;replace hS:=hS.pur hC.pure;clear hC;refine ⟨_,rfl,?_⟩;refine zb (zQ (ii r3) (yaa (zs (zM (ii r3) (zq zN (yaa ?_))))));by_cases hp4:r3=0
        · replace h:=h.1 hp4;refine ze hp4 (yaf (yag (zr ?_)));obtain ⟨hi,h⟩:=h;refine zq (ybU H24 rfl hi) (zM (ii (v+1)) (yaa ?_));obtain ⟨mq,hlt,h⟩:=h;exact ag mq _ _ _ ⟨_,h,rfl,H2,H22,H23,rfl,(hS.sel [0,1,2])⟩ hlt
        · replace h:=h.2 hp4;exact zf hp4 (zs (zM (ii r3) (zQ (ii r3) (yaa (yai rfl rfl ⟨_,rfl,(hS.sel []),h⟩)))))
      · replace h:=h.2 hp3;exact zd hp3 (yav rfl (zs (zQ (ii 0) (yaa (yai rfl rfl ⟨_,rfl,(hS.sel []),h⟩)))))
    · replace h:=h.2 hp2;exact yal (zC (zB (zI hp2))) (zs (zQ (ii 13) (yaa (yai rfl rfl ⟨_,rfl,(hS.sel []),h⟩))))
  · replace h:=h.2 hp;exact zf hp (zs (zM (ii r2) (zQ (ii r2) (yaa (yai rfl rfl ⟨_,rfl,(hS.sel []),h⟩)))))
def ybA(d:List Int)(R:Bool→Prop):Prop :=
ybE d (fun r =>
R (decide (0≤r)))
theorem yd9{O:Nat→Prop}{w:World}{d Ad ld cd}{R:Bool→Prop}(h:ybA d R)(hO:∀ k,O k→k<w.heap.size)(hA0:(FP.sl cI Ad ld cd d).P O w) :
    Calls Tryz.prog 132 #[(.slice Ad ld cd)] w fun e w'=>∃ r2,e = .returned (.bool (r2))∧Sep w no O w' (rl [])∧R r2:=by
  unfold ybA at h;have hS:Sep w no O w (rl [Res.ro (FP.sl cI Ad ld cd d)]):=Sep.startl hO [(FP.sl cI Ad ld cd d)] ⟨hA0,trivial⟩;refine yak (l:=[(.slice Ad ld cd)]) func132 rfl ntmps132 zY (zs (zQ (.bool (false)) (yaa (zs (zM (.slice Ad ld cd) (zn (yaj rfl (am1 rfl) enter_178 ((yfy h (yaN _) (hS.rdr 0 rfl)).mono ?_))))))));rintro _ w2 ⟨r,rfl,hC,h⟩;replace hS:=hS.pur hC.pure;clear hC;refine ⟨_,rfl,?_⟩;exact zb (zq (v_geq rfl rfl) (zQ (.bool (decide (0≤r))) (yaa (yai rfl rfl ⟨_,rfl,(hS.sel []),h⟩))))
def ycX(d:Int)(d2:List E3)(i:List Int)(a:Int)(R:(List Int)→Bool→Prop):Prop :=
yaC i (fun r =>
(∃ I2:Nat→Int→(List Int)→Prop,(∃ m0,I2 m0 0 r)∧∀ m2 v v2,I2 m2 v v2 → 
((v<(d2.length:Int) →
((0≤v∧v<(d2.length:Int)) ∧
((0≤((ge d2 v.toNat).1)∧((ge d2 v.toNat).1)<64) ∧
((0≤(a / 2^((ge d2 v.toNat).1).toNat)∧(a / 2^((ge d2 v.toNat).1).toNat)<9223372036854775808∧0≤(1:Int)∧(1:Int)<9223372036854775808) ∧
((0≤((ge d2 v.toNat).2.1)∧((ge d2 v.toNat).2.1)<64) ∧
((0≤(a / 2^((ge d2 v.toNat).2.1).toNat)∧(a / 2^((ge d2 v.toNat).2.1).toNat)<9223372036854775808∧0≤(1:Int)∧(1:Int)<9223372036854775808) ∧
(((((a / 2^((ge d2 v.toNat).2.1).toNat).toNat &&& (1:Int).toNat:Nat):Int)<(((a / 2^((ge d2 v.toNat).1).toNat).toNat &&& (1:Int).toNat:Nat):Int) →
((0≤((ge d2 v.toNat).1)∧((ge d2 v.toNat).1)<(v2.length:Int)) ∧
(In64 ((gi v2 ((ge d2 v.toNat).1).toNat)-((ge d2 v.toNat).2.2)) ∧
((0≤((ge d2 v.toNat).2.1)∧((ge d2 v.toNat).2.1)<(((v2.set ((ge d2 v.toNat).1).toNat ((gi v2 ((ge d2 v.toNat).1).toNat)-((ge d2 v.toNat).2.2))).length:Nat):Int)) ∧
(In64 ((gi (v2.set ((ge d2 v.toNat).1).toNat ((gi v2 ((ge d2 v.toNat).1).toNat)-((ge d2 v.toNat).2.2))) ((ge d2 v.toNat).2.1).toNat)+((ge d2 v.toNat).2.2)) ∧
(In64 (v+1) ∧
∃ m3,m3<m2∧I2 m3 (v+1) ((v2.set ((ge d2 v.toNat).1).toNat ((gi v2 ((ge d2 v.toNat).1).toNat)-((ge d2 v.toNat).2.2))).set ((ge d2 v.toNat).2.1).toNat ((gi (v2.set ((ge d2 v.toNat).1).toNat ((gi v2 ((ge d2 v.toNat).1).toNat)-((ge d2 v.toNat).2.2))) ((ge d2 v.toNat).2.1).toNat)+((ge d2 v.toNat).2.2))))))))) ∧
(¬((((a / 2^((ge d2 v.toNat).2.1).toNat).toNat &&& (1:Int).toNat:Nat):Int)<(((a / 2^((ge d2 v.toNat).1).toNat).toNat &&& (1:Int).toNat:Nat):Int)) →
(((((a / 2^((ge d2 v.toNat).1).toNat).toNat &&& (1:Int).toNat:Nat):Int)<(((a / 2^((ge d2 v.toNat).2.1).toNat).toNat &&& (1:Int).toNat:Nat):Int) →
((0≤((ge d2 v.toNat).2.1)∧((ge d2 v.toNat).2.1)<(v2.length:Int)) ∧
(In64 ((gi v2 ((ge d2 v.toNat).2.1).toNat)-((ge d2 v.toNat).2.2)) ∧
((0≤((ge d2 v.toNat).1)∧((ge d2 v.toNat).1)<(((v2.set ((ge d2 v.toNat).2.1).toNat ((gi v2 ((ge d2 v.toNat).2.1).toNat)-((ge d2 v.toNat).2.2))).length:Nat):Int)) ∧
(In64 ((gi (v2.set ((ge d2 v.toNat).2.1).toNat ((gi v2 ((ge d2 v.toNat).2.1).toNat)-((ge d2 v.toNat).2.2))) ((ge d2 v.toNat).1).toNat)+((ge d2 v.toNat).2.2)) ∧
(In64 (v+1) ∧
∃ m4,m4<m2∧I2 m4 (v+1) ((v2.set ((ge d2 v.toNat).2.1).toNat ((gi v2 ((ge d2 v.toNat).2.1).toNat)-((ge d2 v.toNat).2.2))).set ((ge d2 v.toNat).1).toNat ((gi (v2.set ((ge d2 v.toNat).2.1).toNat ((gi v2 ((ge d2 v.toNat).2.1).toNat)-((ge d2 v.toNat).2.2))) ((ge d2 v.toNat).1).toNat)+((ge d2 v.toNat).2.2))))))))) ∧
(¬((((a / 2^((ge d2 v.toNat).1).toNat).toNat &&& (1:Int).toNat:Nat):Int)<(((a / 2^((ge d2 v.toNat).2.1).toNat).toNat &&& (1:Int).toNat:Nat):Int)) →
(In64 (v+1) ∧
∃ m5,m5<m2∧I2 m5 (v+1) v2))))))))))) ∧
(¬(v<(d2.length:Int)) →
ybA v2 (fun r2 =>
R v2 r2)))))
theorem yhC{O:Nat→Prop}{w:World}{d d2 i a Ad ld cd Ai li ci}{R:(List Int)→Bool→Prop}(h:ycX d d2 i a R)(hO:∀ k,O k→k<w.heap.size)(hA0:(FP.sl c3 Ad ld cd d2).P O w)(hA1:(FP.sl cI Ai li ci i).P O w) :
    Calls Tryz.prog 179 #[(.agg #[(ii d),(.slice Ad ld cd)]),(.slice Ai li ci),(ii a)] w fun e w'=>∃ r3 r4 Ar2 lr2 cr2,e = .returned (.tuple #[(.slice Ar2 lr2 cr2),(.bool (r4))])∧Sep w no O w' (rl [Res.own cI 3 Ar2 lr2 cr2 r3])∧R r3 r4:=by
  unfold ycX at h;have hS:Sep w no O w (rl [Res.ro (FP.sl c3 Ad ld cd d2),Res.ro (FP.sl cI Ai li ci i)]):=Sep.startl hO [(FP.sl c3 Ad ld cd d2),(FP.sl cI Ai li ci i)] ⟨hA0,hA1,trivial⟩;refine yak (l:=[(.agg #[(ii d),(.slice Ad ld cd)]),(.slice Ai li ci),(ii a)]) func179 rfl ntmps179 zY (zs (zn (ybi (v:=(.agg #[(ii d),(.slice Ad ld cd)])) rfl ?_)));intro g w2 hN;replace hS:Sep w no O w2 (stl _ 2 (Res.box 24 g [(ii d),(.slice Ad ld cd)])):=hS.new 2 rfl hN;clear hN;refine zb (zQ (.slice none 0 0) (zQ (.bool (false)) (yaa (zs (zM (.slice Ai li ci) (zn (yaj rfl (am1 rfl) ygE ((ybf h (yaN _) (hS.rdr 1 rfl)).mono ?_))))))));rintro _ w3 ⟨r,Ar,lr,cr,rfl,hC,h⟩;replace hS:=hS.call1 (hC.widen (ydi (ya3 (fI .i64) _ _ _ _ _) yea) hS.blt) 3 0 rfl;clear hC;refine ⟨_,rfl,?_⟩;refine zb (zQ (.slice Ar lr cr) (yaa (yac (zs (zq (yae rfl underlying24 rfl ydx) (zq (zl underlying22 (Row.cell (hS.bx 2 rfl) (i:=1) rfl)) (zq (ybw (n:=d2.length) rfl underlying22 (ybh (hS.rdr 0 rfl))) (zM (ii 0) (yaa (yah ?_))))))))));obtain ⟨I2,⟨m0,h0⟩,hr⟩:=h;refine yaA (fun m E ds w'=>∃ v v2,I2 m v v2∧ds=[]∧E 2=(ii a)∧E 8=(Value.slice Ar lr cr)∧E 16=(Value.slice Ad ld cd)∧E 17=(ii (d2.length:Int))∧E 18=(ii v)∧Sep w no O w' (rl [Res.own cI 3 Ar lr cr v2,Res.ro (FP.sl c3 Ad ld cd d2)])) m0 ⟨_,_,h0,rfl,rfl,rfl,rfl,rfl,rfl,(hS.sel [3,0])⟩ ?_;clear h0 hS;rintro m2 E ds w4 ⟨v,v2,h,rfl,H2,H8,H16,H17,H18,hS⟩ ag;replace h:=hr m2 v v2 h;clear hr;refine zs (zq (ydf H18 H17) (yaa (yac ?_)));by_cases hp:v<(d2.length:Int)
  · replace h:=h.1 hp;refine zc hp (yaf (yac (yah (zs ?_))));obtain ⟨hx,h⟩:=h;refine zq (ycw H16 H18 underlying22 ya0 (yaU (hS.rdr 1 rfl) hx)) (zq (yao (vs:=[(ii ((ge d2 v.toNat).1)),(ii ((ge d2 v.toNat).2.1)),(ii ((ge d2 v.toNat).2.2))]) rfl underlying67 rfl ya0 (rd_fs (hS.rdr 1 rfl) hx (fun q=>ydI q))) ?_);refine zn (ya1 ya0 ?_);intro g2 w5 hN;replace hS:Sep w no O w5 (stl _ 2 (Res.box 67 g2 [(ii 0),(ii 0),(ii 0)])):=hS.new 2 rfl hN;clear hN;refine zb (zo (ycP (b:=g2) (o:=0) (cells:=#[(ii ((ge d2 v.toNat).1)),(ii ((ge d2 v.toNat).2.1)),(ii ((ge d2 v.toNat).2.2))]) rfl rfl ya0 rfl rfl (ybQ (hS.bx 2 rfl) zY) ?_));intro w6 e1;replace hS:=hS.bstn 2 rfl 0 [(ii ((ge d2 v.toNat).1)),(ii ((ge d2 v.toNat).2.1)),(ii ((ge d2 v.toNat).2.2))] e1;clear e1;refine zb (yaa (yac (ya9 [0,1,2,3,4,5,6,7,8,9,10,11] st0 yaQ (by kernel_rfl) (by kernel_rfl) ?_)));replace hS:=hS.drew;refine zp (yad H2) (zp (yae rfl underlying67 rfl yab) (zp (zl underlying3 (Row.cell (hS.bx 2 rfl) (i:=0) rfl)) ?_));obtain ⟨hz,h⟩:=h;refine zp (v_shr rfl rfl hz) ?_;obtain ⟨hz2,h⟩:=h;refine zp (v_andb rfl rfl hz2) (zp (yad H2) (zp (yae rfl underlying67 rfl yab) (zp (zl underlying3 (Row.cell (hS.bx 2 rfl) (i:=1) rfl)) ?_)));obtain ⟨hz3,h⟩:=h;refine zp (v_shr rfl rfl hz3) ?_;obtain ⟨hz4,h⟩:=h;refine zp (v_andb rfl rfl hz4) (zp (za (ii (((a / 2^((ge d2 v.toNat).1).toNat).toNat &&& (1:Int).toNat:Nat):Int))) (zp (za (ii (((a / 2^((ge d2 v.toNat).2.1).toNat).toNat &&& (1:Int).toNat:Nat):Int))) (ybq (yah (zs (zM (ii (((a / 2^((ge d2 v.toNat).1).toNat).toNat &&& (1:Int).toNat:Nat):Int)) (zM (ii (((a / 2^((ge d2 v.toNat).2.1).toNat).toNat &&& (1:Int).toNat:Nat):Int)) (zq zG (zQ (.bool (decide ((((a / 2^((ge d2 v.toNat).2.1).toNat).toNat &&& (1:Int).toNat:Nat):Int)<(((a / 2^((ge d2 v.toNat).1).toNat).toNat &&& (1:Int).toNat:Nat):Int)))) (yaa ?_))))))))));by_cases hp2:(((a / 2^((ge d2 v.toNat).2.1).toNat).toNat &&& (1:Int).toNat:Nat):Int)<(((a / 2^((ge d2 v.toNat).1).toNat).toNat &&& (1:Int).toNat:Nat):Int)
    · replace h:=h.1 hp2;refine zc hp2 (yac (ya9 [0,1,2,3,4,5,6,7,8,9] st0 yaQ (by kernel_rfl) (by kernel_rfl) ?_));replace hS:=hS.drew;refine zp (yad H8) (zp (yae rfl underlying67 rfl yab) (zp (zl underlying3 (Row.cell (hS.bx 2 rfl) (i:=0) rfl)) ?_));obtain ⟨hx2,h⟩:=h;refine zp (zi underlying34 yab (yaU (hS.rdo 0 rfl) hx2)) (zp (yam (v:=(ii (gi v2 ((ge d2 v.toNat).1).toNat))) rfl underlying3 rfl (rd_1 (hS.rdo 0 rfl) hx2 (fun q=>ybe q) rfl)) ?_);refine zp (yae rfl underlying67 rfl yab) (zp (zl underlying3 (Row.cell (hS.bx 2 rfl) (i:=2) rfl)) ?_);obtain ⟨hi,h⟩:=h;refine zp (zS hi) (zp (zi underlying34 yab (yaU (hS.rdo 0 rfl) hx2)) (ygv rfl rfl rfl (zt (ii ((gi v2 ((ge d2 v.toNat).1).toNat)-((ge d2 v.toNat).2.2))) yab (hS.wr 0 rfl rfl hx2) ?_)));intro w7 e1;replace hS:=hS.st 0 rfl rfl hx2 (x:=(gi v2 ((ge d2 v.toNat).1).toNat)-((ge d2 v.toNat).2.2)) rfl e1;clear e1;refine zb (ybq (ya9 [0,1,2,3,4,5,6,7,8,9] st0 yaQ (by kernel_rfl) (by kernel_rfl) ?_));replace hS:=hS.drew;refine zp (yad H8) (zp (yae rfl underlying67 rfl yab) (zp (zl underlying3 (Row.cell (hS.bx 2 rfl) (i:=1) rfl)) ?_));obtain ⟨hx3,h⟩:=h;refine zp (zi underlying34 yab (yaU (hS.rdo 0 rfl) hx3)) (zp (yam (v:=(ii (gi (v2.set ((ge d2 v.toNat).1).toNat ((gi v2 ((ge d2 v.toNat).1).toNat)-((ge d2 v.toNat).2.2))) ((ge d2 v.toNat).2.1).toNat))) rfl underlying3 rfl (rd_1 (hS.rdo 0 rfl) hx3 (fun q=>ybe q) rfl)) ?_);refine zp (yae rfl underlying67 rfl yab) (zp (zl underlying3 (Row.cell (hS.bx 2 rfl) (i:=2) rfl)) ?_);obtain ⟨hi2,h⟩:=h;refine zp (zA hi2) (zp (zi underlying34 yab (yaU (hS.rdo 0 rfl) hx3)) (ygv rfl rfl rfl (zt (ii ((gi (v2.set ((ge d2 v.toNat).1).toNat ((gi v2 ((ge d2 v.toNat).1).toNat)-((ge d2 v.toNat).2.2))) ((ge d2 v.toNat).2.1).toNat)+((ge d2 v.toNat).2.2))) yab (hS.wr 0 rfl rfl hx3) ?_)));intro w8 e1;replace hS:=hS.st 0 rfl rfl hx3 (x:=(gi (v2.set ((ge d2 v.toNat).1).toNat ((gi v2 ((ge d2 v.toNat).1).toNat)-((ge d2 v.toNat).2.2))) ((ge d2 v.toNat).2.1).toNat)+((ge d2 v.toNat).2.2)) rfl e1;clear e1;refine zb (ybq (yag (yag (zr ?_))));obtain ⟨hi3,h⟩:=h;refine zq (ybU H18 rfl hi3) (zM (ii (v+1)) (yaa ?_));obtain ⟨mq,hlt,h⟩:=h;exact ag mq _ _ _ ⟨_,_,h,rfl,H2,H8,H16,H17,rfl,(hS.sel [0,1])⟩ hlt
    · replace h:=h.2 hp2;refine zd hp2 (zs (zM (ii (((a / 2^((ge d2 v.toNat).2.1).toNat).toNat &&& (1:Int).toNat:Nat):Int)) (zM (ii (((a / 2^((ge d2 v.toNat).1).toNat).toNat &&& (1:Int).toNat:Nat):Int)) (zq zG (zQ (.bool (decide ((((a / 2^((ge d2 v.toNat).1).toNat).toNat &&& (1:Int).toNat:Nat):Int)<(((a / 2^((ge d2 v.toNat).2.1).toNat).toNat &&& (1:Int).toNat:Nat):Int)))) (yaa ?_))))));by_cases hp3:(((a / 2^((ge d2 v.toNat).1).toNat).toNat &&& (1:Int).toNat:Nat):Int)<(((a / 2^((ge d2 v.toNat).2.1).toNat).toNat &&& (1:Int).toNat:Nat):Int)
      · replace h:=h.1 hp3;refine zc hp3 (yac (ya9 [0,1,2,3,4,5,6,7,8,9] st0 yaQ (by kernel_rfl) (by kernel_rfl) ?_));replace hS:=hS.drew;refine zp (yad H8) (zp (yae rfl underlying67 rfl yab) (zp (zl underlying3 (Row.cell (hS.bx 2 rfl) (i:=1) rfl)) ?_));obtain ⟨hx4,h⟩:=h;refine zp (zi underlying34 yab (yaU (hS.rdo 0 rfl) hx4)) (zp (yam (v:=(ii (gi v2 ((ge d2 v.toNat).2.1).toNat))) rfl underlying3 rfl (rd_1 (hS.rdo 0 rfl) hx4 (fun q=>ybe q) rfl)) ?_);refine zp (yae rfl underlying67 rfl yab) (zp (zl underlying3 (Row.cell (hS.bx 2 rfl) (i:=2) rfl)) ?_);obtain ⟨hi4,h⟩:=h;refine zp (zS hi4) (zp (zi underlying34 yab (yaU (hS.rdo 0 rfl) hx4)) (ygv rfl rfl rfl (zt (ii ((gi v2 ((ge d2 v.toNat).2.1).toNat)-((ge d2 v.toNat).2.2))) yab (hS.wr 0 rfl rfl hx4) ?_)));intro w9 e1;replace hS:=hS.st 0 rfl rfl hx4 (x:=(gi v2 ((ge d2 v.toNat).2.1).toNat)-((ge d2 v.toNat).2.2)) rfl e1;clear e1;refine zb (ybq (ya9 [0,1,2,3,4,5,6,7,8,9] st0 yaQ (by kernel_rfl) (by kernel_rfl) ?_));replace hS:=hS.drew;refine zp (yad H8) (zp (yae rfl underlying67 rfl yab) (zp (zl underlying3 (Row.cell (hS.bx 2 rfl) (i:=0) rfl)) ?_));obtain ⟨hx5,h⟩:=h;refine zp (zi underlying34 yab (yaU (hS.rdo 0 rfl) hx5)) (zp (yam (v:=(ii (gi (v2.set ((ge d2 v.toNat).2.1).toNat ((gi v2 ((ge d2 v.toNat).2.1).toNat)-((ge d2 v.toNat).2.2))) ((ge d2 v.toNat).1).toNat))) rfl underlying3 rfl (rd_1 (hS.rdo 0 rfl) hx5 (fun q=>ybe q) rfl)) ?_);refine zp (yae rfl underlying67 rfl yab) (zp (zl underlying3 (Row.cell (hS.bx 2 rfl) (i:=2) rfl)) ?_);obtain ⟨hi5,h⟩:=h;refine zp (zA hi5) (zp (zi underlying34 yab (yaU (hS.rdo 0 rfl) hx5)) (ygv rfl rfl rfl (zt (ii ((gi (v2.set ((ge d2 v.toNat).2.1).toNat ((gi v2 ((ge d2 v.toNat).2.1).toNat)-((ge d2 v.toNat).2.2))) ((ge d2 v.toNat).1).toNat)+((ge d2 v.toNat).2.2))) yab (hS.wr 0 rfl rfl hx5) ?_)));intro w10 e1;replace hS:=hS.st 0 rfl rfl hx5 (x:=(gi (v2.set ((ge d2 v.toNat).2.1).toNat ((gi v2 ((ge d2 v.toNat).2.1).toNat)-((ge d2 v.toNat).2.2))) ((ge d2 v.toNat).1).toNat)+((ge d2 v.toNat).2.2)) rfl e1;clear e1;refine zb (ybq (yag (yag (zr ?_))));obtain ⟨hi6,h⟩:=h;refine zq (ybU H18 rfl hi6) (zM (ii (v+1)) (yaa ?_));obtain ⟨mq,hlt,h⟩:=h;exact ag mq _ _ _ ⟨_,_,h,rfl,H2,H8,H16,H17,rfl,(hS.sel [0,1])⟩ hlt
      · replace h:=h.2 hp3;refine zd hp3 (yaf (yag (yag (zr ?_))));obtain ⟨hi7,h⟩:=h;refine zq (ybU H18 rfl hi7) (zM (ii (v+1)) (yaa ?_));obtain ⟨mq,hlt,h⟩:=h;exact ag mq _ _ _ ⟨_,_,h,rfl,H2,H8,H16,H17,rfl,(hS.sel [0,1])⟩ hlt
  · replace h:=h.2 hp;refine zd hp (yav rfl (zs (zq (yad H8) (zq (yad H8) (zn (yaj rfl (am1 rfl) enter_132 ((yd9 h (yaN _) (hS.rdo 0 rfl)).mono ?_)))))));rintro _ w11 ⟨r2,rfl,hC,h⟩;replace hS:=hS.pur hC.pure;clear hC;refine ⟨_,rfl,?_⟩;exact zb (zQ (.slice Ar lr cr) (zQ (.bool (r2)) (yaa (yaZ rfl rfl rfl ⟨_,_,_,_,_,rfl,(hS.sel [0]),h⟩))))
def ycm(d:List Int)(R:(List Int)→Prop):Prop :=
(0<d.length ∧
((cpy (List.replicate 12 (0:Int)) d).length=12 ∧
R (cpy (List.replicate 12 (0:Int)) d)))
theorem yft{O:Nat→Prop}{w:World}{d Ad ld cd}{R:(List Int)→Prop}(h:ycm d R)(hO:∀ k,O k→k<w.heap.size)(hA0:(FP.sl cI Ad ld cd d).P O w) :
    Calls Tryz.prog 133 #[(.slice Ad ld cd)] w fun e w'=>∃ r,e = .returned (kE r)∧Sep w no O w' (rl [])∧R r:=by
  unfold ycm at h;have hS:Sep w no O w (rl [Res.ro (FP.sl cI Ad ld cd d)]):=Sep.startl hO [(FP.sl cI Ad ld cd d)] ⟨hA0,trivial⟩;refine yak (l:=[(.slice Ad ld cd)]) func133 rfl ntmps133 zY (zs (zn (ya1 yej ?_)));intro g w2 hN;replace hS:=hS.made (n:=12) 1 rfl cI (ii 0) (0:Int) (fun _ _=>rfl) (hN:New _ _ _ (Array.replicate 12 (ii 0)) 195) (by decide);clear hN;refine zb (yaa (zs (zn (ya1 yej ?_))));intro g2 w3 hN;replace hS:=hS.made (n:=12) 2 rfl cI (ii 0) (0:Int) (fun _ _=>rfl) (hN:New _ _ _ (Array.replicate 12 (ii 0)) 195) (by decide);clear hN;refine zb (yaa (zs (zq (v_slice_a rfl underlying195 yab) (zM (.slice Ad ld cd) ?_))));obtain ⟨hx,h⟩:=h;refine zn (n_cpy rfl rfl underlying33 yab hS 2 rfl (hS.rdr 0 rfl) hx ?_);clear hS;intro w4 hS;refine zb (yaa (zs (zq (yao (vs:=(cpy (List.replicate 12 (0:Int)) d).map (Value.int .i64)) rfl underlying195 rfl (yhZ yej (hS.rdo 2 rfl)) (ygR (hS.rdo 2 rfl))) ?_)));obtain ⟨hx2,h⟩:=h;refine zo (n_starr rfl rfl yej hS 1 rfl hx2 ?_);clear hS;intro w5 hS;exact zb (yaa (wt_retx1 rfl (rv_a rfl underlying195 rfl yej hS 1 rfl) ⟨_,rfl,(hS.sel []),h⟩))
def yaR(d:List (List Int))(Fi:(List Int)→(List Int)→(Bool→Prop)→Prop)(R:(List (List Int))→Prop):Prop :=
(((d.length:Int)<2 →
R d) ∧
(¬((d.length:Int)<2) →
(∃ I2:Nat→Int→Prop,(∃ m0,I2 m0 1)∧∀ m2 v,I2 m2 v → 
((v<(d.length:Int) →
((0≤v∧v<(d.length:Int)) ∧
(In64 (v-1) ∧
((0≤(v-1)∧(v-1)<(d.length:Int)) ∧
Fi (gx d v.toNat) (gx d (v-1).toNat) (fun (r:Bool) =>
((r=true →
False) ∧
(¬(r=true) →
(In64 (v+1) ∧
∃ m3,m3<m2∧I2 m3 (v+1))))))))) ∧
(¬(v<(d.length:Int)) →
R d)))))
theorem ydM{O:Nat→Prop}{w:World}{d:List (List Int)}{Fi:(List Int)→(List Int)→(Bool→Prop)→Prop}{Ad:Option Addr}{ld:Nat}{cd:Nat}{i:Value}{R:(List (List Int))→Prop}(h:yaR d Fi R)(hO:∀ k,O k→k<w.heap.size)(hA0:(FP.sl (cL cI) Ad ld cd d).P O w)(hA1:(FP.st fun w'=>∃ (fid:Nat) (us:Array Value),i=Value.func (.func fid) #[] us∧Enters Tryz.prog fid∧∀ (x0:List Int) (x1:List Int) (Ax0:Option Addr) (lx0:Nat) (cx0:Nat) (Ax1:Option Addr) (lx1:Nat) (cx1:Nat) (R:Bool→Prop),Fi x0 x1 R→(FP.sl cI Ax0 lx0 cx0 x0).P no w'→(FP.sl cI Ax1 lx1 cx1 x1).P no w'→Calls Tryz.prog fid (#[(Value.slice Ax0 lx0 cx0),(Value.slice Ax1 lx1 cx1)]++us) w' fun e w''=>∃ r0:Bool,e = .returned (Value.bool (r0))∧Sep w' no no w'' (rl [])∧R r0).P O w) :
    Calls Tryz.prog 181 #[(.slice Ad ld cd),i] w fun e w'=>∃ r2 Ar lr cr,e = .returned (.slice Ar lr cr)∧Sep w no O w' (rl [Res.ro (FP.sl (cL cI) Ar lr cr r2)])∧R r2:=by
  unfold yaR at h;have hS:Sep w no O w (rl [Res.ro (FP.sl (cL cI) Ad ld cd d),Res.ro (FP.st fun w'=>∃ (fid:Nat) (us:Array Value),i=Value.func (.func fid) #[] us∧Enters Tryz.prog fid∧∀ (x0:List Int) (x1:List Int) (Ax0:Option Addr) (lx0:Nat) (cx0:Nat) (Ax1:Option Addr) (lx1:Nat) (cx1:Nat) (R:Bool→Prop),Fi x0 x1 R→(FP.sl cI Ax0 lx0 cx0 x0).P no w'→(FP.sl cI Ax1 lx1 cx1 x1).P no w'→Calls Tryz.prog fid (#[(Value.slice Ax0 lx0 cx0),(Value.slice Ax1 lx1 cx1)]++us) w' fun e w''=>∃ r0:Bool,e = .returned (Value.bool (r0))∧Sep w' no no w'' (rl [])∧R r0)]):=Sep.startl hO [(FP.sl (cL cI) Ad ld cd d),(FP.st fun w'=>∃ (fid:Nat) (us:Array Value),i=Value.func (.func fid) #[] us∧Enters Tryz.prog fid∧∀ (x0:List Int) (x1:List Int) (Ax0:Option Addr) (lx0:Nat) (cx0:Nat) (Ax1:Option Addr) (lx1:Nat) (cx1:Nat) (R:Bool→Prop),Fi x0 x1 R→(FP.sl cI Ax0 lx0 cx0 x0).P no w'→(FP.sl cI Ax1 lx1 cx1 x1).P no w'→Calls Tryz.prog fid (#[(Value.slice Ax0 lx0 cx0),(Value.slice Ax1 lx1 cx1)]++us) w' fun e w''=>∃ r0:Bool,e = .returned (Value.bool (r0))∧Sep w' no no w'' (rl [])∧R r0)] ⟨hA0,hA1,trivial⟩;refine yak (l:=[(Value.slice Ad ld cd),i]) func181 rfl ntmps181 (Nat.le_of_ble_eq_true rfl) ?_;refine yac ?_;refine yaL yaQ ?_;refine rl_q rfl rfl rfl (yeE (v:=(.slice none 0 0)) rfl) ?_;refine yaa ?_;refine yac ?_;refine yac ?_;refine yaL yaQ ?_;refine rl_q rfl rfl rfl (yad (v:=(.slice Ad ld cd)) rfl) ?_;refine rl_q rfl rfl rfl (ybw (n:=d.length) rfl underlying28 (ybh (hS.rdr 0 rfl))) ?_;refine rl_q rfl rfl rfl (ydf rfl rfl) ?_;refine yaa ?_;by_cases hp:((d.length:Nat):Int)<2
  · replace h:=h.1 hp;exact zc hp (zs (zM (.slice Ad ld cd) (zQ (.slice Ad ld cd) (yaa (yai rfl rfl ⟨_,_,_,_,rfl,(hS.sel [0]),h⟩)))))
  · replace h:=h.2 hp;refine yaq (congrArg Value.bool (decide_eq_false hp)) ?_;refine yaf ?_;refine yac ?_;refine yac ?_;refine yaL yaQ ?_;refine rl_q rfl rfl rfl (yeE (v:=(.int .i64 1)) rfl) ?_;refine yaa ?_;refine yah ?_;obtain ⟨I2,⟨m0,h0⟩,hr⟩:=h;refine yaA (fun m E ds w'=>∃ v:Int,I2 m v∧ds=[]∧E 0=(Value.slice Ad ld cd)∧E 1=i∧E 5=(Value.int .i64 v)∧Sep w no O w' (rl [Res.ro (FP.sl (cL cI) Ad ld cd d),Res.ro (FP.st fun w'=>∃ (fid:Nat) (us:Array Value),i=Value.func (.func fid) #[] us∧Enters Tryz.prog fid∧∀ (x0:List Int) (x1:List Int) (Ax0:Option Addr) (lx0:Nat) (cx0:Nat) (Ax1:Option Addr) (lx1:Nat) (cx1:Nat) (R:Bool→Prop),Fi x0 x1 R→(FP.sl cI Ax0 lx0 cx0 x0).P no w'→(FP.sl cI Ax1 lx1 cx1 x1).P no w'→Calls Tryz.prog fid (#[(Value.slice Ax0 lx0 cx0),(Value.slice Ax1 lx1 cx1)]++us) w' fun e w''=>∃ r0:Bool,e = .returned (Value.bool (r0))∧Sep w' no no w'' (rl [])∧R r0)])) m0 ⟨_,h0,rfl,rfl,rfl,rfl,(hS.sel [0,1] (by decide))⟩ ?_;clear h0 hS;rintro m2 E ds w2 ⟨v,h,rfl,H0,H1,H5,hS⟩ ag;replace h:=hr m2 v h;clear hr;refine yac ?_;refine yac ?_;refine yaL yaQ ?_;refine rl_q rfl rfl rfl (yad (v:=(.int .i64 v)) H5) ?_;refine rl_q rfl rfl rfl (yad (v:=(.slice Ad ld cd)) H0) ?_;refine rl_q rfl rfl rfl (ybw (n:=d.length) rfl underlying28 (ybh (hS.rdr 0 rfl))) ?_;refine rl_q rfl rfl rfl (ydf rfl rfl) ?_;refine yaa ?_;by_cases hp2:v<((d.length:Nat):Int)
    · replace h:=h.1 hp2;refine zc hp2 (yaf (yac (yah (yac (ya9 [0,1,2,3,4,5,6,7,8,9,10] st0 yaQ (by kernel_rfl) (by kernel_rfl) ?_)))));replace hS:=hS.drew;refine zp (yad H1) (zp (yad H0) (zp (yad H5) ?_));obtain ⟨hx,h⟩:=h;refine zp (zi underlying28 yaY (yaU (hS.rdr 0 rfl) hx)) ?_;obtain ⟨A,l,c,hc,hq⟩:=hS.el 0 rfl hx 2 3 rfl rfl (by decide);replace hS:=hq;clear hq;refine zp (yam (v:=(.slice A l c)) rfl underlying34 rfl (hS.clr 3 rfl)) (zp (yad H0) (zp (yad H5) ?_));obtain ⟨hi,h⟩:=h;refine zp (zS hi) ?_;obtain ⟨hx2,h⟩:=h;refine zp (zi underlying28 yaY (yaU (hS.rdr 0 rfl) hx2)) ?_;obtain ⟨A2,l2,c4,hc2,hq⟩:=hS.el 0 rfl hx2 4 5 rfl rfl (by decide);replace hS:=hq;clear hq;refine zp (yam (v:=(.slice A2 l2 c4)) rfl underlying34 rfl (hS.clr 5 rfl)) ?_;obtain ⟨fid,us,hf,he,hcl⟩:=hS.ro 1 rfl _ (Keeps.refl _ _);replace h:=hcl _ _ _ _ _ _ _ _ _ h (hS.rdr 2 rfl) (hS.rdr 4 rfl);clear hcl;refine rp_n rfl rfl rfl rfl (ydv (hf) (am2 rfl rfl) he (h.mono ?_));clear hf he;rintro _ w3 ⟨r,rfl,hC,h⟩;replace hS:=hS.pur hC.pure;clear hC;refine ⟨_,rfl,?_⟩;refine zb (ybq ?_);by_cases hp3:r=true
      · replace h:=h.1 hp3;exact yal (zC hp3) (zs (zq (yad H0) (zq (yad H5) h.elim)))
      · replace h:=h.2 hp3;refine yaq (zC (zI hp3)) (yaf (yag (zr (zq (yad H5) ?_))));obtain ⟨hi2,h⟩:=h;refine zq (zA hi2) (zQ (ii (v+1)) (yaa ?_));obtain ⟨mq,hlt,h⟩:=h;exact ag mq _ _ _ ⟨_,h,rfl,H0,H1,rfl,(hS.sel [0,1])⟩ hlt
    · replace h:=h.2 hp2;exact zd hp2 (yav rfl (zs (zq (yad H0) (zQ (.slice Ad ld cd) (yaa (yai rfl rfl ⟨_,_,_,_,rfl,(hS.sel [0]),h⟩))))))
def yb3(a:List Int)(b:List Int)(R:Bool→Prop):Prop :=
yaT a b (fun r =>
R r)
theorem ygk{O:Nat→Prop}{w:World}{a b Aa la ca Ab lb cb}{R:Bool→Prop}(h:yb3 a b R)(hO:∀ k,O k→k<w.heap.size)(hA0:(FP.sl cI Aa la ca a).P O w)(hA1:(FP.sl cI Ab lb cb b).P O w) :
    Calls Tryz.prog 182 #[(.slice Aa la ca),(.slice Ab lb cb)] w fun e w'=>∃ r2,e = .returned (.bool (r2))∧Sep w no O w' (rl [])∧R r2:=by
  unfold yb3 at h;have hS:Sep w no O w (rl [Res.ro (FP.sl cI Aa la ca a),Res.ro (FP.sl cI Ab lb cb b)]):=Sep.startl hO [(FP.sl cI Aa la ca a),(FP.sl cI Ab lb cb b)] ⟨hA0,hA1,trivial⟩;refine yak (l:=[(.slice Aa la ca),(.slice Ab lb cb)]) func182 rfl ntmps182 zY (zs (zQ (.bool (false)) (yaa (zs (zM (.slice Aa la ca) (zM (.slice Ab lb cb) (zn (yaj rfl (am2 rfl rfl) enter_14 ((ycn h (yaN _) (hS.rdr 0 rfl) (hS.rdr 1 rfl)).mono ?_)))))))));rintro _ w2 ⟨r,rfl,hC,h⟩;replace hS:=hS.pur hC.pure;clear hC;refine ⟨_,rfl,?_⟩;exact zb (zQ (.bool (r)) (yaa (yai rfl rfl ⟨_,rfl,(hS.sel []),h⟩)))
def ycE(l:List (List Int))(R:(List (List Int))→Prop):Prop :=
yfw l (fun y =>
yaR y (fun x x2 R=>yb3 x x2 R) (fun r =>
R r))
theorem yhk{S O:Nat→Prop}{w:World}{l Al ll cl}{R:(List (List Int))→Prop}(h:ycE l R)(hS:Sep w S O w (rl [Res.own (cL cI) 34 Al ll cl l])) :
    Calls Tryz.prog 136 #[(.slice Al ll cl)] w fun e w'=>∃ r2 Ar2 lr2 cr2,e = .returned (.slice Ar2 lr2 cr2)∧Sep w S O w' (rl [Res.ro (FP.sl (cL cI) Ar2 lr2 cr2 r2)])∧R r2:=by
  unfold ycE at h;refine yak (l:=[(.slice Al ll cl)]) func136 rfl ntmps136 zY (zs (zQ (.slice none 0 0) (yaa (zs (zM (.slice Al ll cl) ?_)))));have hB:=hS.lend (asc [(0,0)]) [0] (by decide) ⟨.inl (ya4 rfl),trivial⟩;refine zn (ydv (vs:=#[(.slice Al ll cl),(.func (Fn.func 180) #[] #[])]) (us:=#[]) rfl (am2 rfl rfl) enter_34 ((ya8 (by simp) (yhh h hB)).mono ?_));rintro _ w2 ⟨y,rfl,hC,h⟩;replace hS:=hS.back (asc [(0,0)]) (ydy (by decide)) hC;clear hC hB;refine ⟨_,rfl,?_⟩;refine zb (yaa (zs (zM (.slice Al ll cl) ?_)));replace hS:=hS.frz 0 rfl;refine zn (yaj rfl (am2 rfl rfl) enter_181 ((ydM h hS.blt (hS.ro 0 rfl) (fun w' hk=>⟨182,#[],rfl,enter_182,fun x x2 Ax lx cx Ax2 lx2 cx2 R hF hz0 hz1=>ya8 (by simp) (ygk hF (yaN _) hz0 hz1)⟩)).mono ?_));rintro _ w3 ⟨r,Ar,lr,cr,rfl,hC,h⟩;replace hS:=hS.call1 hC 1 0 rfl;clear hC;refine ⟨_,rfl,?_⟩;exact zb (zQ (.slice Ar lr cr) (yaa (yai rfl rfl ⟨_,_,_,_,rfl,(hS.sel [1]),h⟩)))
def yb9(x:List Int)(cap:List (List Int×Bool))(cap2:List (List Int))(R:(List (List Int×Bool))→(List (List Int))→Prop):Prop :=
ycm x (fun r =>
(r.length=12 ∧
(KOk 12 cap ∧
yhl 12 r ∧
((((mget cap r).getD false)=true →
R cap cap2) ∧
(¬(((mget cap r).getD false)=true) →
(cap2.length+1≤1000000000 ∧
R (mput cap r true) (cap2++[x])))))))
theorem ygs{S O:Nat→Prop}{w:World}{x cap cap2 Ax lx cx gc gm gc2 Aa Ab Ac}{R:(List (List Int×Bool))→(List (List Int))→Prop}(h:yb9 x cap cap2 R)(hS:Sep w S O w (rl [Res.ro (FP.sl cI Ax lx cx x),Res.box 197 gc [(Value.map (some gm))],Res.obj gm (mapO Value.bool cap),Res.box 28 gc2 [(Value.slice Aa Ab Ac)],Res.own (cL cI) 34 Aa Ab Ac cap2])) :
    Calls Tryz.prog 134 #[(.slice Ax lx cx),(.pointer (some ⟨gc,0,none⟩)),(.pointer (some ⟨gc2,0,none⟩))] w fun e w'=>∃ z z2 Az lz cz,e = .returned (.tuple #[])∧Sep w S O w' (rl [Res.box 197 gc [(Value.map (some gm))],Res.obj gm (mapO Value.bool z),Res.box 28 gc2 [(.slice Az lz cz)],Res.own (cL cI) 34 Az lz cz z2])∧R z z2:=by
  unfold yb9 at h;refine yak (l:=[(.slice Ax lx cx),(.pointer (some ⟨gc,0,none⟩)),(.pointer (some ⟨gc2,0,none⟩))]) func134 rfl ntmps134 zY (zs (zM (.slice Ax lx cx) (zn (yaj rfl (am1 rfl) enter_133 ((yft h (yaN _) (hS.rdr 0 rfl)).mono ?_)))));rintro _ w2 ⟨r,rfl,hC,h⟩;replace hS:=hS.pur hC.pure;clear hC;refine ⟨_,rfl,?_⟩;refine zb (zn (ya1 yej ?_));intro g w3 hN;replace hS:=hS.made (n:=12) 5 rfl cI (ii 0) (0:Int) (fun _ _=>rfl) (hN:New _ _ _ (Array.replicate 12 (ii 0)) 195) (by decide);clear hN;refine zb ?_;obtain ⟨hx,h⟩:=h;refine zo (n_starr rfl rfl yej hS 5 rfl hx ?_);clear hS;intro w4 hS;refine zb (yaa (zs (zq (zl underlying197 (Row.cell (hS.bx 1 rfl) (i:=0) rfl)) (zq (yao (vs:=r.map (Value.int .i64)) rfl underlying195 rfl (yhZ yej (hS.rdo 5 rfl)) (ygR (hS.rdo 5 rfl))) ?_))));obtain ⟨hx2,h⟩:=h;obtain ⟨hx3,h⟩:=h;refine zn (n_val (v_mget1 (vE:=Value.bool) (x0:=false) (keyt_195) hx2 hx3 rfl rfl underlying197 ybP (hS.mp 2 rfl)) ?_);refine zb (zq (ydd rfl) (yaa ?_));by_cases hp:((mget cap r).getD false)=true
  · replace h:=h.1 hp;exact yaq (zC (zB hp)) (yaf (ydJ rfl ⟨_,_,_,_,_,rfl,(hS.sel [1,2,3,4]),h⟩))
  · replace h:=h.2 hp;refine yal (zC (zB (zI hp))) (zs (zq (zl underlying197 (Row.cell (hS.bx 1 rfl) (i:=0) rfl)) (zq (yao (vs:=r.map (Value.int .i64)) rfl underlying195 rfl (yhZ yej (hS.rdo 5 rfl)) (ygR (hS.rdo 5 rfl))) (zo (n_mput (vE:=Value.bool) (keyt_195) hx2 hx3 (v:=true) rfl rfl rfl underlying197 (hS.mp 2 rfl) ?_)))));intro w5 e1 e2;replace hS:=hS.mst 2 rfl e1 e2;clear e1 e2;refine zb (yaa (zr (zq (zl underlying28 (Row.cell (hS.bx 3 rfl) (i:=0) rfl)) (zM (.slice Ax lx cx) (zn (ybb (l:=[(0,(.slice Ax lx cx))]) (cells:=[(.slice Ax lx cx)]) (bp1 rfl) underlying28 yaY rfl rfl ?_))))));intro g2 w6 hN;replace hS:=hS.lit (n:=1) (c:=(cL cI)) 6 rfl hN ([x]:List (List Int)) rfl (by decide) ⟨[(.slice Ax lx cx)],_,rfl,(ro_R (hS.ro 0 rfl)),rfl⟩;clear hN;refine zb ?_;obtain ⟨hx4,h⟩:=h;refine zn (yiF (c:=(cL cI)) rfl rfl underlying28 underlying28 yaY rfl rfl (by decide) hS 4 rfl (hS.yo 6 rfl) hx4 ?_);clear hS;intro A c w7 hS;refine zb (zo (zt (.slice A (Ab+1) c) ycv (hS.bwr 3 rfl (j:=0) rfl) ?_));intro w8 e1;replace hS:=hS.bst 3 rfl 0 (.slice A (Ab+1) c) e1;clear e1;exact zb (yaa (ydJ rfl ⟨_,_,_,_,_,rfl,(hS.sel [1,2,3,4]),h⟩))
def ycU(g:Int)(g2:List E3)(d:List Int)(each:List (List Int×Bool))(each2:List (List Int))(R:(List (List Int×Bool))→(List (List Int))→Prop):Prop :=
(∃ I2:Nat→Int→(List (List Int×Bool))→(List (List Int))→Prop,(∃ m0,I2 m0 1 each each2)∧∀ m2 set2 each3 each4,I2 m2 set2 each3 each4 → 
((0≤g∧g<64) ∧
In64 (1*2^g.toNat) ∧
(In64 ((1*2^g.toNat)-1) ∧
((set2<((1*2^g.toNat)-1) →
ycX g g2 d set2 (fun r r2 =>
((r2=true →
yb9 r each3 each4 (fun y y2 =>
(In64 (set2+1) ∧
∃ m3,m3<m2∧I2 m3 (set2+1) y y2))) ∧
(¬(r2=true) →
(In64 (set2+1) ∧
∃ m4,m4<m2∧I2 m4 (set2+1) each3 each4))))) ∧
(¬(set2<((1*2^g.toNat)-1)) →
R each3 each4)))))
theorem yhK{S O:Nat→Prop}{w:World}{g g2 d each each2 Ag lg cg Ad ld cd gc gm gc2 Aa Ab Ac}{R:(List (List Int×Bool))→(List (List Int))→Prop}(h:ycU g g2 d each each2 R)(hS:Sep w S O w (rl [Res.ro (FP.sl c3 Ag lg cg g2),Res.ro (FP.sl cI Ad ld cd d),Res.box 197 gc [(Value.map (some gm))],Res.obj gm (mapO Value.bool each),Res.box 28 gc2 [(Value.slice Aa Ab Ac)],Res.own (cL cI) 34 Aa Ab Ac each2])) :
    Calls Tryz.prog 135 #[(.agg #[(ii g),(.slice Ag lg cg)]),(.slice Ad ld cd),(.func (Fn.func 134) #[] #[(.pointer (some ⟨gc,0,none⟩)),(.pointer (some ⟨gc2,0,none⟩))])] w fun e w'=>∃ z z2 Az lz cz,e = .returned (.tuple #[])∧Sep w S O w' (rl [Res.box 197 gc [(Value.map (some gm))],Res.obj gm (mapO Value.bool z),Res.box 28 gc2 [(.slice Az lz cz)],Res.own (cL cI) 34 Az lz cz z2])∧R z z2:=by
  unfold ycU at h;refine yak (l:=[(.agg #[(ii g),(.slice Ag lg cg)]),(.slice Ad ld cd),(.func (Fn.func 134) #[] #[(.pointer (some ⟨gc,0,none⟩)),(.pointer (some ⟨gc2,0,none⟩))])]) func135 rfl ntmps135 zY (zs (zn (ybi (v:=(.agg #[(ii g),(.slice Ag lg cg)])) rfl ?_)));intro g3 w2 hN;replace hS:Sep w S O w2 (stl _ 6 (Res.box 24 g3 [(ii g),(.slice Ag lg cg)])):=hS.new 6 rfl hN;clear hN;refine zb (yaa (zs (zQ (ii 1) (yaa (yah ?_)))));obtain ⟨I2,⟨m0,h0⟩,hr⟩:=h;refine yaA (fun m E ds w'=>∃ set2 each3 each4 Ae Af Ah,I2 m set2 each3 each4∧ds=[]∧E 1=(Value.slice Ad ld cd)∧E 2=(Value.func (Fn.func 134) #[] #[(.pointer (some ⟨gc,0,none⟩)),(.pointer (some ⟨gc2,0,none⟩))])∧E 3=(Value.pointer (some ⟨g3,0,none⟩))∧E 6=(ii set2)∧Sep w S O w' (rl [Res.ro (FP.sl cI Ad ld cd d),Res.box 197 gc [(Value.map (some gm))],Res.obj gm (mapO Value.bool each3),Res.box 28 gc2 [(.slice Ae Af Ah)],Res.own (cL cI) 34 Ae Af Ah each4,Res.box 24 g3 [(ii g),(.slice Ag lg cg)],Res.ro (FP.sl c3 Ag lg cg g2)])) m0 ⟨_,_,_,_,_,_,h0,rfl,rfl,rfl,rfl,rfl,(hS.sel [1,2,3,4,5,6,0])⟩ ?_;clear h0 hS;rintro m2 E ds w3 ⟨set2,each3,each4,Ae,Af,Ah,h,rfl,H1,H2,H3,H6,hS⟩ ag;replace h:=hr m2 set2 each3 each4 h;clear hr;refine yac (zs (zq (yad H6) (zq (yae H3 underlying24 rfl yab) (zq (zl underlying3 (Row.cell (hS.bx 5 rfl) (i:=0) rfl)) ?_))));obtain ⟨hz,h⟩:=h;obtain ⟨hi,h⟩:=h;refine zq (v_shl rfl rfl hz hi) ?_;obtain ⟨hi2,h⟩:=h;refine zq (zS hi2) (zq zL (yaa ?_));by_cases hp:set2<((1*2^g.toNat)-1)
  · replace h:=h.1 hp;refine zc hp (yaf (yac (yah (zs (zq (yao (vs:=[(ii g),(.slice Ag lg cg)]) H3 underlying24 rfl yat ⟨Row.cell (hS.bx 5 rfl) (i:=0) rfl,Row.cell (hS.bx 5 rfl) (i:=1) rfl,trivial⟩) (zq (yad H1) (zq (yad H6) (zn (yaj rfl (am3 rfl rfl rfl) enter_179 ((yhC h (yaN _) (hS.rdr 6 rfl) (hS.rdr 0 rfl)).mono ?_))))))))));rintro _ w4 ⟨r,r2,Ar,lr,cr,rfl,hC,h⟩;replace hS:=hS.call1 (hC.widen (ydi (ya3 (fI .i64) _ _ _ _ _) yea) hS.blt) 7 0 rfl;clear hC;refine ⟨_,rfl,?_⟩;refine zb (zM (.tuple #[(.slice Ar lr cr),(.bool (r2))]) (zq (zx (.slice Ar lr cr)) (zq (zx (.bool (r2))) (zQ (.slice Ar lr cr) (zQ (.bool (r2)) (yaa (zs (zM (.bool (r2)) (yaa ?_)))))))));by_cases hp2:r2=true
    · replace h:=h.1 hp2;refine yal (zC hp2) (zr (zq (yad (v:=(Value.func (Fn.func 134) #[] #[(.pointer (some ⟨gc,0,none⟩)),(.pointer (some ⟨gc2,0,none⟩))])) H2) (zM (.slice Ar lr cr) ?_)));replace hS:=hS.frz 7 rfl;have hB:=hS.lend (asc [(1,0),(2,1),(3,2),(4,3)]) [7,1,2,3,4] (by decide) ⟨.inr rfl, .inl (ya4 rfl), .inl (ya4 rfl), .inl (ya4 rfl), .inl (ya4 rfl),trivial⟩;refine zn (ydv (vs:=#[(.slice Ar lr cr)]) (us:=#[(.pointer (some ⟨gc,0,none⟩)),(.pointer (some ⟨gc2,0,none⟩))]) rfl (am1 rfl) enter_134 ((ya8 (by simp) (ygs h hB)).mono ?_));rintro _ w5 ⟨y,y2,A,l,c,rfl,hC,h⟩;replace hS:=hS.back (asc [(1,0),(2,1),(3,2),(4,3)]) (ydy (by decide)) hC;clear hC hB;refine ⟨_,rfl,?_⟩;refine zb (yaa (yag (zr (zq (yad H6) ?_))));obtain ⟨hi3,h⟩:=h;refine zq (zA hi3) (zQ (ii (set2+1)) (yaa ?_));obtain ⟨mq,hlt,h⟩:=h;exact ag mq _ _ _ ⟨_,_,_,_,_,_,h,rfl,H1,H2,H3,rfl,(hS.sel [0,1,2,3,4,5,6])⟩ hlt
    · replace h:=h.2 hp2;refine yaq (zC (zI hp2)) (yaf (yag (zr (zq (yad H6) ?_))));obtain ⟨hi4,h⟩:=h;refine zq (zA hi4) (zQ (ii (set2+1)) (yaa ?_));obtain ⟨mq,hlt,h⟩:=h;exact ag mq _ _ _ ⟨_,_,_,_,_,_,h,rfl,H1,H2,H3,rfl,(hS.sel [0,1,2,3,4,5,6])⟩ hlt
  · replace h:=h.2 hp;exact zd hp (yav rfl (ydJ rfl ⟨_,_,_,_,_,rfl,(hS.sel [1,2,3,4]),h⟩))
def ydw(g:Int)(g2:List E3)(d:List Int)(R:(List (List Int))→Int→Prop):Prop :=
yco g g2 0 d (fun r r2 r3 =>
((r3=0 →
ybA r (fun r4 =>
((r4=true →
ycm r (fun r5 =>
(KOk 12 ([]:List (List Int×Bool)) ∧
yhl 12 r5 ∧
(∃ I2:Nat→Int→(List (List Int))→(List (List Int×Bool))→Prop,(∃ m0,I2 m0 0 ([r]) (mput ([]:List (List Int×Bool)) r5 true))∧∀ m2 i queue add,I2 m2 i queue add → 
((i<(queue.length:Int) →
((16384<(queue.length:Int) →
R ([]) 12) ∧
(¬(16384<(queue.length:Int)) →
((0≤i∧i<(queue.length:Int)) ∧
ycU g g2 (gx queue i.toNat) add queue (fun y y2 =>
(In64 (i+1) ∧
∃ m3,m3<m2∧I2 m3 (i+1) y2 y)))))) ∧
(¬(i<(queue.length:Int)) →
ycE queue (fun r6 =>
R r6 0))))))) ∧
(¬(r4=true) →
R ([]) 0)))) ∧
(¬(r3=0) →
R ([]) r3)))
theorem pok_system_all{O:Nat→Prop}{w:World}{g g2 d Ag lg cg Ad ld cd}{R:(List (List Int))→Int→Prop}(h:ydw g g2 d R)(hO:∀ k,O k→k<w.heap.size)(hA0:(FP.sl c3 Ag lg cg g2).P O w)(hA1:(FP.sl cI Ad ld cd d).P O w) :
    Calls Tryz.prog 85 #[(.agg #[(ii g),(.slice Ag lg cg)]),(.slice Ad ld cd)] w fun e w'=>∃ r7 r8 Ar4 lr4 cr4,e = .returned (.tuple #[(.slice Ar4 lr4 cr4),(ii r8)])∧Sep w no O w' (rl [Res.ro (FP.sl (cL cI) Ar4 lr4 cr4 r7)])∧R r7 r8:=by
  unfold ydw at h;have hS:Sep w no O w (rl [Res.ro (FP.sl c3 Ag lg cg g2),Res.ro (FP.sl cI Ad ld cd d)]):=Sep.startl hO [(FP.sl c3 Ag lg cg g2),(FP.sl cI Ad ld cd d)] ⟨hA0,hA1,trivial⟩;refine yak (l:=[(.agg #[(ii g),(.slice Ag lg cg)]),(.slice Ad ld cd)]) func85 rfl ntmps85 zY (zs (zn (ybi (v:=(.agg #[(ii g),(.slice Ag lg cg)])) rfl ?_)));intro g3 w2 hN;replace hS:Sep w no O w2 (stl _ 2 (Res.box 24 g3 [(ii g),(.slice Ag lg cg)])):=hS.new 2 rfl hN;clear hN;refine zb (zQ (.slice none 0 0) (zQ (ii 0) (yaa (zs (zq (yao (vs:=[(ii g),(.slice Ag lg cg)]) rfl underlying24 rfl yat ⟨Row.cell (hS.bx 2 rfl) (i:=0) rfl,Row.cell (hS.bx 2 rfl) (i:=1) rfl,trivial⟩) (zM (.slice Ad ld cd) (zn (yaj rfl (am3 rfl rfl rfl) yhP ((ycM h (yaN _) (hS.rdr 0 rfl) (hS.rdr 1 rfl)).mono ?_)))))))));rintro _ w3 ⟨r,r2,r3,Ar,lr,cr,Ar2,lr2,cr2,rfl,hC,h⟩;replace hS:=hS.call2 (hC.widen (ydi (ya3 (fI .i64) _ _ _ _ _) (ydi (ya3 (fI .i64) _ _ _ _ _) yea)) hS.blt) 3 0 4 1 rfl rfl (by decide) (by decide);clear hC;refine ⟨_,rfl,?_⟩;refine zb (zM (.tuple #[(.slice Ar lr cr),(.slice Ar2 lr2 cr2),(ii r3)]) (zq (zx (.slice Ar lr cr)) (zq (zx (.slice Ar2 lr2 cr2)) (zq (zx (ii r3)) (zQ (.slice Ar lr cr) (zQ (.slice Ar2 lr2 cr2) (zQ (ii r3) (yaa (yac (zs (zM (ii r3) (zq zN (yaa ?_)))))))))))));by_cases hp:r3=0
  · replace h:=h.1 hp;refine ze hp (yaf (yac (zs (zM (.slice Ar lr cr) (zn (yaj rfl (am1 rfl) enter_132 ((yd9 h (yaN _) (hS.rdo 3 rfl)).mono ?_)))))));rintro _ w4 ⟨r4,rfl,hC,h⟩;replace hS:=hS.pur hC.pure;clear hC;refine ⟨_,rfl,?_⟩;refine zb (zq (ydd rfl) (yaa ?_));by_cases hp2:r4=true
    · replace h:=h.1 hp2;refine yaq (zC (zB hp2)) (yaf (zs (zn (n_mkmap (vE:=Value.bool) rfl ?_))));intro g4 w5 e1 e2;replace hS:Sep w no O w5 (stl _ 5 (Res.obj g4 (mapO Value.bool ([]:List (List Int×Bool))))):=hS.newm 5 rfl e1 e2;clear e1 e2;refine zb (zM (.slice Ar lr cr) (zn (yaj rfl (am1 rfl) enter_133 ((yft h (yaN _) (hS.rdo 3 rfl)).mono ?_))));rintro _ w6 ⟨r5,rfl,hC,h⟩;replace hS:=hS.pur hC.pure;clear hC;refine ⟨_,rfl,?_⟩;refine zb ?_;obtain ⟨hx,h⟩:=h;obtain ⟨hx2,h⟩:=h;refine zo (n_minsert (vE:=Value.bool) (keyt_195) hx hx2 (v:=true) rfl rfl rfl underlying197 (hS.mp 5 rfl) ?_);intro w7 e1 e2;replace hS:=hS.mst 5 rfl e1 e2;clear e1 e2;refine zb (zM (Value.map (some g4)) (zn (ya1 info_197 ?_)));intro g5 w8 hN;replace hS:Sep w no O w8 (stl _ 6 (Res.box 197 g5 [(Value.map none)])):=hS.new 6 rfl hN;clear hN;refine zb (zo (zt (Value.map (some g4)) info_197 (hS.bwr 6 rfl (j:=0) rfl) ?_));intro w9 e1;replace hS:=hS.bst 6 rfl 0 (Value.map (some g4)) e1;clear e1;refine zb (yaa (zs (zM (.slice Ar lr cr) ?_)));replace hS:=hS.frz 3 rfl;refine zn (ybb (l:=[(0,(.slice Ar lr cr))]) (cells:=[(.slice Ar lr cr)]) (bp1 rfl) underlying28 yaY rfl rfl ?_);intro g6 w10 hN;replace hS:=hS.lit (n:=1) (c:=(cL cI)) 7 rfl hN ([r]:List (List Int)) rfl (by decide) ⟨[(.slice Ar lr cr)],_,rfl,(ro_R (hS.ro 3 rfl)),rfl⟩;clear hN;refine zb (zn (ya1 ycv ?_));intro g7 w11 hN;replace hS:Sep w no O w11 (stl _ 8 (Res.box 28 g7 [(.slice none 0 0)])):=hS.new 8 rfl hN;clear hN;refine zb (zo (zt (.slice (some ⟨g6,0,none⟩) 1 1) ycv (hS.bwr 8 rfl (j:=0) rfl) ?_));intro w12 e1;replace hS:=hS.bst 8 rfl 0 (.slice (some ⟨g6,0,none⟩) 1 1) e1;clear e1;refine zb (yaa (zs (zq (yfM (am0) (am2 rfl rfl)) (zQ (.func (Fn.func 134) #[] #[(.pointer (some ⟨g5,0,none⟩)),(.pointer (some ⟨g7,0,none⟩))]) (yaa (yac (zs (zQ (ii 0) (yaa (yah ?_))))))))));obtain ⟨I2,⟨m0,h0⟩,hr⟩:=h;refine yaA (fun m E ds w'=>∃ i queue add Aa Ab Ac,I2 m i queue add∧ds=[]∧E 2=(Value.pointer (some ⟨g3,0,none⟩))∧E 10=(Value.pointer (some ⟨g7,0,none⟩))∧E 11=(Value.func (Fn.func 134) #[] #[(.pointer (some ⟨g5,0,none⟩)),(.pointer (some ⟨g7,0,none⟩))])∧E 12=(ii i)∧Sep w no O w' (rl [Res.box 24 g3 [(ii g),(.slice Ag lg cg)],Res.ro (FP.sl c3 Ag lg cg g2),Res.box 28 g7 [(.slice Aa Ab Ac)],Res.own (cL cI) 34 Aa Ab Ac queue,Res.box 197 g5 [(Value.map (some g4))],Res.obj g4 (mapO Value.bool add)])) m0 ⟨_,_,_,_,_,_,h0,rfl,rfl,rfl,rfl,rfl,(hS.sel [2,0,8,7,6,5])⟩ ?_;clear h0 hS;rintro m2 E ds w13 ⟨i,queue,add,Aa,Ab,Ac,h,rfl,H2,H10,H11,H12,hS⟩ ag;replace h:=hr m2 i queue add h;clear hr;refine yac (zs (zq (yad H12) (zq (yam H10 underlying28 rfl (Row.cell (hS.bx 2 rfl) (i:=0) rfl)) (zq (ybw (n:=queue.length) rfl underlying28 (ybh (hS.rdo 3 rfl))) (zq zL (yaa ?_))))));by_cases hp3:i<(queue.length:Int)
      · replace h:=h.1 hp3;refine zc hp3 (yaf (yac (yah (yac (zs (zq (yam H10 underlying28 rfl (Row.cell (hS.bx 2 rfl) (i:=0) rfl)) (zq (ybw (n:=queue.length) rfl underlying28 (ybh (hS.rdo 3 rfl))) (zq zG (yaa ?_)))))))));by_cases hp4:16384<(queue.length:Int)
        · replace h:=h.1 hp4;refine zc hp4 (zs (zQ (.slice none 0 0) (zQ (ii 12) (yaa ?_))));replace hS:=hS.addro 6 rfl _ (nil_sl (cL cI) _ _);exact yaZ rfl rfl rfl ⟨_,_,_,_,_,rfl,(hS.sel [6]),h⟩
        · replace h:=h.2 hp4;refine zd hp4 (yaf (ya9 [0,1,2,3,4,5,6] st0 yaQ (by kernel_rfl) (by kernel_rfl) ?_));replace hS:=hS.drew;refine zp (yao (vs:=[(ii g),(.slice Ag lg cg)]) H2 underlying24 rfl yat ⟨Row.cell (hS.bx 0 rfl) (i:=0) rfl,Row.cell (hS.bx 0 rfl) (i:=1) rfl,trivial⟩) (zp (yam H10 underlying28 rfl (Row.cell (hS.bx 2 rfl) (i:=0) rfl)) (zp (yad H12) ?_));obtain ⟨hx3,h⟩:=h;refine zp (zi underlying28 yaY (yaU (hS.rdo 3 rfl) hx3)) ?_;obtain ⟨A,l,c,hc,hq⟩:=hS.elo 3 rfl hx3 6 rfl;replace hS:=hq;clear hq;refine zp (yam (v:=(.slice A l c)) rfl underlying34 rfl hc) (zp (yad (v:=(Value.func (Fn.func 134) #[] #[(.pointer (some ⟨g5,0,none⟩)),(.pointer (some ⟨g7,0,none⟩))])) H11) ?_);have hB:=hS.lend (asc [(4,0),(5,1),(2,2),(3,3)]) [1,6,4,5,2,3] (by decide) ⟨.inr rfl, .inr rfl, .inl (ya4 rfl), .inl (ya4 rfl), .inl (ya4 rfl), .inl (ya4 rfl),trivial⟩;refine rp_n rfl rfl rfl rfl (ydv (vs:=#[(.agg #[(ii g),(.slice Ag lg cg)]),(.slice A l c),(.func (Fn.func 134) #[] #[(.pointer (some ⟨g5,0,none⟩)),(.pointer (some ⟨g7,0,none⟩))])]) (us:=#[]) rfl (am3 rfl rfl rfl) enter_135 ((ya8 (by simp) (yhK h hB)).mono ?_));rintro _ w14 ⟨y,y2,A2,l2,c4,rfl,hC,h⟩;replace hS:=hS.back (asc [(4,0),(5,1),(2,2),(3,3)]) (ydy (by decide)) hC;clear hC hB;refine ⟨_,rfl,?_⟩;refine zb (ybq (yag (zr (zq (yad H12) ?_))));obtain ⟨hi,h⟩:=h;refine zq (zA hi) (zQ (ii (i+1)) (yaa ?_));obtain ⟨mq,hlt,h⟩:=h;exact ag mq _ _ _ ⟨_,_,_,_,_,_,h,rfl,H2,H10,H11,rfl,(hS.sel [0,1,2,3,4,5])⟩ hlt
      · replace h:=h.2 hp3;refine zd hp3 (yav rfl (zs (zq (yam H10 underlying28 rfl (Row.cell (hS.bx 2 rfl) (i:=0) rfl)) ?_)));have hB:=hS.lend (asc [(6,0),(3,20)]) [3] (by decide) ⟨.inl (ya4 rfl),trivial⟩;refine zn (ydv (vs:=#[(.slice Aa Ab Ac)]) (us:=#[]) rfl (am1 rfl) enter_136 ((ya8 (by simp) (yhk h hB)).mono ?_));rintro _ w15 ⟨r6,Ar3,lr3,cr3,rfl,hC,h⟩;replace hS:=hS.back (asc [(6,0),(3,20)]) (ydy (by decide)) hC;clear hC hB;refine ⟨_,rfl,?_⟩;exact zb (zQ (.slice Ar3 lr3 cr3) (zQ (ii 0) (yaa (yaZ rfl rfl rfl ⟨_,_,_,_,_,rfl,(hS.sel [6]),h⟩))))
    · replace h:=h.2 hp2;refine yal (zC (zB (zI hp2))) (zs (zQ (.slice none 0 0) (zQ (ii 0) (yaa ?_))));replace hS:=hS.addro 5 rfl _ (nil_sl (cL cI) _ _);exact yaZ rfl rfl rfl ⟨_,_,_,_,_,rfl,(hS.sel [5]),h⟩
  · replace h:=h.2 hp;refine zf hp (zs (zM (ii r3) (zQ (.slice none 0 0) (zQ (ii r3) (yaa ?_)))));replace hS:=hS.addro 5 rfl _ (nil_sl (cL cI) _ _);exact yaZ rfl rfl rfl ⟨_,_,_,_,_,rfl,(hS.sel [5]),h⟩
def ydp(g:Int)(g2:List E3)(d:List Int)(R:(List (List Int))→Int→Prop):Prop :=
ycT g g2 ([d]) (fun r =>
((r=0 →
ydw g g2 d (fun r2 r3 =>
R r2 r3)) ∧
(¬(r=0) →
R ([]) r)))
theorem pok_system_All{O:Nat→Prop}{w:World}{g g2 d Ag lg cg Ad ld cd}{R:(List (List Int))→Int→Prop}(h:ydp g g2 d R)(hO:∀ k,O k→k<w.heap.size)(hA0:(FP.sl c3 Ag lg cg g2).P O w)(hA1:(FP.sl cI Ad ld cd d).P O w) :
    Calls Tryz.prog 40 #[(.agg #[(ii g),(.slice Ag lg cg)]),(.slice Ad ld cd)] w fun e w'=>∃ r4 r5 Ar2 lr2 cr2,e = .returned (.tuple #[(.slice Ar2 lr2 cr2),(ii r5)])∧Sep w no O w' (rl [Res.ro (FP.sl (cL cI) Ar2 lr2 cr2 r4)])∧R r4 r5:=by
  unfold ydp at h;have hS:Sep w no O w (rl [Res.ro (FP.sl c3 Ag lg cg g2),Res.ro (FP.sl cI Ad ld cd d)]):=Sep.startl hO [(FP.sl c3 Ag lg cg g2),(FP.sl cI Ad ld cd d)] ⟨hA0,hA1,trivial⟩;refine yak (l:=[(.agg #[(ii g),(.slice Ag lg cg)]),(.slice Ad ld cd)]) func40 rfl ntmps40 zY (zs (zn (ybi (v:=(.agg #[(ii g),(.slice Ag lg cg)])) rfl ?_)));intro g3 w2 hN;replace hS:Sep w no O w2 (stl _ 2 (Res.box 24 g3 [(ii g),(.slice Ag lg cg)])):=hS.new 2 rfl hN;clear hN;refine zb (zQ (.slice none 0 0) (zQ (ii 0) (yaa (yac (zs (zq (yao (vs:=[(ii g),(.slice Ag lg cg)]) rfl underlying24 rfl yat ⟨Row.cell (hS.bx 2 rfl) (i:=0) rfl,Row.cell (hS.bx 2 rfl) (i:=1) rfl,trivial⟩) (zM (.slice Ad ld cd) (zn (ybb (l:=[(0,(.slice Ad ld cd))]) (cells:=[(.slice Ad ld cd)]) (bp1 rfl) underlying28 yaY rfl rfl ?_)))))))));intro g4 w3 hN;replace hS:=hS.lit (n:=1) (c:=(cL cI)) 3 rfl hN ([d]:List (List Int)) rfl (by decide) ⟨[(.slice Ad ld cd)],_,rfl,(ro_R (hS.ro 1 rfl)),rfl⟩;clear hN;refine zb (zn (yaj rfl (am2 rfl rfl) enter_84 ((yhH h (yaN _) (hS.rdr 0 rfl) (hS.rdo 3 rfl)).mono ?_)));rintro _ w4 ⟨r,rfl,hC,h⟩;replace hS:=hS.pur hC.pure;clear hC;refine ⟨_,rfl,?_⟩;refine zb (zQ (ii r) (yaa (zs (zM (ii r) (zq zN (yaa ?_))))));by_cases hp:r=0
  · replace h:=h.1 hp;refine ze hp (yaf (zs (zq (yao (vs:=[(ii g),(.slice Ag lg cg)]) rfl underlying24 rfl yat ⟨Row.cell (hS.bx 2 rfl) (i:=0) rfl,Row.cell (hS.bx 2 rfl) (i:=1) rfl,trivial⟩) (zM (.slice Ad ld cd) (zn (yaj rfl (am2 rfl rfl) enter_85 ((pok_system_all h hS.blt (hS.ro 0 rfl) (hS.ro 1 rfl)).mono ?_)))))));rintro _ w5 ⟨r2,r3,Ar,lr,cr,rfl,hC,h⟩;replace hS:=hS.call1 hC 4 0 rfl;clear hC;refine ⟨_,rfl,?_⟩;exact zb (zq (zx (.slice Ar lr cr)) (zq (zx (ii r3)) (zQ (.slice Ar lr cr) (zQ (ii r3) (yaa (yaZ rfl rfl rfl ⟨_,_,_,_,_,rfl,(hS.sel [4]),h⟩))))))
  · replace h:=h.2 hp;refine zf hp (zs (zM (ii r) (zQ (.slice none 0 0) (zQ (ii r) (yaa ?_)))));replace hS:=hS.addro 4 rfl _ (nil_sl (cL cI) _ _);exact yaZ rfl rfl rfl ⟨_,_,_,_,_,rfl,(hS.sel [4]),h⟩
def ycg(g:Int)(g2:List E3)(d:List Int)(R:Int→Int→Prop):Prop :=
ydp g g2 d (fun r r2 =>
R (r.length:Int) r2)
theorem yfV{O:Nat→Prop}{w:World}{g g2 d Ag lg cg Ad ld cd}{R:Int→Int→Prop}(h:ycg g g2 d R)(hO:∀ k,O k→k<w.heap.size)(hA0:(FP.sl c3 Ag lg cg g2).P O w)(hA1:(FP.sl cI Ad ld cd d).P O w) :
    Calls Tryz.prog 10 #[(.agg #[(ii g),(.slice Ag lg cg)]),(.slice Ad ld cd)] w fun e w'=>∃ r3 r4,e = .returned (.tuple #[(ii r3),(ii r4)])∧Sep w no O w' (rl [])∧R r3 r4:=by
  unfold ycg at h;have hS:Sep w no O w (rl [Res.ro (FP.sl c3 Ag lg cg g2),Res.ro (FP.sl cI Ad ld cd d)]):=Sep.startl hO [(FP.sl c3 Ag lg cg g2),(FP.sl cI Ad ld cd d)] ⟨hA0,hA1,trivial⟩;refine yak (l:=[(.agg #[(ii g),(.slice Ag lg cg)]),(.slice Ad ld cd)]) func10 rfl ntmps10 zY (zs (zn (ybi (v:=(.agg #[(ii g),(.slice Ag lg cg)])) rfl ?_)));intro g3 w2 hN;replace hS:Sep w no O w2 (stl _ 2 (Res.box 24 g3 [(ii g),(.slice Ag lg cg)])):=hS.new 2 rfl hN;clear hN;refine zb (zQ (ii 0) (zQ (ii 0) (yaa (zs (zq (yao (vs:=[(ii g),(.slice Ag lg cg)]) rfl underlying24 rfl yat ⟨Row.cell (hS.bx 2 rfl) (i:=0) rfl,Row.cell (hS.bx 2 rfl) (i:=1) rfl,trivial⟩) (zM (.slice Ad ld cd) (zn (yaj rfl (am2 rfl rfl) enter_40 ((pok_system_All h hS.blt (hS.ro 0 rfl) (hS.ro 1 rfl)).mono ?_)))))))));rintro _ w3 ⟨r,r2,Ar,lr,cr,rfl,hC,h⟩;replace hS:=hS.call1 hC 3 0 rfl;clear hC;refine ⟨_,rfl,?_⟩;exact zb (zM (.tuple #[(.slice Ar lr cr),(ii r2)]) (zq (zx (.slice Ar lr cr)) (zq (zx (ii r2)) (zQ (.slice Ar lr cr) (zQ (ii r2) (yaa (zs (zM (.slice Ar lr cr) (zq (ybw (n:=r.length) rfl underlying28 (ybh (hS.rdr 3 rfl))) (zM (ii r2) (zQ (ii (r.length:Int)) (zQ (ii r2) (yaa (yaZ rfl rfl rfl ⟨_,_,rfl,(hS.sel []),h⟩))))))))))))))
end Go.Proofs.YtjepipbkiadcpaaGreat

/- What package system comes to: steps, the search, the system in order. -/
namespace Go.Proofs.YtjepipbkiadcpaaGreat
open Go Go.Proofs.Tryz
theorem W_snocE(x:E3)(v u:Nat):∀ es:List E3,W (es++[x]) v u=W es v u+w1 x v u
  | []=>by rw [List.nil_append,ye4,W_nil];omega
  | y::es=>by rw [List.cons_append,ye4,ye4,W_snocE x v u es];omega
theorem Lp_snocE{n:Nat}(x:E3)(s:Nat→Int)(v:Nat)(es:List E3):Lp n (es++[x]) s v=Lp n es s v+sm n (fun u=>w1 x v u*(s v-s u)):=by
  unfold Lp
  rw [←yc5]
  exact yan fun u _=>by rw [W_snocE,Int.add_mul]
theorem edge_same{n:Nat}{a b:Nat}{k:Int}{s:Nat→Int}(h:s a=s b)(v:Nat):sm n (fun u=>w1 ((a:Int),(b:Int),k) v u*(s v-s u))=0:=by
  rw [yan (g:=fun _=>0) fun u _=>?_,ybV]
  unfold w1
  split
  · rename_i q
    have:s v=s u:=by
      rcases q.2 with ⟨h1,h2⟩ | ⟨h1,h2⟩
      · rw [←Int.ofNat.inj h1,←Int.ofNat.inj h2];exact h
      · rw [←Int.ofNat.inj h1,←Int.ofNat.inj h2];exact h.symm
    rw [this,Int.sub_self,Int.mul_zero]
  · rw [Int.zero_mul]
theorem edge_diff{n:Nat}{a b:Nat}{k:Int}{s:Nat→Int}(ha:a<n)(hb:b<n)(h:a≠b)(v:Nat):sm n (fun u=>w1 ((a:Int),(b:Int),k) v u*(s v-s u))=if v=a then k*(s a-s b) else if v=b then k*(s b-s a) else 0:=by
  by_cases e1:v=a
  · subst e1
    rw [if_pos rfl,←yfu (k*(s v-s b)) hb]
    refine yan fun u _=>?_
    by_cases e:u=b
    · subst e
      rw [if_pos rfl]
      unfold w1
      rw [if_pos ⟨by show (v:Int)≠u;omega, .inl ⟨rfl,rfl⟩⟩]
    · rw [if_neg e]
      unfold w1
      rw [if_neg,Int.zero_mul]
      rintro ⟨_,⟨_,q⟩ | ⟨q1,q2⟩⟩
      · exact e (Int.ofNat.inj q).symm
      · exact h (Int.ofNat.inj q2).symm
  · rw [if_neg e1]
    by_cases e2:v=b
    · subst e2
      rw [if_pos rfl,←yfu (k*(s v-s a)) ha]
      refine yan fun u _=>?_
      by_cases e:u=a
      · subst e
        rw [if_pos rfl]
        unfold w1
        rw [if_pos ⟨by show (u:Int)≠v;omega, .inr ⟨rfl,rfl⟩⟩]
      · rw [if_neg e]
        unfold w1
        rw [if_neg,Int.zero_mul]
        rintro ⟨_,⟨q1,q2⟩ | ⟨q,_⟩⟩
        · exact h (Int.ofNat.inj q1)
        · exact e (Int.ofNat.inj q).symm
    · rw [if_neg e2,yan (g:=fun _=>0) fun u _=>?_,ybV]
      unfold w1
      rw [if_neg,Int.zero_mul]
      rintro ⟨_,⟨q1,q2⟩ | ⟨q1,q2⟩⟩
      · exact e1 (Int.ofNat.inj q1).symm
      · exact e2 (Int.ofNat.inj q2).symm
def posB(d:List Int):Bool:=decide (∀ v,v<d.length→0≤gi d v)
theorem yh1{n:Nat}{d:List Int}(h:d.length=n):posB d=true↔Pos n d:=by
  unfold posB;rw [decide_eq_true_iff];exact ⟨fun q=>⟨h,fun v hv=>q v (by omega)⟩,fun q v hv=>q.pos v (by omega)⟩
theorem yeL{d:List Int}{R:Bool→Prop}(hl:d.length≤1000000000)(h0:0<d.length)(h:R (posB d)):ybA d R:=by
  unfold ybA
  refine p_slices_Min hl h0 fun m ⟨k,hk,e⟩ hall=>?_
  have:decide (0≤m)=posB d:=by
    unfold posB
    rw [decide_eq_decide]
    exact ⟨fun q v hv=>by have:=hall v hv;omega,fun q=>by have:=q k hk;omega⟩
  rw [this];exact h
theorem p_system_fired{n m:Nat}{es:List E3}{d:List Int}{R:List Int→Bool→Prop}(hE:EOk n es)(hn:1≤n∧n≤12)(hl:es.length≤1000)(hm:m<4096)(hd:d.length=n)(hb:∀ v,v<n → -1000000≤gi d v∧gi d v≤1000000)(h:R (firM n es d m) (posB (firM n es d m))):ycX (n:Int) es d (m:Int) R:=by
  unfold ycX
  obtain ⟨s,hs⟩:∃ s:Nat→Int,s=fun u=>if m.testBit u=true then 1 else 0:=⟨_,rfl⟩
  have hsv:∀ u,s u=0∨s u=1:=fun u=>by rw [hs];show (if m.testBit u=true then (1:Int) else 0)=0∨(if m.testBit u=true then (1:Int) else 0)=1;split <;> omega
  have hfv:∀ (es:List E3) (v:Nat),v<n→gi (firM n es d m) v=gi d v-Lp n es s v:=fun es v hv=>by rw [gi_firM hv,hs]
  have hbit:∀ u:Nat,((((m:Int) / 2^(u:Int).toNat).toNat &&& (1:Int).toNat:Nat):Int)=s u:=fun u=>by rw [bit_and,hs]
  refine ybx (by omega) ?_
  refine ⟨fun q v o=>Cnt es.length (fun k=>o=firM n (es.take k) d m∧∀ v,v<n → -1000000-50*(k:Int)≤gi o v∧gi o v≤1000000+50*(k:Int)) q v,Cnt.start ⟨?_,fun v hv=>by have:=hb v hv;omega⟩,?_⟩
  · rw [List.take_zero]
    exact yg9 hd (yci _ _ _ _) fun v hv=>by rw [hfv _ v hv];unfold Lp;rw [yan (g:=fun _=>0) (fun u _=>by rw [W_nil,Int.zero_mul]),ybV];omega
  rintro q _ o ⟨k,rfl,rfl,hk,hinv⟩
  rw [Int.toNat_natCast]
  refine ⟨fun hlt=>?_,fun hge=>?_⟩
  · have hkl:k<es.length:=by omega
    have hx:=hE _ (ge_mem hkl)
    have htake:es.take (k+1)=es.take k++[ge es k]:=by rw [List.take_add_one,List.getElem?_eq_getElem hkl,yed hkl];rfl
    generalize ge es k=x at hx htake ⊢
    obtain ⟨a,b,c⟩:=x
    simp only at hx ⊢
    obtain ⟨a,rfl⟩:∃ a':Nat,a=(a':Int):=⟨a.toNat,by omega⟩
    obtain ⟨b,rfl⟩:∃ b':Nat,b=(b':Int):=⟨b.toNat,by omega⟩
    obtain ⟨ho,hbo⟩:=hinv
    have hol:o.length=n:=by rw [ho];exact yci _ _ _ _
    have ha:a<n:=by omega
    have hbn:b<n:=by omega
    have hstep:∀ v,v<n→gi (firM n (es.take (k+1)) d m) v=gi o v-sm n (fun u=>w1 ((a:Int),(b:Int),c) v u*(s v-s u)):=fun v hv=>by
      rw [hfv _ v hv,htake,Lp_snocE,ho,hfv _ v hv];omega
    have sa:=hsv a
    have sb:=hsv b
    rw [hbit,hbit,Int.toNat_natCast,Int.toNat_natCast]
    refine ⟨by omega,by omega,bit_fit m a (by omega),by omega,bit_fit m b (by omega),fun hab=>?_,fun hab=>⟨fun hba=>?_,fun hba=>?_⟩⟩
    · have hma:s a=1:=by omega
      have hmb:s b=0:=by omega
      have hne:a≠b:=fun e=>by subst e;omega
      have hf:∀ v,v<n→gi (firM n (es.take (k+1)) d m) v=gi ((o.set a (gi o a-c)).set b (gi (o.set a (gi o a-c)) b+c)) v:=fun v hv=>by
        rw [hstep v hv,edge_diff ha hbn hne,ya7 (by rw [List.length_set];omega),ya7 (by omega),ya7 (by omega),hma,hmb]
        by_cases e1:v=b
        · subst e1
          rw [if_neg (by omega),if_pos rfl,if_pos rfl,if_neg (by omega)];omega
        · rw [if_neg e1]
          by_cases e2:v=a
          · subst e2;rw [if_pos rfl,if_pos rfl];omega
          · rw [if_neg e2,if_neg e2,if_neg e1];omega
      have h1:=hbo a ha
      have h2:=hbo b hbn
      have hs2:gi (o.set a (gi o a-c)) b=gi o b:=by rw [ya7 (by omega),if_neg (by omega)]
      refine ⟨by omega,i64 (by omega),by rw [List.length_set];omega,by rw [hs2];exact i64 (by omega),Cnt.next hkl (by omega) ⟨(yg9 (yci _ _ _ _) (by simp [hol]) hf).symm,fun v hv=>?_⟩⟩
      rw [ya7 (by rw [List.length_set];omega),hs2]
      have h3:=hbo v hv
      by_cases e1:v=b
      · rw [if_pos e1];omega
      · rw [if_neg e1,ya7 (by omega)]
        by_cases e2:v=a
        · rw [if_pos e2];omega
        · rw [if_neg e2];omega
    · have hma:s a=0:=by omega
      have hmb:s b=1:=by omega
      have hne:a≠b:=fun e=>by subst e;omega
      have hf:∀ v,v<n→gi (firM n (es.take (k+1)) d m) v=gi ((o.set b (gi o b-c)).set a (gi (o.set b (gi o b-c)) a+c)) v:=fun v hv=>by
        rw [hstep v hv,edge_diff ha hbn hne,ya7 (by rw [List.length_set];omega),ya7 (by omega),ya7 (by omega),hma,hmb]
        by_cases e1:v=a
        · subst e1
          rw [if_pos rfl,if_pos rfl,if_neg (by omega)];omega
        · rw [if_neg e1,if_neg e1]
          by_cases e2:v=b
          · subst e2;rw [if_pos rfl,if_pos rfl];omega
          · rw [if_neg e2,if_neg e2];omega
      have h1:=hbo a ha
      have h2:=hbo b hbn
      have hs2:gi (o.set b (gi o b-c)) a=gi o a:=by rw [ya7 (by omega),if_neg (by omega)]
      refine ⟨by omega,i64 (by omega),by rw [List.length_set];omega,by rw [hs2];exact i64 (by omega),Cnt.next hkl (by omega) ⟨(yg9 (yci _ _ _ _) (by simp [hol]) hf).symm,fun v hv=>?_⟩⟩
      rw [ya7 (by rw [List.length_set];omega),hs2]
      have h3:=hbo v hv
      by_cases e1:v=a
      · rw [if_pos e1];omega
      · rw [if_neg e1,ya7 (by omega)]
        by_cases e2:v=b
        · rw [if_pos e2];omega
        · rw [if_neg e2];omega
    · refine Cnt.next hkl (by omega) ⟨(yg9 (yci _ _ _ _) hol fun v hv=>?_).symm,fun v hv=>by have:=hbo v hv;omega⟩
      rw [hstep v hv,edge_same (show s a=s b by omega)];omega
  · have e:k=es.length:=by omega
    rw [e,List.take_length] at hinv
    rw [hinv.1]
    refine yeL (by rw [yci];omega) (by rw [yci];omega) h
theorem lex_lt{a b:List Int}(h:¬lexC b a<0)(hne:a≠b):lexC a b<0:=by
  rw [yf3] at h
  have h2:lexC a b≠0:=fun q=>hne (lexC_eq _ _ q)
  omega
theorem p_compact{l:List (List Int)}{R:List (List Int)→Prop}(hl:l.length≤1000000)(hx:∀ x∈l,x.length≤1000000000)(ha:Asc l)(h:R l):yaR l (fun x x2 R=>yb3 x x2 R) R:=by
  unfold yaR yb3
  refine ⟨fun _=>h,fun h2=>⟨fun q v=>∃ k:Nat,q=l.length-k∧v=(k:Int)∧1≤k∧k≤l.length,⟨l.length-1,1,rfl,rfl,by omega,by omega⟩,?_⟩⟩
  rintro q _ ⟨k,rfl,rfl,h1,hk⟩
  refine ⟨fun hlt=>⟨by omega,i64 (by omega),by omega,?_⟩,fun _=>h⟩
  have e1:((k:Int)-1).toNat=k-1:=by omega
  rw [e1,Int.toNat_natCast]
  have hk2:k<l.length:=by omega
  refine ycJ (hx _ (List.mem_of_getElem? (ycu hk2))) ⟨fun e=>?_,fun _=>⟨i64 (by omega),l.length-(k+1),by omega,k+1,rfl,by omega,by omega,by omega⟩⟩
  have e:=of_decide_eq_true e
  have:=List.pairwise_iff_getElem.1 ha (k-1) k (by omega) hk2 (by omega)
  rw [←ygA,←ygA hk2,e,yeT] at this
  omega
theorem yin{l:List (List Int)}{R:List (List Int)→Prop}(hl:l.length≤1000000)(hx:∀ x∈l,x.length≤1000000000)(hn:l.Nodup)(h:∀ z,Asc z→(∀ y,y∈z↔y∈l)→R z):ycE l R:=by
  unfold ycE
  refine ⟨by omega,hx,fun z hp hs=>?_⟩
  have ha:Asc z:=((hp.nodup_iff.2 hn).and hs).imp fun {a b} q=>lex_lt q.2 q.1
  have hm:∀ y,y∈z↔y∈l:=fun y=>hp.mem_iff
  exact p_compact (by rw [hp.length_eq];exact hl) (fun x q=>hx x ((hm x).1 q)) ha (h z ha hm)
structure Inv(n:Nat)(es:List E3)(d:List Int)(M:List (List Int×Bool))(Q:List (List Int)):Prop where
  keys:KOk 12 M
  seen:∀ x,x.length=n→((mget M (keyF x)).getD false=true↔x∈Q)
  nd:Q.Nodup
  mem:∀ x∈Q,Pos n x∧Eqv n es d x
theorem yio{n:Nat}{x:List Int}(h:Pos n x):Eff n x (dg x):=⟨h.len,h.pos,rfl⟩
theorem sys_len{n:Nat}{es:List E3}{d:List Int}(h1:1≤n)(hn:n≤5)(h5:dg d≤5):(sysF n es d).length≤2401:=by
  unfold sysF
  split
  · simp
  · refine Nat.le_trans (List.length_filter_le _ _) ?_
    obtain ⟨N,rfl⟩:∃ N,n=N+1:=⟨n-1,by omega⟩
    exact list_few (by omega) (by omega)
theorem Inv.len{n:Nat}{es:List E3}{d:List Int}{M:List (List Int×Bool)}{Q:List (List Int)}(I:Inv n es d M Q)(h1:1≤n)(hn:n≤5)(hd:d.length=n)(h5:dg d≤5):Q.length≤2401 :=
  Nat.le_trans (yfj I.nd fun x hx=>(ydQ h1 hd).2 (I.mem x hx)) (sys_len (es:=es) h1 hn h5)
section
variable {n : Nat} {es : List E3} {d : List Int}
theorem Inv.start(hn:n≤5)(hd:d.length=n)(h5:dg d≤5){r:List Int}(hr:Pos n r)(he:Eqv n es d r):Inv n es d (mput [] (keyF r) true) [r]:=by
  have hdr:dg r=dg d:=he.dg hd hr.len
  refine ⟨(KOk.nil 12).put (yig (yio hr) (by omega)) true,fun x hx=>?_,by simp,fun x hx=>by rw [List.mem_singleton.1 hx];exact ⟨hr,he⟩⟩
  rw [mget_put]
  by_cases e:keyF r=keyF x
  · rw [if_pos e]
    simp
    exact (keyF_inj (by omega) hr.len hx e).symm
  · rw [if_neg e]
    simp [mget]
    exact fun q=>e (by rw [q])
theorem p_add(hn:1≤n∧n≤5)(hd:d.length=n)(h5:dg d≤5){M:List (List Int×Bool)}{Q:List (List Int)}{x:List Int}{R:List (List Int×Bool)→List (List Int)→Prop}(I:Inv n es d M Q)(hx:Pos n x)(he:Eqv n es d x)
    (h:∀ M' Q',Inv n es d M' Q'→Q <+: Q'→x∈Q'→R M' Q'):yb9 x M Q R:=by
  have hdx:dg x=dg d:=he.dg hd hx.len
  have hlen:=I.len hn.1 hn.2 hd h5
  have hl:=hx.len
  unfold yb9 ycm
  refine ⟨by omega,ydN x,ydN x,I.keys,yig (yio hx) (by omega),fun q=>?_,fun q=>⟨by omega,?_⟩⟩
  · exact h _ _ I (List.prefix_refl _) ((I.seen x hl).1 q)
  · have hnx:x∉Q:=fun z=>q ((I.seen x hl).2 z)
    refine h _ _ ⟨I.keys.put (yig (yio hx) (by omega)) true,fun y hy=>?_,?_,fun y hy=>?_⟩ (List.prefix_append _ _) (by simp)
    · show (mget (mput M (keyF x) true) (keyF y)).getD false=true↔_
      rw [mget_put]
      by_cases e:keyF x=keyF y
      · rw [if_pos e,keyF_inj (by omega) hl hy e];simp
      · rw [if_neg e,I.seen y hy,List.mem_append,List.mem_singleton]
        exact ⟨.inl,fun z=>z.resolve_right fun z=>e (by rw [z])⟩
    · rw [List.nodup_append]
      exact ⟨I.nd,by simp,fun a ha b hb e=>hnx (by rw [List.mem_singleton] at hb;rw [←hb,←e];exact ha)⟩
    · rcases List.mem_append.1 hy with z | z
      · exact I.mem y z
      · rw [List.mem_singleton.1 z];exact ⟨hx,he⟩
theorem p_system_steps(hE:EOk n es)(hel:es.length≤1000)(hn:1≤n∧n≤5)(hd:d.length=n)(h5:dg d≤5){M:List (List Int×Bool)}{Q:List (List Int)}{x:List Int}{R:List (List Int×Bool)→List (List Int)→Prop}(I:Inv n es d M Q)(hx:x∈Q)
    (h:∀ M' Q',Inv n es d M' Q'→Q <+: Q'→(∀ m,1≤m→m<2^n-1→Pos n (firM n es x m)→firM n es x m∈Q')→R M' Q'):ycU (n:Int) es x M Q R:=by
  unfold ycU
  obtain ⟨hp,he⟩:=I.mem x hx
  have h12:2^n≤4096:=two_pow_small (by omega)
  have h2:2≤2^n:=by have:=Nat.pow_le_pow_right (n:=2) (by omega) hn.1;omega
  have hb:∀ v,v<n → -1000000≤gi x v∧gi x v≤1000000:=fun v hv=>by
    have h1:=(yio hp).le hv
    have h3:=hp.pos v hv
    have:=he.dg hd hp.len
    omega
  refine ⟨fun q v M' Q'=>∃ k:Nat,q=2^n-k∧v=(k:Int)∧1≤k∧k≤2^n-1∧Inv n es d M' Q'∧Q <+: Q'∧∀ m,1≤m→m<k→Pos n (firM n es x m)→firM n es x m∈Q',⟨2^n-1,1,rfl,rfl,by omega,by omega,I,List.prefix_refl _,fun m h1 h2=>absurd h1 (by omega)⟩,?_⟩
  rintro q _ M' Q' ⟨k,rfl,rfl,hk1,hk,I',hpre,hall⟩
  rw [pow_cast]
  refine ⟨by omega,i64 (by omega),i64 (by omega),fun hlt=>?_,fun hge=>?_⟩
  · refine p_system_fired hE (by omega) hel (by omega) hp.len hb ⟨fun q=>?_,fun q=>?_⟩
    · have hq:=(yh1 (yci n es x k)).1 q
      refine p_add hn hd h5 I' hq (he.trans (Eqv.firM n es x k)) fun M2 Q2 I2 hp2 hm2=>⟨i64 (by omega),2^n-(k+1),by omega,k+1,rfl,by omega,by omega,by omega,I2,hpre.trans hp2,fun m h1 h3 h4=>?_⟩
      by_cases e:m=k
      · subst e;exact hm2
      · exact hp2.subset (hall m h1 (by omega) h4)
    · refine ⟨i64 (by omega),2^n-(k+1),by omega,k+1,rfl,by omega,by omega,by omega,I',hpre,fun m h1 h3 h4=>?_⟩
      by_cases e:m=k
      · subst e;exact absurd ((yh1 (yci n es x m)).2 h4) q
      · exact hall m h1 (by omega) h4
  · exact h M' Q' I' hpre fun m h1 h2 h3=>hall m h1 (by omega) h3
theorem p_system_all{R:List (List Int)→Int→Prop}(hD:DOk n es d)(hd:d.length=n)(h:R (sysF n es d) 0):ydw (n:Int) es d R:=by
  have G:=hD.G
  have hE:=G.E
  have hn:1≤n∧n≤5:=⟨G.n1,G.n5⟩
  have hel:=G.el
  have h5:=hD.d5
  have hgiv:=G.giv hd fun v hv=>by have:=hD.b v hv;omega
  unfold ydw
  refine ⟨.inl (G.small fun v hv=>by have:=hD.b v hv;omega),by omega,fun q=>absurd hgiv q,fun _ r s hr hrl hsl=>?_⟩
  have e0:(0:Int).toNat=0:=rfl
  simp only [Int.toNat_natCast,e0] at hr hrl hsl ⊢
  have heq:Eqv n es d r:=⟨gi s,hr.lp⟩
  refine ⟨fun _=>yeL (by omega) (by omega) ⟨fun hp=>?_,fun hp=>?_⟩,fun q=>absurd trivial q⟩
  · have hP:=(yh1 hrl).1 hp
    have hdr:dg r=dg d:=heq.dg hd hP.len
    unfold ycm
    refine ⟨by omega,ydN r,KOk.nil 12,yig (yio hP) (by omega),?_⟩
    refine ⟨fun q v Q M=>∃ k:Nat,q=3000-k∧v=(k:Int)∧k≤Q.length∧Inv n es d M Q∧r∈Q∧∀ j,j<k→∀ m,1≤m→m<2^n-1→Pos n (firM n es (gx Q j) m)→firM n es (gx Q j) m∈Q,⟨3000,0,rfl,rfl,by omega,Inv.start hn.2 hd h5 hP heq,by simp,fun j hj=>absurd hj (by omega)⟩,?_⟩
    rintro q _ Q M ⟨k,rfl,rfl,hk,I,hrQ,hall⟩
    have hlen:=I.len hn.1 hn.2 hd h5
    refine ⟨fun hlt=>⟨fun _=>by omega,fun _=>⟨by omega,?_⟩⟩,fun hge=>?_⟩
    · rw [Int.toNat_natCast]
      have hkl:k<Q.length:=by omega
      refine p_system_steps hE (by omega) hn hd h5 I (List.mem_of_getElem? (ycu hkl)) fun M' Q' I' hp2 hm2=>⟨i64 (by omega),3000-(k+1),by omega,k+1,rfl,by omega,?_,I',hp2.subset hrQ,fun j hj m h1 h2 h3=>?_⟩
      · have:=hp2.length_le;omega
      · have hgj:gx Q' j=gx Q j:=by
          obtain ⟨t,rfl⟩:=hp2
          have hj2:j<Q.length:=by omega
          rw [ygA (by rw [List.length_append];omega),ygA hj2,List.getElem_append_left hj2]
        rw [hgj] at h3 ⊢
        by_cases e:j=k
        · subst e;exact hm2 m h1 h2 h3
        · exact hp2.subset (hall j (by omega) m h1 h2 h3)
    · refine yin (by omega) (fun x hx=>by have:=(I.mem x hx).1.len;omega) I.nd fun z hz hzm=>?_
      have e:=sysF_eq hE hn.1 hd hrQ hP heq I.mem (fun y m hy h1 h2 h3=>by
        obtain ⟨j,hj⟩:=List.mem_iff_getElem?.1 hy
        have hjl:=(List.getElem?_eq_some_iff.1 hj).1
        rw [ycu hjl] at hj
        cases hj
        exact hall j (by omega) m h1 h2 h3) hz hzm
      rw [e];exact h
  · have:sysF n es d=[]:=by
      rw [List.eq_nil_iff_forall_not_mem]
      intro x hx
      obtain ⟨h1,s',h2⟩:=(ydQ hn.1 hd).1 hx
      have hw:Win n es d:=⟨s',fun v hv=>by rw [←h2 v hv];exact h1.pos v hv⟩
      have h0:=(win_red hE (by omega) hr.red hr.lp).1 hw
      refine hp ((yh1 hrl).2 ⟨hrl,fun v hv=>?_⟩)
      by_cases e:v=0
      · subst e;exact h0
      · exact hr.pos v hv e
    rw [this] at h;exact h
end
end Go.Proofs.YtjepipbkiadcpaaGreat

/- What the functions of package system and their references come to. -/
namespace Go.Proofs.YtjepipbkiadcpaaGreat
open Go Go.Proofs.Tryz
theorem p_system_given{n:Int}{es:List E3}{l:List (List Int)}{R:Int→Prop}(hl:es.length≤1000)(hll:l.length≤1000)(h:R (givL n es l)):ycT n es l R:=by
  unfold ycT
  refine ⟨by omega,fun hg=>⟨fun hc=>?_,fun hc=>?_⟩,fun hg=>?_⟩
  · have hj:ycV n es=0:=by
      have:=of_decide_eq_true hc
      unfold ycV;rw [if_pos this.1,if_pos this.2]
    have e:givL n es l=errL n l:=by unfold givL;rw [if_pos hj]
    rw [e] at h
    refine ⟨Cnt l.length (fun k=>∀ j,j<k→ya6 (gx l j) n=0),Cnt.start (fun j hj=>absurd hj (by omega)),?_⟩
    rintro m _ ⟨k,rfl,rfl,hk,hinv⟩
    simp only [Int.toNat_natCast]
    refine ⟨fun hlt=>⟨by omega,yei ⟨fun h0=>Cnt.next (by omega) (by omega) fun j hj=>?_,fun hne=>?_⟩⟩,fun hge=>?_⟩
    · by_cases e:j=k
      · rw [e];exact h0
      · exact hinv j (by omega)
    · rw [errL_at (by omega) hinv hne] at h;exact h
    · have e:k=l.length:=by omega
      rw [errL_zero (by rw [←e];exact hinv)] at h;exact h
  · have hj:ycV n es=13:=by
      unfold ycV;rw [if_pos hg,if_neg]
      intro q;exact hc (decide_eq_true ⟨hg,q⟩)
    have e:givL n es l=13:=by unfold givL;rw [if_neg (by omega),hj]
    rw [e] at h;exact h
  · have hj:ycV n es=yap n es:=by unfold ycV;rw [if_neg hg]
    have e:givL n es l=yap n es:=by unfold givL;rw [if_neg (by omega),hj]
    rw [e] at h;exact h
theorem p_system_All{n:Int}{es:List E3}{d:List Int}{R:List (List Int)→Int→Prop}(hl:es.length≤1000)(h0:yaV n es 0 d≠0→R [] (yaV n es 0 d))(h1:yaV n es 0 d=0→DOk n.toNat es d∧R (sysF n.toNat es d) 0):ydp n es d R:=by
  unfold ydp
  refine p_system_given hl (by simp) ?_
  rw [givL_one]
  refine ⟨fun hg=>?_,fun hg=>h0 hg⟩
  obtain ⟨hD,hR⟩:=h1 hg
  obtain ⟨N,rfl,hd⟩:=given_nat hg hD
  exact p_system_all hD hd hR
theorem p_system_Size{n:Int}{es:List E3}{d:List Int}{R:Int→Int→Prop}(hl:es.length≤1000)(h0:yaV n es 0 d≠0→R 0 (yaV n es 0 d))(h1:yaV n es 0 d=0→DOk n.toNat es d∧R (((sysF n.toNat es d).length:Nat):Int) 0):ycg n es d R:=by
  unfold ycg
  exact p_system_All hl h0 h1
theorem sysF_few{n:Nat}{es:List E3}{d:List Int}(hD:DOk n es d):(sysF n es d).length≤2401:=sys_len hD.G.n1 hD.G.n5 hD.d5
end Go.Proofs.YtjepipbkiadcpaaGreat

/- yeM, and what the references of package system come to. -/
namespace Go.Proofs.YtjepipbkiadcpaaGreat
open Go Go.Proofs.Tryz
def StepTo(n:Nat)(es:List E3)(d y:List Int)(k:Nat):Prop:=∃ m,1≤m∧m<k∧Pos n (firM n es d m)∧y=firM n es d m
section
variable {n : Nat} {es : List E3} {d : List Int}
end
def StepsL(n:Nat)(es:List E3)(d:List Int)(z:List (List Int)):Prop:=Asc z∧∀ y,y∈z↔StepTo n es d y (2^n-1)
theorem StepsL.eq{n:Nat}{es:List E3}{d:List Int}{z z':List (List Int)}(h:StepsL n es d z)(h':StepsL n es d z'):z=z':=Asc.eq h.1 h'.1 fun y=>by rw [h.2,h'.2]
end Go.Proofs.YtjepipbkiadcpaaGreat

/- The references of package system: the system, what is above, the steps. -/
namespace Go.Proofs.YtjepipbkiadcpaaGreat
open Go Go.Proofs.Tryz
section
variable {N : Nat} {es : List E3} {d : List Int}
open Classical in
end
theorem lp_in{n:Nat}{es:List E3}{S:Nat→Bool}{v:Nat}(hv:S v=true):Lp n es (fun u=>if S u=true then 1 else 0) v=outS n es S v:=by
  unfold Lp outS
  refine yan fun u _=>?_
  show W es v u*((if S v=true then (1:Int) else 0)-(if S u=true then 1 else 0))=_
  rw [if_pos hv]
  by_cases q:S u=true
  · rw [if_pos q,if_pos q];omega
  · rw [if_neg q,if_neg q];omega
theorem lp_out{n:Nat}{es:List E3}(hE:EOk n es){S:Nat→Bool}{v:Nat}(hv:¬S v=true):Lp n es (fun u=>if S u=true then 1 else 0) v≤0:=by
  refine Int.le_trans (b:=sm n (fun _=>0)) ?_ (by rw [ybV];exact Int.le_refl _)
  unfold Lp
  refine yeh fun u _=>?_
  have:=ya5 hE v u
  show W es v u*((if S v=true then (1:Int) else 0)-(if S u=true then 1 else 0))≤0
  rw [if_neg hv]
  by_cases q:S u=true
  · rw [if_pos q];omega
  · rw [if_neg q];omega
end Go.Proofs.YtjepipbkiadcpaaGreat

/- Pure forms of functions, made by program (pf.py), each with the proof that the code does so. -/
namespace Go.Proofs.YtjepipbkiadcpaaGreat
open Go Go.RowKit Go.Shelf Go.Proofs.Tryz
set_option maxRecDepth 100000
set_option maxHeartbeats 8000000
end Go.Proofs.YtjepipbkiadcpaaGreat

/- Laws of layer 37: the examples, what is right, and the four laws against the reference. -/
namespace Go.Proofs.YtjepipbkiadcpaaGreat
open Go Go.Proofs.Tryz
theorem tri_lp(s:Nat→Int):Lp 3 tri s 0=2*s 0-s 1-s 2∧Lp 3 tri s 1=2*s 1-s 0-s 2∧Lp 3 tri s 2=2*s 2-s 0-s 1:=by
  have h:∀ v,Lp 3 tri s v=W tri v 0*(s v-s 0)+W tri v 1*(s v-s 1)+W tri v 2*(s v-s 2):=fun v=>by
    show sm 3 _=_
    simp [sm]
  refine ⟨?_,?_,?_⟩
  · rw [h,show W tri 0 0=0 by decide,show W tri 0 1=1 by decide,show W tri 0 2=1 by decide];omega
  · rw [h,show W tri 1 0=1 by decide,show W tri 1 1=0 by decide,show W tri 1 2=1 by decide];omega
  · rw [h,show W tri 2 0=1 by decide,show W tri 2 1=1 by decide,show W tri 2 2=0 by decide];omega
theorem tri_eqv{x y:List Int}(h:Eqv 3 tri x y):∃ k:Int,(gi y 1+2*gi y 2)-(gi x 1+2*gi x 2)=3*k:=by
  obtain ⟨s,hs⟩:=h
  obtain ⟨h0,h1,h2⟩:=tri_lp s
  have k1:=hs 1 (by omega)
  have k2:=hs 2 (by omega)
  exact ⟨s 0-s 2,by omega⟩
theorem eqv_dec{n:Nat}{es:List E3}{x y:List Int}(s:List Int)(h:∀ v,v<n→gi y v=gi x v-Lp n es (gi s) v):Eqv n es x y:=⟨gi s,h⟩
theorem sys_of{n:Nat}{es:List E3}{d:List Int}{l:List (List Int)}(hn:1≤n)(hd:d.length=n)(ha:Asc l)(h:∀ y,y∈l↔Pos n y∧Eqv n es d y):sysF n es d=l:=Asc.eq (sysF_asc _ _ _) ha fun y=>by rw [ydQ hn hd,h]
theorem asc_dec{l:List (List Int)}(h:l.Pairwise fun a b=>lexC a b<0):Asc l:=h
theorem pos_in{N k:Nat}{y d:List Int}{es:List E3}(hd:d.length=N+1)(hk:dg d=k)(hp:Pos (N+1) y)(he:Eqv (N+1) es d y):y∈ycC (N+1) k:=eff_list ⟨hp.len,hp.pos,by rw [he.dg hd hp.len,hk]⟩
theorem ys1:sysF 3 tri [1,1,0]=[[0,0,2],[1,1,0]]:=by
  refine sys_of (by decide) rfl (asc_dec (by decide)) fun y=>⟨fun h=>?_,fun ⟨hp,he⟩=>?_⟩
  · rcases List.mem_cons.1 h with rfl | h
    · exact ⟨⟨rfl,by decide⟩,eqv_dec [1,1,0] (by decide)⟩
    · rw [List.mem_singleton.1 h]
      exact ⟨⟨rfl,by decide⟩,Eqv.refl _ _ _⟩
  · have h:=pos_in (N:=2) (k:=2) rfl (by decide) hp he
    obtain ⟨k,hk⟩:=tri_eqv he
    have hl:ycC 3 2=[[0,0,2],[0,1,1],[0,2,0],[1,0,1],[1,1,0],[2,0,0]]:=by decide
    rw [hl] at h
    simp only [List.mem_cons,List.not_mem_nil,or_false] at h
    rcases h with rfl | rfl | rfl | rfl | rfl | rfl <;> simp [gi] at hk ⊢ <;> omega
theorem ex_dok{n:Nat}{es:List E3}{d:List Int}(G:GOk n es)(hd:d.length=n)(hb:∀ v,v<n → -150≤gi d v∧gi d v≤150)(h5:dg d≤5):DOk n es d∧yaV n es 0 d=0:=⟨⟨G,hb,h5⟩,G.giv hd fun v hv=>by have:=hb v hv;omega⟩
theorem ex_size{n:Nat}{es:List E3}{d:List Int}{R:Int→Int→Prop}(hD:DOk n es d∧yaV n es 0 d=0)(h:R (((sysF n es d).length:Nat):Int) 0):ycg n es d R :=
  p_system_Size (by have:=hD.1.G.el;omega) (fun q=>absurd hD.2 q) fun _=>⟨by rw [Int.toNat_natCast];exact hD.1,by rw [Int.toNat_natCast];exact h⟩
end Go.Proofs.YtjepipbkiadcpaaGreat

/- Laws of layer 37: Lists, Points, yeM, Covers. -/
namespace Go.Proofs.YtjepipbkiadcpaaGreat
open Go Go.Proofs.Tryz
structure RtOk(n:Int)(es:List E3)(most:Int)(d:List Int):Prop where
  j:ycV n es=0
  c:ya6 d n=0
  f:FewOk n es d most
theorem RtOk.giv{n most:Int}{es:List E3}{d:List Int}(h:RtOk n es most d):yaV n es 0 d=0:=by rw [given0,if_pos h.j,h.c]
theorem RtOk.int{n most:Int}{es:List E3}{d:List Int}(h:RtOk n es most d):∃ n':Nat,n=(n':Int):=⟨n.toNat,by have:=ydC h.giv;omega⟩
theorem StepsL.few{n:Nat}{es:List E3}{d:List Int}{z:List (List Int)}(hD:DOk n es d)(hd:d.length=n)(h:StepsL n es d z):z.length≤2401 :=
  Nat.le_trans (yfj h.1.nodup fun x hx=>by
    obtain ⟨m,_,_,h3,h4⟩:=(h.2 x).1 hx
    exact (ydQ hD.G.n1 hd).2 (by rw [h4];exact ⟨h3,Eqv.firM _ _ _ _⟩)) (sysF_few hD)
end Go.Proofs.YtjepipbkiadcpaaGreat

/- Laws of layer 37: Connects, Reaches, Adds, Agrees. -/
namespace Go.Proofs.YtjepipbkiadcpaaGreat
open Go Go.Proofs.Tryz
end Go.Proofs.YtjepipbkiadcpaaGreat

/- The sort of the divisors of equivalence.Classes. -/
namespace Go.Proofs.YtjepipbkiadcpaaGreat
open Go Go.RowKit Go.Shelf Go.Sort Go.Proofs.Tryz
set_option maxRecDepth 100000
set_option maxHeartbeats 400000
theorem order_anyC(W:World)(x y:List Int)(vx vy:Value)(lx:x.length≤1000000000)(ly:y.length≤1000000000)(hx:(cL cI).R no W [vx] x)(hy:(cL cI).R no W [vy] y) :
    Calls Tryz.prog 35 #[vx,vy] W fun e w'=>e = .returned (.int .i64 (lexC x y))∧W=w':=by
  obtain ⟨A,l,ca,e1,h1⟩:=hx
  obtain ⟨B,m,cb,e2,h2⟩:=hy
  cases e1
  cases e2
  obtain ⟨rfl,ha⟩:=yg4 h1
  obtain ⟨rfl,hb⟩:=yg4 h2
  go_enter func35,ntmps35
  go_wp2_with (first | (go_at_call 36;refine (compD_any A B x y ca cb _ ha hb lx ly).mono ?_;rintro e w' ⟨rfl,rfl⟩))
  go_ret
  exact ⟨rfl,rfl⟩
def yfQ(xs:List (List Int))(R:List (List Int)→Prop):Prop:=xs.length≤1000000000∧(∀ x∈xs,x.length≤1000000000)∧∀ zs:List (List Int),zs.Perm xs→zs.Pairwise (fun a b=>¬lexC b a<0)→R zs
theorem yhB{S O:Nat→Prop}{w:World}{xs:List (List Int)}{A:Option Addr}{l c:Nat}{t:TypeId}{R:List (List Int)→Prop}(h:yfQ xs R)(hS:Sep w S O w (rl [Res.own (cL cI) t A l c xs])) :
    Calls Tryz.prog 34 #[.slice A l c, .func (.func 35) #[] #[]] w fun e w'=>∃ z:List (List Int),e = .returned (.tuple #[])∧Sep w S O w' (rl [Res.own (cL cI) t A l c z])∧R z :=
  (srt_own sortD (c:=cL cI) rfl swo_lex enter_35 (fun W x y vx vy mx my hx hy=>(order_anyC W x y vx vy (h.2.1 x mx) (h.2.1 y my) hx hy).mono fun e w' ⟨h1,h2⟩=>⟨h1,0,#[],by rw [←h2];simp [grow,World.drewN]⟩) h.1 h.2.2 hS).mono fun e w' ⟨z,h1,h2,h3⟩=>⟨z,h1,h2,h3⟩
end Go.Proofs.YtjepipbkiadcpaaGreat
