/- Texts laid together: Srt, CmpI, Lay, SrtI, PVa_1. -/
import Derived.Shelf.SlSortCmp.NoneTotal
import Derived.Shelf.SlLaysF
import Derived.Test.YtencmgolklfmkaaGreatChecked
import Derived.Test.YtencmgolklfmkaaGreatK3
set_option linter.unusedVariables false
set_option linter.unusedSimpArgs false
set_option linter.unusedSectionVars false
/- slices.SortFunc at slices of one's own: the kit's contract, said of what is owned. Elements of one cell. No program in sight. -/
namespace Go.Proofs.YtencmgolklfmkaaGreat
open Go Go.RowKit Go.Shelf Go.Lib Go.Sort Go.Proofs.Tryz
theorem pair_up{τ:Type}{p:Value→τ→Prop} : ∀ (cells:List Value) (xs:List τ),cells.length=xs.length→(∀ (k:Nat) x u,xs[k]? = some x→cells[k]? = some u→p u x)→∃ ds:List {q:Value×τ // p q.1 q.2},ds.map (·.1.1)=cells∧ds.map (·.1.2)=xs
  | [],[],_,_=>⟨[],rfl,rfl⟩
  | [],_::_,h,_=>by simp at h
  | _::_,[],h,_=>by simp at h
  | u::cells,x::xs,h,hp=>by
    obtain ⟨ds,h1,h2⟩:=pair_up (p:=p) cells xs (by simpa using h) fun k y v hy hv=>hp (k+1) y v (by simpa using hy) (by simpa using hv)
    exact ⟨⟨(u,x),hp 0 x u rfl rfl⟩::ds,by rw [List.map_cons,h1],by rw [List.map_cons,h2]⟩
theorem yfx{α:Type} [Inhabited α](enc:α→Value)(w:World)(blk off m:Nat)(d:Array α)(os:Array Obj):Keeps (fun k=>k=blk) w (sortWorld enc w blk off m d os):=by
  refine ⟨rfl,rfl,rfl,?_,fun k hk hn=>?_⟩
  · show w.heap.size≤((w.heap.modify blk (onCells (putCells enc off d)))++os).size
    simp
  · show ((w.heap.modify blk (onCells (putCells enc off d)))++os)[k]? = _
    rw [Array.getElem?_append_left (by simpa using hk),Array.getElem?_modify,if_neg (fun q=>hn q.symm)]
theorem sortWorld_at{α:Type} [Inhabited α](enc:α→Value)(w:World)(blk off m:Nat)(d:Array α)(os:Array Obj){cur:Array Value}{e:TypeId}{fr:Nat×Nat}(h:w.heap[blk]? = some (.cells cur e fr)):(sortWorld enc w blk off m d os).heap[blk]? = some (.cells (putCells enc off d cur) e fr):=by
  show ((w.heap.modify blk (onCells (putCells enc off d)))++os)[blk]? = _
  have hb:=(Array.getElem?_eq_some_iff.1 h).1
  rw [Array.getElem?_append_left (by simpa using hb),Array.getElem?_modify,if_pos rfl,h]
  rfl
section
variable {P : Program} {ρ : Ren} {τ : Type} {c : Cod τ} {cf : τ → τ → Int} {g : Nat}
theorem srt_own(L:SlLaysF.n6 P ρ)(hc1:c.sz=1)(hO:SWO (ltOf cf))(eg:Enters P g)
    {w:World} {S O:Nat→Prop} {e:TypeId} {A:Option Addr} {l cap:Nat} {xs:List τ} {R:List τ→Prop}
    (hcmp:∀ W x y vx vy,x∈xs→y∈xs→c.R no W [vx] x→c.R no W [vy] y→Calls P g #[vx,vy] W fun e w'=>e = .returned (.int .i64 (cf x y))∧∃ q os',w'=grow (W.drewN q) os')
    (hlen:xs.length≤1000000000) (h:∀ zs,zs.Perm xs→zs.Pairwise (fun a b=>¬cf b a<0)→R zs)
    (hS:Sep w S O w (rl [Res.own c e A l cap xs])):Calls P (ρ.f 6) #[.slice A l cap, .func (.func g) #[] #[]] w fun e' w'=>∃ zs,e' = .returned (.tuple #[])∧Sep w S O w' (rl [Res.own c e A l cap zs])∧R zs:=by
  obtain ⟨hl,cells,ho,hc⟩:=hS.own 0 rfl
  by_cases h0:xs=[]
  · subst h0
    simp at hl
    subst hl
    refine (AnyF.slices_SortFunc_none { L with } A cap _ w).mono ?_
    rintro _ w' ⟨rfl,rfl⟩
    exact ⟨[],rfl,hS,h [] (List.Perm.refl _) List.Pairwise.nil⟩
  · have hlp:0<xs.length:=List.length_pos_iff.2 h0
    rcases ho.2 with ⟨_,q,_⟩ | ⟨gb,o,cur,rfl,hb,hg,hlc,hcm,hsz,hcur⟩
    · omega
    · have hcl:cells.length=xs.length:=by rw [ho.1,hc1,hl];omega
      obtain ⟨Φ,hΦ⟩:∃ Φ:Value→τ→Prop,∀ u x,Φ u x↔(u.oneCell'=true∧c.R (Bl O (rl [Res.own c e (some ⟨gb,o,none⟩) l cap xs])) w [u] x∧x∈xs):=⟨_,fun _ _=>Iff.rfl⟩
      obtain ⟨ds,hd1,hd2⟩:=pair_up (p:=Φ) cells xs hcl fun k x u hx hu=>by
        obtain ⟨vs,hR,hv⟩:=hc k x hx
        have hv1:=c.len hR
        rw [hc1] at hv1
        obtain ⟨v,rfl⟩:=List.length_eq_one_iff.1 hv1
        have:=hv 0 v rfl
        rw [hc1,Nat.mul_one,Nat.add_zero,hu] at this
        cases this
        exact (hΦ _ _).2 ⟨c.one hR _ (by simp),hR,List.mem_of_getElem? hx⟩
      have hdl:ds.length=xs.length:=by have q:=congrArg List.length hd2;rwa [List.length_map] at q
      have:Inhabited {q:Value×τ // Φ q.1 q.2}:=⟨ds[0]'(by omega)⟩
      have hget:∀ j (hj:j<ds.length) (hj2:j<cells.length),(ds.toArray[j]!).1.1=cells[j]:=fun j hj hj2=>by
        rw [getElem!_pos _ _ (by simpa using hj)]
        simp only [←hd1,List.getElem_map,List.getElem_toArray]
      have hlt:gb<w.heap.size:=(Array.getElem?_eq_some_iff.1 hg).1
      have hll:l=ds.toArray.size:=by rw [hl];simp [hdl]
      have hcm2:ds.toArray.size<4611686018427387904:=by rw [←hll,hl];exact Nat.lt_of_le_of_lt hlen (by decide)
      have hmain:=Any.slices_SortFunc L (fun q : {q:Value×τ // Φ q.1 q.2}=>q.1.1) (fun q=>((hΦ _ _).1 q.2).1) (fun a b=>cf a.1.2 b.1.2)
        ⟨fun a=>hO.irrefl a.1.2,fun a b d=>hO.trans a.1.2 b.1.2 d.1.2,fun a b d=>hO.ntrans a.1.2 b.1.2 d.1.2⟩ g #[] gb o cap ds.toArray w eg
        (fun m os dk _ x y=>by
          have hK:=(yfx (fun q : {q:Value×τ // Φ q.1 q.2}=>q.1.1) w gb o m dk os).mono (S':=Bl O (rl [Res.own c e (some ⟨gb,o,none⟩) l cap xs])) fun k _ hk => .inr ⟨0,by rw [hk];rfl⟩
          have hx:=c.sub (O':=no) (c.keep ((hΦ _ _).1 x.2).2.1 hK) fun _ _ h=>h.elim
          have hy:=c.sub (O':=no) (c.keep ((hΦ _ _).1 y.2).2.1 hK) fun _ _ h=>h.elim
          rw [Array.append_empty]
          exact hcmp _ _ _ _ _ ((hΦ _ _).1 x.2).2.2 ((hΦ _ _).1 y.2).2.2 hx hy)
        (fun j hj=>by
          have hj':j<ds.length:=by simpa using hj
          obtain ⟨g',o',e',_,h1,h2⟩:=ho.cellAt (i:=j) (List.getElem?_eq_getElem (by rw [hcl,←hdl];exact hj'))
          cases e'
          exact ⟨by rw [h1];congr 1;exact (hget j hj' _).symm,h2⟩) hlt hcm2
      rw [←hll] at hmain
      refine hmain.mono ?_
      rintro _ w' ⟨rfl,d',n,os,⟨p1,p2,p3⟩,hs,rfl⟩
      have hd'l:d'.size=l:=by rw [p1,hll]
      have hp:d'.toList.Perm ds:=by
        have e1:d'.extract 0 l=d':=by rw [←hd'l];exact Array.extract_size
        have e2:ds.toArray.extract 0 l=ds.toArray:=by rw [hll];exact Array.extract_size
        rwa [e1,e2] at p3
      refine ⟨d'.toList.map (·.1.2),rfl,?_,h _ ((hp.map (fun q=>q.1.2)).trans (List.Perm.of_eq hd2)) ?_⟩
      · have hK:=yfx (fun q : {q:Value×τ // Φ q.1 q.2}=>q.1.1) w gb o n d' os
        refine (hS.upd 0 (Res.own c e (some ⟨gb,o,none⟩) l cap (d'.toList.map (·.1.2))) hK (fun k _ hk=>by rw [hk];rfl) (fun k hk => .inl hk) ?_).sel [0] (by decide)
        refine ⟨by simp [hd'l],d'.toList.map (·.1.1),⟨by simp [hd'l,hc1], .inr ⟨gb,o,_,rfl,Nat.zero_le _,sortWorld_at _ w gb o n d' os hg,hlc,hcm,by simpa [putCells] using hsz,?_⟩⟩,fun k x hx=>?_⟩
        · rw [hc1,Nat.mul_one] at hsz ⊢
          apply List.ext_getElem?
          intro i
          rw [List.getElem?_take]
          by_cases hi:i<l
          · rw [if_pos hi,List.getElem?_drop,Array.getElem?_toList]
            have hic:o+i<cur.size:=by omega
            rw [putCells,Array.getElem?_mapIdx,Array.getElem?_eq_getElem hic,Option.map_some,if_pos ⟨by omega,by omega⟩,show o+i-o=i by omega,List.getElem?_map,Array.getElem?_toList,Array.getElem?_eq_getElem (by omega),Option.map_some,getElem!_pos _ _ (by omega)]
          · rw [if_neg hi,List.getElem?_eq_none (by simp;omega)]
        · rw [List.getElem?_map,Array.getElem?_toList] at hx
          have hk:k<d'.size:=by
            rcases Nat.lt_or_ge k d'.size with q | q
            · exact q
            · rw [Array.getElem?_eq_none q] at hx;cases hx
          rw [Array.getElem?_eq_getElem hk,Option.map_some] at hx
          cases hx
          refine ⟨[d'[k].1.1],?_,fun j u hj=>?_⟩
          · have hK2:=hK.mono (S':=Bl O (rl [Res.own c e (some ⟨gb,o,none⟩) l cap xs])) fun k _ hk => .inr ⟨0,by rw [hk];rfl⟩
            refine c.sub (c.keep ((hΦ _ _).1 d'[k].2).2.1 hK2) fun k _ hk=>?_
            rcases hk with q | ⟨i,q⟩
            · exact .inl q
            · by_cases hi:i=0
              · subst hi;rw [yaH] at q;exact .inr ⟨0,q⟩
              · rw [yau _ _ hi] at q;exact .inr ⟨i,q⟩
          · cases j with
            | zero =>
              simp at hj
              subst hj
              rw [hc1,Nat.mul_one,Nat.add_zero,List.getElem?_map,Array.getElem?_toList,Array.getElem?_eq_getElem hk,Option.map_some]
            | succ j=>simp at hj
      · rw [List.pairwise_map,List.pairwise_iff_getElem]
        intro i j hi hj hij
        have hj':j<d'.size:=by simpa using hj
        have:=hs i j (Nat.zero_le _) hij (by omega)
        rw [getElem!_pos d' j hj',getElem!_pos d' i (by omega)] at this
        simpa [ltOf] using this
end
end Go.Proofs.YtencmgolklfmkaaGreat

/- The walk of slices.Compare at slices of ints : the world is only drawn from. -/
namespace Go.Proofs.YtencmgolklfmkaaGreat
open Go Go.RowKit Go.Shelf Go.Proofs.Tryz
set_option maxRecDepth 100000
set_option maxHeartbeats 400000
theorem lexC_at{a b:List Int} : ∀ {k:Nat},k≤b.length→(∀ j,j<k→gi a j=gi b j)→k≤a.length→lexC a b=lexC (a.drop k) (b.drop k):=by
  intro k
  induction k generalizing a b with
  | zero=>intro _ _ _;rfl
  | succ k ih =>
    intro h1 h2 h3
    cases a with
    | nil=>simp at h3
    | cons x a =>
      cases b with
      | nil=>simp at h1
      | cons y b =>
        have h0:x=y:=by simpa [gi] using h2 0 (by omega)
        subst h0
        rw [List.drop_succ_cons,List.drop_succ_cons,lexC,if_neg (by omega),if_neg (by omega)]
        exact ih (by simpa using h1) (fun j hj=>by simpa [gi] using h2 (j+1) (by omega)) (by simpa using h3)
theorem drop_gi{a:List Int}{k:Nat}(h:k<a.length):a.drop k=gi a k::a.drop (k+1):=by
  rw [List.drop_eq_getElem_cons h]
  congr 1
  simp [gi,List.getElem?_eq_getElem h]
theorem lexC_end{a b:List Int}(h1:b.length≤a.length)(h2:∀ j,j<b.length→gi a j=gi b j)(h3:b.length<a.length):lexC a b=1:=by
  rw [lexC_at (k:=b.length) (Nat.le_refl _) h2 h1,List.drop_length,drop_gi h3];rfl
theorem lexC_out{a b:List Int}(h1:a.length≤b.length)(h2:∀ j,j<a.length→gi a j=gi b j):lexC a b=if a.length<b.length then -1 else 0:=by
  rw [lexC_at (k:=a.length) h1 h2 (Nat.le_refl _),List.drop_length]
  by_cases h:a.length<b.length
  · rw [if_pos h,drop_gi h];rfl
  · rw [if_neg h,List.drop_eq_nil_of_le (by omega)];rfl
theorem lexC_ne{a b:List Int}{k:Nat}(h1:k<a.length)(h2:k<b.length)(h3:∀ j,j<k→gi a j=gi b j)(h4:gi a k≠gi b k):lexC a b=cmpF (gi a k) (gi b k):=by
  rw [lexC_at (k:=k) (by omega) h3 (by omega),drop_gi h1,drop_gi h2,lexC]
  unfold cmpF
  by_cases q:gi a k<gi b k
  · rw [if_pos q,if_pos q]
  · rw [if_neg q,if_neg q,if_pos (by omega),if_pos (by omega)]
theorem cmpF_ne{x y:Int}(h:x≠y):cmpF x y≠0:=by
  unfold cmpF
  by_cases q:x<y
  · rw [if_pos q];omega
  · rw [if_neg q,if_pos (by omega)];omega
theorem cmpF_same(x:Int):cmpF x x=0:=by unfold cmpF;rw [if_neg (by omega),if_neg (by omega)]
theorem compI_any(A B:Option Addr)(a b:List Int)(ca cb:Nat)(w:World)(ha:Ints w A a)(hb:Ints w B b)(la:a.length≤1000000000)(lb:b.length≤1000000000) :
    Calls Tryz.prog 47 #[.slice A a.length ca, .slice B b.length cb] w fun e w'=>e = .returned (.int .i64 (lexC a b))∧w=w':=by
  have HA:=Lib.hid ha
  have HB:=Lib.hid hb
  clear ha hb
  go_enter func47,ntmps47
  go_wp2
  go_loopw [11] (fun i wr=>∃ k:Nat,k≤a.length∧k≤b.length∧i = .int .i64 k∧Hid (∀ j,j<k→gi a j=gi b j)∧w=wr) (fun i _=>a.length-(intOf i).toNat)
  case atStart=>exact ⟨0,Nat.zero_le _,Nat.zero_le _,rfl,fun j hj=>absurd hj (by omega),rfl⟩
  case round =>
    obtain ⟨k,hk,hkb,rfl,hall,rfl⟩:=hrel
    by_cases hlt:k<a.length
    · have i1:(0:Int)≤(k:Int):=by omega
      have i2:(k:Int)<(a.length:Int):=by omega
      obtain ⟨b1,o1,rfl,hb1,hc1⟩:=HA.out (by omega)
      have c1:=hc1 k hlt
      clear hc1
      by_cases hlb:k<b.length
      · obtain ⟨b2,o2,rfl,hb2,hc2⟩:=HB.out (by omega)
        have c2:=hc2 k hlb
        clear hc2
        have i3:(k:Int)<(b.length:Int):=by omega
        by_cases he:gi a k=gi b k
        · have h0:cmpF (gi a k) (gi b k)=0:=by rw [he];exact cmpF_same _
          have HE:=Lib.hid he
          clear he
          go_wp2_with (first | (go_at_call 97;refine (ygr _ _ _).mono ?_;rintro e w' ⟨rfl,rfl⟩;rw [h0]))
          go_roundw
          case rel =>
            refine ⟨k+1,by omega,by omega,by go_num,?_,trivial⟩
            intro j hj
            by_cases e:j=k
            · subst e;exact HE.out
            · exact hall.out j (by omega)
          case measure=>simp [intOf];omega
        · have h0:=lexC_ne hlt hlb hall.out he
          have hne:=cmpF_ne he
          clear he
          have hb':=neT hne
          go_wp2_with (first | (go_at_call 97;refine (ygr _ _ _).mono ?_;rintro e w' ⟨rfl,rfl⟩))
          go_ret
          exact ⟨yfN (by rw [h0];rfl),rfl⟩
      · have i3:(b.length:Int)≤(k:Int):=by omega
        have h0:=lexC_end (a:=a) (b:=b) (by omega) (fun j hj=>hall.out j (by omega)) (by omega)
        go_wp2
        go_ret
        exact ⟨yfN (by rw [h0];rfl),rfl⟩
    · have h0:=lexC_out (a:=a) (b:=b) (by omega) (fun j hj=>hall.out j (by omega))
      by_cases hab:a.length<b.length
      · rw [if_pos hab] at h0
        go_wp2
        go_ret
        exact ⟨yfN (by rw [h0];rfl),rfl⟩
      · rw [if_neg hab] at h0
        go_wp2
        go_ret
        exact ⟨yfN (by rw [h0];rfl),rfl⟩
end Go.Proofs.YtencmgolklfmkaaGreat

/- slices.SortFunc lies in this program. -/
namespace Go.Proofs.YtencmgolklfmkaaGreat
open Go Go.Shelf Go.Proofs.Tryz
def sortD_ren:Go.Shelf.Ren:=⟨fun | 6=>46 | 15=>96 | 14=>95 | 28=>134 | 29=>135 | 20=>126 | 21=>127 | 22=>128 | 23=>129 | 24=>130 | 25=>131 | 26=>132 | 27=>133 | 46=>153 | 47=>154 | 48=>155 | 49=>156 | 50=>157 | 57=>166 | n=>n,fun | 22=>27 | 24=>35 | 25=>53 | 3=>3 | 39=>114 | 0=>0 | 53=>153 | 55=>155 | 4=>4 | 46=>146 | 45=>145 | 50=>150 | 5=>5 | 9=>9 | 66=>165 | 70=>169 | 76=>177 | 77=>178 | n=>n,fun | n=>n⟩
theorem sortD:Go.Proofs.SlLaysF.n6 Tryz.prog sortD_ren:={
  mixed:=by kernel_rfl
  f6:=⟨Tryz.f46.name,by decide,func46.trans (congrArg some (by kernel_rfl))⟩
  f14:=⟨Tryz.f95.name,by decide,func95.trans (congrArg some (by kernel_rfl))⟩
  f15:=func96.trans (congrArg some (by kernel_rfl))
  f20:=⟨Tryz.f126.name,by decide,func126.trans (congrArg some (by kernel_rfl))⟩
  f21:=⟨Tryz.f127.name,by decide,func127.trans (congrArg some (by kernel_rfl))⟩
  f22:=⟨Tryz.f128.name,by decide,func128.trans (congrArg some (by kernel_rfl))⟩
  f23:=⟨Tryz.f129.name,by decide,func129.trans (congrArg some (by kernel_rfl))⟩
  f24:=⟨Tryz.f130.name,by decide,func130.trans (congrArg some (by kernel_rfl))⟩
  f25:=⟨Tryz.f131.name,by decide,func131.trans (congrArg some (by kernel_rfl))⟩
  f26:=⟨Tryz.f132.name,by decide,func132.trans (congrArg some (by kernel_rfl))⟩
  f27:=⟨Tryz.f133.name,by decide,func133.trans (congrArg some (by kernel_rfl))⟩
  f28:=func134.trans (congrArg some (by kernel_rfl))
  f29:=func135.trans (congrArg some (by kernel_rfl))
  f46:=⟨Tryz.f153.name,by decide,func153.trans (congrArg some (by kernel_rfl))⟩
  f47:=func154.trans (congrArg some (by kernel_rfl))
  f48:=func155.trans (congrArg some (by kernel_rfl))
  f49:=⟨Tryz.f156.name,by decide,func156.trans (congrArg some (by kernel_rfl))⟩
  f50:=⟨Tryz.f157.name,by decide,func157.trans (congrArg some (by kernel_rfl))⟩
  f57:=⟨Tryz.f166.name,by decide,func166.trans (congrArg some (by kernel_rfl))⟩
  t0:=underlying0
  a0:=Tryz.isAgg0
  z0:=Tryz.sizeOf0
  v0:=Tryz.zeroValue0
  t3:=underlying3
  a3:=Tryz.isAgg3
  z3:=Tryz.sizeOf3
  v3:=Tryz.zeroValue3
  t4:=underlying4
  a4:=Tryz.isAgg4
  z4:=Tryz.sizeOf4
  v4:=Tryz.zeroValue4
  t5:=underlying5
  a5:=Tryz.isAgg5
  z5:=Tryz.sizeOf5
  v5:=Tryz.zeroValue5
  t9:=underlying9
  a9:=Tryz.isAgg9
  z9:=Tryz.sizeOf9
  v9:=Tryz.zeroValue9
  t22:=underlying27
  a22:=Tryz.isAgg27
  z22:=Tryz.sizeOf27
  v22:=Tryz.zeroValue27
  a24:=Tryz.isAgg35
  z24:=Tryz.sizeOf35
  t25:=underlying53
  a25:=Tryz.isAgg53
  z25:=Tryz.sizeOf53
  v25:=Tryz.zeroValue53
  t39:=underlying114
  a39:=Tryz.isAgg114
  z39:=Tryz.sizeOf114
  v39:=Tryz.zeroValue114
  t45:=underlying145
  a45:=Tryz.isAgg145
  z45:=Tryz.sizeOf145
  v45:=Tryz.zeroValue145
  t46:=underlying146
  a46:=Tryz.isAgg146
  z46:=Tryz.sizeOf146
  v46:=Tryz.zeroValue146
  t50:=underlying150
  a50:=Tryz.isAgg150
  z50:=Tryz.sizeOf150
  v50:=Tryz.zeroValue150
  t53:=underlying153
  a53:=Tryz.isAgg153
  z53:=Tryz.sizeOf153
  v53:=Tryz.zeroValue153
  t55:=underlying155
  a55:=Tryz.isAgg155
  z55:=Tryz.sizeOf155
  v55:=Tryz.zeroValue155
  t66:=underlying165
  a66:=Tryz.isAgg165
  z66:=Tryz.sizeOf165
  v66:=Tryz.zeroValue165
  t70:=underlying169
  a70:=Tryz.isAgg169
  z70:=Tryz.sizeOf169
  v70:=Tryz.zeroValue169
  t76:=underlying177
  a76:=Tryz.isAgg177
  z76:=Tryz.sizeOf177
  v76:=Tryz.zeroValue177
  t77:=underlying178
  a77:=Tryz.isAgg178
  z77:=Tryz.sizeOf178
  v77:=Tryz.zeroValue178 }
end Go.Proofs.YtencmgolklfmkaaGreat

/- The sort of lists of numbers: slices.SortFunc by slices.Compare itself. -/
namespace Go.Proofs.YtencmgolklfmkaaGreat
open Go Go.RowKit Go.Shelf Go.Sort Go.Proofs.Tryz
set_option maxRecDepth 100000
set_option maxHeartbeats 400000
theorem order_any(W:World)(x y:List Int)(vx vy:Value)(lx:x.length≤1000000000)(ly:y.length≤1000000000)(hx:(cL cI).R no W [vx] x)(hy:(cL cI).R no W [vy] y) :
    Calls Tryz.prog 47 #[vx,vy] W fun e w'=>e = .returned (.int .i64 (lexC x y))∧W=w':=by
  obtain ⟨A,l,ca,e1,h1⟩:=hx
  obtain ⟨B,m,cb,e2,h2⟩:=hy
  cases e1
  cases e2
  obtain ⟨rfl,ha⟩:=sl_ints h1
  obtain ⟨rfl,hb⟩:=sl_ints h2
  exact compI_any A B x y ca cb _ ha hb lx ly
theorem swo_lex:SWO (ltOf lexC):=by
  refine ⟨fun a=>?_,fun a b d h1 h2=>?_,fun a b d h1 h2=>?_⟩
  · simp [ltOf,yfy]
  · simp only [ltOf,decide_eq_true_iff] at *
    exact yg9 _ _ _ h1 h2
  · simp only [ltOf,decide_eq_false_iff_not] at *
    intro h
    have k1:lexC b a≤0:=by rw [yc1];omega
    have k2:lexC d b≤0:=by rw [yc1];omega
    have k3:=yg0 k2 k1
    rw [yc1] at k3
    omega
def ydr(xs:List (List Int))(R:List (List Int)→Prop):Prop:=xs.length≤1000000000∧(∀ x∈xs,x.length≤1000000000)∧∀ zs:List (List Int),zs.Perm xs→zs.Pairwise (fun a b=>¬lexC b a<0)→R zs
theorem yeH{S O:Nat→Prop}{w:World}{xs:List (List Int)}{A:Option Addr}{l c:Nat}{t:TypeId}{R:List (List Int)→Prop}(h:ydr xs R)(hS:Sep w S O w (rl [Res.own (cL cI) t A l c xs])) :
    Calls Tryz.prog 46 #[.slice A l c, .func (.func 47) #[] #[]] w fun e w'=>∃ z:List (List Int),e = .returned (.tuple #[])∧Sep w S O w' (rl [Res.own (cL cI) t A l c z])∧R z :=
  (srt_own sortD (c:=cL cI) rfl swo_lex enter_47 (fun W x y vx vy mx my hx hy=>(order_any W x y vx vy (h.2.1 x mx) (h.2.1 y my) hx hy).mono fun e w' ⟨h1,h2⟩=>⟨h1,0,#[],by rw [←h2];simp [grow,World.drewN]⟩) h.1 h.2.2 hS).mono fun e w' ⟨z,h1,h2,h3⟩=>⟨z,h1,h2,h3⟩
end Go.Proofs.YtencmgolklfmkaaGreat

/- Pure forms of functions, made by program (pf.py), each with the proof that the code does so. -/
namespace Go.Proofs.YtencmgolklfmkaaGreat
open Go Go.RowKit Go.Shelf Go.Proofs.Tryz
set_option maxRecDepth 100000
set_option maxHeartbeats 8000000
def ydh(g:Int)(g2:List E3)(R:Bool→Prop):Prop :=
ydH g g2 5 8 (fun r =>
R r)
theorem yht{O:Nat→Prop}{w:World}{g g2 Ag lg cg}{R:Bool→Prop}(h:ydh g g2 R)(hO:∀ k,O k→k<w.heap.size)(hA0:(FP.sl c3 Ag lg cg g2).P O w) :
    Calls Tryz.prog 32 #[(.agg #[(ii g),(.slice Ag lg cg)])] w fun e w'=>∃ r2,e = .returned (.bool (r2))∧Sep w no O w' (rl [])∧R r2:=by
  unfold ydh at h;have hS:Sep w no O w (rl [Res.ro (FP.sl c3 Ag lg cg g2)]):=Sep.startl hO [(FP.sl c3 Ag lg cg g2)] ⟨hA0,trivial⟩;refine yal (l:=[(.agg #[(ii g),(.slice Ag lg cg)])]) func32 rfl ntmps32 zY (zs (zn (ybm (v:=(.agg #[(ii g),(.slice Ag lg cg)])) rfl ?_)));intro g3 w2 hN;replace hS:Sep w no O w2 (stl _ 1 (Res.box 24 g3 [(ii g),(.slice Ag lg cg)])):=hS.new 1 rfl hN;clear hN;refine zb (zQ (.bool (false)) (yaa (zs (zq (yao (vs:=[(ii g),(.slice Ag lg cg)]) rfl underlying24 rfl yak ⟨Row.cell (hS.bx 1 rfl) (i:=0) rfl,Row.cell (hS.bx 1 rfl) (i:=1) rfl,trivial⟩) (zn (yai rfl (am3 rfl rfl rfl) enter_67 ((pok_r08_small h (yaz _) (hS.rdr 0 rfl)).mono ?_)))))));rintro _ w3 ⟨r,rfl,hC,h⟩;replace hS:=hS.pur hC.pure;clear hC;refine ⟨_,rfl,?_⟩;exact zb (zQ (.bool (r)) (yaa (yah rfl rfl ⟨_,rfl,(hS.sel []),h⟩)))
def ydk(a:List Int)(b:List Int)(R:Bool→Prop):Prop :=
(((a.length:Int)=(b.length:Int) →
(∃ I2:Nat→Int→Prop,(∃ m0,I2 m0 0)∧∀ m2 i,I2 m2 i → 
((i<(a.length:Int) →
((0≤i∧i<(a.length:Int)) ∧
((0≤i∧i<(b.length:Int)) ∧
(((gi a i.toNat)=(gi b i.toNat) →
(In64 (i+1) ∧
∃ m3,m3<m2∧I2 m3 (i+1))) ∧
(¬((gi a i.toNat)=(gi b i.toNat)) →
R false))))) ∧
(¬(i<(a.length:Int)) →
R true)))) ∧
(¬((a.length:Int)=(b.length:Int)) →
R false))
theorem yhx{O:Nat→Prop}{w:World}{a b Aa la ca Ab lb cb}{R:Bool→Prop}(h:ydk a b R)(hO:∀ k,O k→k<w.heap.size)(hA0:(FP.sl cI Aa la ca a).P O w)(hA1:(FP.sl cI Ab lb cb b).P O w) :
    Calls Tryz.prog 55 #[(.slice Aa la ca),(.slice Ab lb cb)] w fun e w'=>∃ r,e = .returned (.bool (r))∧Sep w no O w' (rl [])∧R r:=by
  unfold ydk at h;have hS:Sep w no O w (rl [Res.ro (FP.sl cI Aa la ca a),Res.ro (FP.sl cI Ab lb cb b)]):=Sep.startl hO [(FP.sl cI Aa la ca a),(FP.sl cI Ab lb cb b)] ⟨hA0,hA1,trivial⟩;refine yal (l:=[(.slice Aa la ca),(.slice Ab lb cb)]) func55 rfl ntmps55 zY (zs (zQ (.bool (false)) (yaa (yac (zs (zM (.slice Aa la ca) (zq (yaG (n:=a.length) rfl underlying35 (yaD (hS.rdr 0 rfl))) (zM (.slice Ab lb cb) (zq (yaG (n:=b.length) rfl underlying35 (yaD (hS.rdr 1 rfl))) (zq zN (yaa ?_)))))))))));by_cases hp:(a.length:Int)=(b.length:Int)
  · replace h:=h.1 hp;refine ze hp (yaf (yac (zs (zQ (ii 0) (yaa (yad ?_))))));obtain ⟨I2,⟨m0,h0⟩,hr⟩:=h;refine yax (fun m E ds w'=>∃ i,I2 m i∧ds=[]∧E 0=(Value.slice Aa la ca)∧E 1=(Value.slice Ab lb cb)∧E 5=(ii i)∧Sep w no O w' (rl [Res.ro (FP.sl cI Aa la ca a),Res.ro (FP.sl cI Ab lb cb b)])) m0 ⟨_,h0,rfl,rfl,rfl,rfl,(hS.sel [0,1])⟩ ?_;clear h0 hS;rintro m2 E ds w2 ⟨i,h,rfl,H0,H1,H5,hS⟩ ag;replace h:=hr m2 i h;clear hr;refine yac (zs (zq (yab H5) (zq (yab H0) (zq (yaG (n:=a.length) rfl underlying35 (yaD (hS.rdr 0 rfl))) (zq zL (yaa ?_))))));by_cases hp2:i<(a.length:Int)
    · replace h:=h.1 hp2;refine zc hp2 (yaf (yac (yad (yac (ybq [0,1,2,3,4,5,6,7,8] st0 yaC (by kernel_rfl) (by kernel_rfl) ?_)))));replace hS:=hS.drew;refine zp (yab H0) (zp (yab H5) ?_);obtain ⟨hx,h⟩:=h;refine zp (zi underlying35 yag (yaB (hS.rdr 0 rfl) hx)) (zp (yar (v:=(ii (gi a i.toNat))) rfl underlying3 rfl (rd_1 (hS.rdr 0 rfl) hx (fun q=>yaF q) rfl)) ?_);refine zp (yab H1) (zp (yab H5) ?_);obtain ⟨hx2,h⟩:=h;refine zp (zi underlying35 yag (yaB (hS.rdr 1 rfl) hx2)) (zp (yar (v:=(ii (gi b i.toNat))) rfl underlying3 rfl (rd_1 (hS.rdr 1 rfl) hx2 (fun q=>yaF q) rfl)) ?_);refine zp zN (ybH ?_);by_cases hp3:(gi a i.toNat)=(gi b i.toNat)
      · replace h:=h.1 hp3;refine ze hp3 (yaf (yae (zr (zq (yab H5) ?_))));obtain ⟨hi,h⟩:=h;refine zq (zA hi) (zQ (ii (i+1)) (yaa ?_));obtain ⟨mq,hlt,h⟩:=h;exact ag mq _ _ _ ⟨_,h,rfl,H0,H1,rfl,(hS.sel [0,1])⟩ hlt
      · replace h:=h.2 hp3;exact zf hp3 (zs (zQ (.bool (false)) (yaa (yah rfl rfl ⟨_,rfl,(hS.sel []),h⟩))))
    · replace h:=h.2 hp2;exact zd hp2 (yas rfl (zs (zQ (.bool (true)) (yaa (yah rfl rfl ⟨_,rfl,(hS.sel []),h⟩)))))
  · replace h:=h.2 hp;exact zf hp (zs (zQ (.bool (false)) (yaa (yah rfl rfl ⟨_,rfl,(hS.sel []),h⟩))))
def yc0(g:Int)(g2:List E3)(R:Prop):Prop :=
R
theorem yeM{O:Nat→Prop}{w:World}{g g2 Ag lg cg}{R:Prop}(h:yc0 g g2 R)(hO:∀ k,O k→k<w.heap.size)(hA0:(FP.sl c3 Ag lg cg g2).P O w) :
    Calls Tryz.prog 104 #[(.agg #[(ii g),(.slice Ag lg cg)])] w fun e w'=>∃ gr,e = .returned (.func (Fn.func 142) #[] #[(.pointer (some ⟨gr,0,none⟩))])∧Sep w no O w' (rl [Res.box 24 gr [(ii g),(.slice Ag lg cg)]])∧R:=by
  unfold yc0 at h;have hS:Sep w no O w (rl [Res.ro (FP.sl c3 Ag lg cg g2)]):=Sep.startl hO [(FP.sl c3 Ag lg cg g2)] ⟨hA0,trivial⟩;refine yal (l:=[(.agg #[(ii g),(.slice Ag lg cg)])]) func104 rfl ntmps104 zY (zs (zn (ybm (v:=(.agg #[(ii g),(.slice Ag lg cg)])) rfl ?_)));intro g3 w2 hN;replace hS:Sep w no O w2 (stl _ 1 (Res.box 24 g3 [(ii g),(.slice Ag lg cg)])):=hS.new 1 rfl hN;clear hN;exact zb (zQ Value.nilFunc (yaa (zs (zq (ykf (am0) (am1 rfl)) (zQ (.func (Fn.func 142) #[] #[(.pointer (some ⟨g3,0,none⟩))]) (yaa (yah rfl rfl ⟨_,rfl,(hS.sel [1]),h⟩)))))))
def ybt(cap:Int)(cap2:List E3)(Pr R:List E3→Prop):Prop :=
(∃ I2:Nat→(List E3)→Int→Int→Prop,(∃ m0,I2 m0 ([]) 0 0)∧∀ m2 pre2 e2 v,I2 m2 pre2 e2 v → 
((v<(cap2.length:Int) →
((0≤v∧v<(cap2.length:Int)) ∧
(∃ I3:Nat→(List E3)→Int→Int→Prop,(∃ m0,I3 m0 pre2 e2 0)∧∀ m3 pre3 e3 v2,I3 m3 pre3 e3 v2 → 
((v2<((ge cap2 v.toNat).2.2) →
(Pr (pre3++[(e3,(ge cap2 v.toNat).1,(ge cap2 v.toNat).2.1)]) ∧
((In64 (e3+1) ∧
(In64 (v2+1) ∧
∃ m4,m4<m3∧I3 m4 (pre3++[(e3,(ge cap2 v.toNat).1,(ge cap2 v.toNat).2.1)]) (e3+1) (v2+1))) ∧
True))) ∧
(¬(v2<((ge cap2 v.toNat).2.2)) →
(In64 (v+1) ∧
∃ m5,m5<m2∧I2 m5 pre3 e3 (v+1))))))) ∧
(¬(v<(cap2.length:Int)) →
R pre2)))
theorem yee{w:World}{T0 G0:BS}{cap cap2 gc Aa Ab Ac}{Pr R:List E3→Prop}(h:ybt cap cap2 Pr R)(hS0:Sep w G0 T0 w (rl [Res.box 24 gc [(Value.int .i64 cap),(Value.slice Aa Ab Ac)],Res.ro (FP.sl c3 Aa Ab Ac cap2)])) :
    yiw Tryz.prog 142 #[(.pointer (some ⟨gc,0,none⟩))] (fun (x:E3)=>#[(ii x.1),(.agg #[(ii x.2.1),(ii x.2.2)])]) (fun _=>FP.tt) Pr R T0 G0 w:=by
  unfold ybt at h;intro l J Jx T1 w1 hs hJ hp hT;obtain ⟨G,hJ,hS⟩:=gen_start hS0 hs hJ hp hT;clear hS0 hp hT;refine yh5 (l:=[(.func (.yield l) #[] #[]),(.pointer (some ⟨gc,0,none⟩))]) func142 rfl ntmps142 zY rfl (zs (zQ (ii 0) (yaa (zs (zq (yam rfl underlying24 rfl ybZ) (zq (zl underlying22 (Row.cell (hS.bx 0 rfl) (i:=1) rfl)) (zq (yaG (n:=cap2.length) rfl underlying22 (yaD (hS.rdr 1 rfl))) (zM (ii 0) (yaa (yad ?_))))))))));obtain ⟨I2,⟨m0,h0⟩,hr⟩:=h;refine yax (fun m E ds w'=>∃ pre2 e2 v,∃ T2:BS,∃ G2:BS,∃ wb2:World,I2 m pre2 e2 v∧ds=[]∧E 0=(Value.func (.yield l) #[] #[])∧E 3=(ii e2)∧E 7=(Value.slice Aa Ab Ac)∧E 8=(ii (cap2.length:Int))∧E 9=(ii v)∧J T2 G2 pre2 wb2∧Sep wb2 G2 T2 w' (rl [Res.ro (FP.sl c3 Aa Ab Ac cap2)])) m0 ⟨_,_,_,_,_,_,h0,rfl,rfl,rfl,rfl,rfl,rfl,hJ,(hS.sel [1])⟩ ?_;clear h0 hS hJ;rintro m2 E ds w2 ⟨pre2,e2,v,T2,G2,wb2,h,rfl,H0,H3,H7,H8,H9,hJ,hS⟩ ag;replace h:=hr m2 pre2 e2 v h;clear hr;refine zs (zq (ydm H9 H8) (yaa (yac ?_)));by_cases hp:v<(cap2.length:Int)
  · replace h:=h.1 hp;refine zc hp (yaf (yac (yad (zs ?_))));obtain ⟨hx,h⟩:=h;refine zq (ydA H7 H9 underlying22 yaT (yaB (hS.rdr 0 rfl) hx)) (zq (yao (vs:=[(ii ((ge cap2 v.toNat).1)),(ii ((ge cap2 v.toNat).2.1)),(ii ((ge cap2 v.toNat).2.2))]) rfl underlying93 rfl yaT (yhX (hS.rdr 0 rfl) hx (fun q=>ydz q))) ?_);refine zn (yaS yaT ?_);intro g w3 hN;replace hS:Sep wb2 G2 T2 w3 (stl _ 1 (Res.box 93 g [(ii 0),(ii 0),(ii 0)])):=hS.new 1 rfl hN;clear hN;refine zb (zo (yaQ (b:=g) (o:=0) (cells:=#[(ii ((ge cap2 v.toNat).1)),(ii ((ge cap2 v.toNat).2.1)),(ii ((ge cap2 v.toNat).2.2))]) rfl rfl yaT rfl rfl (yaL (hS.bx 1 rfl) zY) ?_));intro w4 e1;replace hS:=hS.bstn 1 rfl 0 [(ii ((ge cap2 v.toNat).1)),(ii ((ge cap2 v.toNat).2.1)),(ii ((ge cap2 v.toNat).2.2))] e1;clear e1;refine zb (yaa (zs (zq (yam rfl underlying93 rfl yag) (zq (zl underlying3 (Row.cell (hS.bx 1 rfl) (i:=2) rfl)) (zM (ii 0) (yaa (yad ?_)))))));obtain ⟨I3,⟨m0,h0⟩,hr⟩:=h;refine yax (fun m E ds w'=>∃ pre3 e3 v2,∃ T3:BS,∃ G3:BS,∃ wb3:World,I3 m pre3 e3 v2∧ds=[]∧E 0=(Value.func (.yield l) #[] #[])∧E 3=(ii e3)∧E 5=(Value.pointer (some ⟨g,0,none⟩))∧E 7=(Value.slice Aa Ab Ac)∧E 8=(ii (cap2.length:Int))∧E 9=(ii v)∧E 14=(ii ((ge cap2 v.toNat).2.2))∧E 15=(ii v2)∧J T3 G3 pre3 wb3∧Sep wb3 G3 T3 w' (rl [Res.box 93 g [(ii ((ge cap2 v.toNat).1)),(ii ((ge cap2 v.toNat).2.1)),(ii ((ge cap2 v.toNat).2.2))],Res.ro (FP.sl c3 Aa Ab Ac cap2)])) m0 ⟨_,_,_,_,_,_,h0,rfl,H0,H3,rfl,H7,H8,H9,rfl,rfl,hJ,(hS.sel [1,0])⟩ ?_;clear h0 hS hJ;rintro m3 E ds w5 ⟨pre3,e3,v2,T3,G3,wb3,h,rfl,H0,H3,H5,H7,H8,H9,H14,H15,hJ,hS⟩ again2;replace h:=hr m3 pre3 e3 v2 h;clear hr;refine zs (zq (ydm H15 H14) (yaa (yac ?_)));by_cases hp2:v2<((ge cap2 v.toNat).2.2)
    · replace h:=h.1 hp2;refine zc hp2 (yaf (yac (yad (yac (zs (zq (yab H0) (zq (yab H3) (zq (yam H5 underlying93 rfl yag) (zq (zl underlying3 (Row.cell (hS.bx 0 rfl) (i:=0) rfl)) (zq (yam H5 underlying93 rfl yag) (zq (zl underlying3 (Row.cell (hS.bx 0 rfl) (i:=1) rfl)) (zn (ycw (l:=[(0,(ii ((ge cap2 v.toNat).1))),(1,(ii ((ge cap2 v.toNat).2.1)))]) (cells:=[(ii ((ge cap2 v.toNat).1)),(ii ((ge cap2 v.toNat).2.1))]) (places:=[(0,1),(1,1)]) (bp2 rfl rfl) underlying126 ycd (by kernel_rfl) rfl ?_)))))))))))));refine zb ?_;obtain ⟨hPr,hyes,hno⟩:=h;refine zn (n_yield (m:=1) rfl (am2 rfl rfl) (gen_yield (x:=(e3,(ge cap2 v.toNat).1,(ge cap2 v.toNat).2.1)) hs hJ hS hPr trivial ?_ ?_))
      · clear hno hJ hS;have h:=hyes;clear hyes;intro T4 w6 hJ hS;generalize OwnB _=G4 at hJ hS;refine ⟨_,rfl,?_⟩;refine zb (zq (yds rfl) (yaa (yav (zC (zB rfl)) (yaf (zr (zq (yab H3) ?_))))));obtain ⟨hi,h⟩:=h;refine zq (zA hi) (zQ (ii (e3+1)) (yaa (yae (zr ?_))));obtain ⟨hi2,h⟩:=h;refine zq (yb3 H15 rfl hi2) (zM (ii (v2+1)) (yaa ?_));obtain ⟨mq,hlt,h⟩:=h;exact again2 mq _ _ _ ⟨_,_,_,_,_,_,h,rfl,H0,rfl,H5,H7,H8,H9,H14,rfl,hJ,(hS.sel [0,1])⟩ hlt
      · clear hyes hJ hS;have h:=hno;clear hno;intro T5 w7 hJ hS;generalize OwnB _=G5 at hJ hS;refine ⟨_,rfl,?_⟩;exact zb (zq (yds rfl) (yaa (yaq (zC (zB rfl)) (wt_ret0 rfl ⟨⟨_,rfl⟩,gen_endx hs hJ hS⟩))))
    · replace h:=h.2 hp2;refine zd hp2 (yas rfl (yae (zr ?_)));obtain ⟨hi3,h⟩:=h;refine zq (yb3 H9 rfl hi3) (zM (ii (v+1)) (yaa ?_));obtain ⟨mq,hlt,h⟩:=h;exact ag mq _ _ _ ⟨_,_,_,_,_,_,h,rfl,H0,H3,H7,H8,rfl,hJ,(hS.sel [1])⟩ hlt
  · replace h:=h.2 hp;exact zd hp (yas rfl (yiv rfl ⟨⟨_,rfl⟩,gen_end hs hJ hS h⟩))
def ycI(g:Int)(g2:List E3)(R:(List (Int×Int))→Int→Prop):Prop :=
ybF g g2 (fun r =>
((r=0 →
yc0 g g2 ((∃ Pr Rr:List E3→Prop,ybt g g2 Pr Rr ∧
(∃ I2:List E3→(List (Int×Int))→Prop,I2 [] ([]) ∧
(∀ pre y y2 y3 out,I2 pre out→Pr (pre++[(y,y2,y3)]) →
(out.length+1≤1000000000 ∧
I2 (pre++[(y,y2,y3)]) (out++[(y2,y3)]))) ∧
(∀ ys out,I2 ys out→Rr ys →
R out 0))))) ∧
(¬(r=0) →
R ([]) r)))
theorem ygh{O:Nat→Prop}{w:World}{g g2 Ag lg cg}{R:(List (Int×Int))→Int→Prop}(h:ycI g g2 R)(hO:∀ k,O k→k<w.heap.size)(hA0:(FP.sl c3 Ag lg cg g2).P O w) :
    Calls Tryz.prog 85 #[(.agg #[(ii g),(.slice Ag lg cg)])] w fun e w'=>∃ r2 r3 Ar lr cr,e = .returned (.tuple #[(.slice Ar lr cr),(ii r3)])∧Sep w no O w' (rl [Res.own c2 96 Ar lr cr r2])∧R r2 r3:=by
  unfold ycI at h;have hS:Sep w no O w (rl [Res.ro (FP.sl c3 Ag lg cg g2)]):=Sep.startl hO [(FP.sl c3 Ag lg cg g2)] ⟨hA0,trivial⟩;refine yfE (l:=[(.agg #[(ii g),(.slice Ag lg cg)])]) func85 rfl ntmps85 zY (zs (zn (ybm (v:=(.agg #[(ii g),(.slice Ag lg cg)])) rfl ?_)));intro g3 w2 hN;replace hS:Sep w no O w2 (stl _ 1 (Res.box 24 g3 [(ii g),(.slice Ag lg cg)])):=hS.new 1 rfl hN;clear hN;refine zb (zQ (.slice none 0 0) (zQ (ii 0) (yaa (yac (zs (zq (yao (vs:=[(ii g),(.slice Ag lg cg)]) rfl underlying24 rfl yak ⟨Row.cell (hS.bx 1 rfl) (i:=0) rfl,Row.cell (hS.bx 1 rfl) (i:=1) rfl,trivial⟩) (zn (yai rfl (am1 rfl) yhE ((ydq h (yaz _) (hS.rdr 0 rfl)).mono ?_)))))))));rintro _ w3 ⟨r,rfl,hC,h⟩;replace hS:=hS.pur hC.pure;clear hC;refine ⟨_,rfl,?_⟩;refine zb (zQ (ii r) (yaa (zs (zM (ii r) (zq zN (yaa ?_))))));by_cases hp:r=0
  · replace h:=h.1 hp;refine ze hp (yaf (zs (zn (yaS info_62 ?_))));intro g4 w4 hN;replace hS:Sep w no O w4 (stl _ 2 (Res.box 62 g4 [(.slice none 0 0)])):=hS.new 2 rfl hN;clear hN;refine zb (yaa (yac (zs (zq (yao (vs:=[(ii g),(.slice Ag lg cg)]) rfl underlying24 rfl yak ⟨Row.cell (hS.bx 1 rfl) (i:=0) rfl,Row.cell (hS.bx 1 rfl) (i:=1) rfl,trivial⟩) (zn (yai rfl (am1 rfl) enter_104 ((yeM h hS.blt (hS.ro 0 rfl)).mono ?_)))))));rintro _ w5 ⟨gc,rfl,hC,h⟩;replace hS:=hS.call1 hC 3 0 rfl;clear hC;refine ⟨_,rfl,?_⟩;refine zb (yaa (yad ?_));replace hS:=hS.nil 4 rfl c2 96;obtain ⟨Pr,Rr,hgp,I2,h0,hb,h⟩:=h;refine wt_iterS hS [2,4] [3,0] (by decide) (by decide) ⟨.inl (by decide), .inr rfl,trivial⟩ rfl enter_142 (val:=(fun (x:E3)=>#[(ii x.1),(.agg #[(ii x.2.1),(ii x.2.2)])])) (pass:=(fun _=>FP.tt)) (Pr:=Pr) (R:=Rr) (fun _=>rfl) rfl (fun pr LL=>∃ out Aa Ab Ac,I2 pr out∧LL=[Res.box 62 g4 [(.slice Aa Ab Ac)],Res.own c2 96 Aa Ab Ac out]) (fun _ _ _=>False) ⟨_,_,_,_,h0,rfl⟩ (fun T G hG=>yee hgp hG) ?_ ?_ (fun _ _ _ _ _ hx=>hx.elim)
    · clear h h0 hS hgp;rintro ll rdy busy S O2 pre ⟨y,y2,y3⟩ w6 _ ⟨out,Aa,Ab,Ac,hI,rfl⟩ hPr hpass hS;have h:=hb pre y y2 y3 out hI hPr;clear hb hI hPr;clear hpass;refine yaE (ydD ll) (zn (yaS ycd ?_));intro g5 w8 hN;replace hS:Sep w6 S O2 w8 (stl _ 3 (Res.box 126 g5 [(ii 0),(ii 0)])):=hS.new 3 rfl hN;clear hN;refine zb (zo (yaQ (b:=g5) (o:=0) (cells:=#[(ii y2),(ii y3)]) rfl rfl ycd rfl rfl (yaL (hS.bx 3 rfl) zY) ?_));intro w9 e1;replace hS:=hS.bstn 3 rfl 0 [(ii y2),(ii y3)] e1;clear e1;refine zb (yaa (yhq fun a ra=>⟨rfl,_,_,ra,hS,⟨2,rfl⟩,?_⟩));intro w10 hw;replace hS:=hS.flip 2 rfl busy hw;clear hw ra a;refine yad (yaE (ydD ll) (zq (zl underlying62 (Row.cell (hS.bx 0 rfl) (i:=0) rfl)) (zq (yam rfl underlying126 rfl yag) (zq (zl underlying3 (Row.cell (hS.bx 3 rfl) (i:=0) rfl)) (zq (yam rfl underlying126 rfl yag) (zq (zl underlying3 (Row.cell (hS.bx 3 rfl) (i:=1) rfl)) (zn (n_builda (l:=[(0,(ii y2)),(1,(ii y3))]) (cells:=[(ii y2),(ii y3)]) (bp2 rfl rfl) underlying96 ybk yag (by kernel_rfl) ?_))))))));refine zb (zn (yaK (l:=[(0,(.agg #[(ii y2),(ii y3)]))]) (cells:=[(ii y2),(ii y3)]) (bp1 rfl) underlying62 ybk rfl rfl ?_));intro g6 w11 hN;replace hS:=hS.litf (n:=1) 4 rfl (fP (fI .i64) (fI .i64)) hN ([(y2,y3)]:List (Int×Int)) rfl (by decide) rfl;clear hN;refine zb ?_;obtain ⟨hx,h⟩:=h;refine zn (yfv (c:=c2) rfl rfl underlying62 underlying62 ybk rfl rfl (by decide) hS 1 rfl (hS.yo 4 rfl) hx ?_);clear hS;intro A c w12 hS;refine zb (zo (zt (.slice A (Ab+1) c) info_62 (hS.bwr 0 rfl (j:=0) rfl) ?_));intro w13 e1;replace hS:=hS.bst 0 rfl 0 (.slice A (Ab+1) c) e1;clear e1;exact zb (yaa (yae (yhq fun a r=>⟨_,⟨_,_,_,_,h,rfl⟩,(hS.sel [0,1,2])⟩)))
    · clear hb h0 hS hgp;rintro D ys w7 _ hRr ⟨out,Aa,Ab,Ac,hI,rfl⟩ hS;replace h:=h ys out hI hRr;clear hI hRr;exact yae (zs (zq (zl underlying62 (Row.cell (hS.bx 0 rfl) (i:=0) rfl)) (zQ (.slice Aa Ab Ac) (zQ (ii 0) (yaa (yhT (rs:=[D]) (by simp) (hS.marked 2 rfl) rfl rfl rfl (fun w9 hk=>⟨_,_,_,_,_,rfl,(hS.unmark [2] [1] (by decide) (by decide) (yhc 2 rfl) hk),h⟩)))))))
  · replace h:=h.2 hp;refine zf hp (zs (zM (ii r) (zQ (.slice none 0 0) (zQ (ii r) (yaa ?_)))));replace hS:=hS.nil 2 rfl c2 96;exact yhT (rs:=[]) (by simp) (by simp) rfl rfl rfl (fun w9 hk=>⟨_,_,_,_,_,rfl,(hS.unmark [] [2] (by decide) (by decide) (by simp) hk),h⟩)
def ybM(R:(List Int)→Prop):Prop :=
(∃ I2:Nat→Int→(List Int)→Prop,(∃ m0,I2 m0 0 (List.replicate 12 (0:Int)))∧∀ m2 v f,I2 m2 v f → 
((v<12 →
((0≤v∧v<12) ∧
(In64 (v+1) ∧
∃ m3,m3<m2∧I2 m3 (v+1) (f.set v.toNat v)))) ∧
(¬(v<12) →
(f.length=12 ∧
R f))))
theorem ye1{O:Nat→Prop}{w:World}{R:(List Int)→Prop}(h:ybM R)(hO:∀ k,O k→k<w.heap.size) :
    Calls Tryz.prog 120 #[] w fun e w'=>∃ r,e = .returned (kE r)∧Sep w no O w' (rl [])∧R r:=by
  unfold ybM at h;have hS:Sep w no O w (rl []):=Sep.start w hO;refine yal (l:=[]) func120 rfl ntmps120 zY (zs (zn (yaS ycf ?_)));intro g w2 hN;replace hS:=hS.made (n:=12) 0 rfl cI (ii 0) (0:Int) (fun _ _=>rfl) (hN:New _ _ _ (Array.replicate 12 (ii 0)) 105) (by decide);clear hN;refine zb (yaa (zs (zn (yaS ycf ?_))));intro g2 w3 hN;replace hS:=hS.made (n:=12) 1 rfl cI (ii 0) (0:Int) (fun _ _=>rfl) (hN:New _ _ _ (Array.replicate 12 (ii 0)) 105) (by decide);clear hN;refine zb (yaa (yac (zs (zM (ii 0) (yaa (yad ?_))))));obtain ⟨I2,⟨m0,h0⟩,hr⟩:=h;refine yax (fun m E ds w'=>∃ v f,I2 m v f∧ds=[]∧E 0=(Value.pointer (some ⟨g,0,none⟩))∧E 1=(Value.pointer (some ⟨g2,0,none⟩))∧E 3=(ii v)∧Sep w no O w' (rl [Res.own cI 105 (some ⟨g,0,none⟩) 12 12 (List.replicate 12 (0:Int)),Res.own cI 105 (some ⟨g2,0,none⟩) 12 12 f])) m0 ⟨_,_,h0,rfl,rfl,rfl,rfl,(hS.sel [0,1])⟩ ?_;clear h0 hS;rintro m2 E ds w4 ⟨v,f,h,rfl,H0,H1,H3,hS⟩ ag;replace h:=hr m2 v f h;clear hr;refine zs (zq (ydm H3 rfl) (yaa (yac ?_)));by_cases hp:v<12
  · replace h:=h.1 hp;refine zc hp (yaf (yac (yad (zs (zq (yab H3) (zQ (ii v) (yaa (zr (zM (ii v) (zM (ii v) ?_))))))))));obtain ⟨hx,h⟩:=h;have hy:=yhj (hS.rdo 1 rfl) hx;refine zq (yew H1 rfl underlying105 yag hx) (zo (zt (ii v) yag (hS.wr 1 rfl rfl hy) ?_));intro w5 e1;replace hS:=hS.st 1 rfl rfl hy (x:=v) rfl e1;clear e1;refine zb (yaa (yae (zr ?_)));obtain ⟨hi,h⟩:=h;refine zq (yb3 H3 rfl hi) (zM (ii (v+1)) (yaa ?_));obtain ⟨mq,hlt,h⟩:=h;exact ag mq _ _ _ ⟨_,_,h,rfl,H0,H1,rfl,(hS.sel [0,1])⟩ hlt
  · replace h:=h.2 hp;refine zd hp (yas rfl (zs (zq (yao (vs:=f.map (Value.int .i64)) H1 underlying105 rfl (arr_info ycf (hS.rdo 1 rfl)) (yh1 (hS.rdo 1 rfl))) ?_)));obtain ⟨hx2,h⟩:=h;refine zo (yiE H0 rfl ycf hS 0 rfl hx2 ?_);clear hS;intro w6 hS;exact zb (yaa (ygc rfl (rv_a H0 underlying105 rfl ycf hS 0 rfl) ⟨_,rfl,(hS.sel []),h⟩))
def yaW(f:List Int)(v:Int)(R:Int→Prop):Prop :=
(∃ I2:Nat→Int→Prop,(∃ m0,I2 m0 v)∧∀ m2 v2,I2 m2 v2 → 
((0≤v2∧v2<12) ∧
(((gi f v2.toNat)=v2 →
R v2) ∧
(¬((gi f v2.toNat)=v2) →
∃ m3,m3<m2∧I2 m3 (gi f v2.toNat)))))
theorem yce{S O:Nat→Prop}{w:World}{f v gc}{R:Int→Prop}(h:yaW f v R)(hS:Sep w S O w (rl [Res.own cI 105 (some ⟨gc,0,none⟩) 12 12 f])) :
    Calls Tryz.prog 122 #[(.pointer (some ⟨gc,0,none⟩)),(ii v)] w fun e w'=>∃ r,e = .returned (ii r)∧Sep w S O w' (rl [Res.own cI 105 (some ⟨gc,0,none⟩) 12 12 f])∧R r:=by
  unfold yaW at h;refine yal (l:=[(.pointer (some ⟨gc,0,none⟩)),(ii v)]) func122 rfl ntmps122 zY (zs (zQ (ii 0) (yaa (yac (yad ?_)))));obtain ⟨I2,⟨m0,h0⟩,hr⟩:=h;refine yax (fun m E ds w'=>∃ v2,I2 m v2∧ds=[]∧E 0=(Value.pointer (some ⟨gc,0,none⟩))∧E 1=(ii v2)∧Sep w S O w' (rl [Res.own cI 105 (some ⟨gc,0,none⟩) 12 12 f])) m0 ⟨_,h0,rfl,rfl,rfl,(hS.sel [0])⟩ ?_;clear h0 hS;rintro m2 E ds w2 ⟨v2,h,rfl,H0,H1,hS⟩ ag;replace h:=hr m2 v2 h;clear hr;refine yac (zs (zq (yab (v:=(.pointer (some ⟨gc,0,none⟩))) H0) (zq (yab H1) (zq (v_nil rfl) ?_))));obtain ⟨hx,h⟩:=h;have hy:=yhj (hS.rdo 0 rfl) hx;refine zq (yew rfl rfl underlying105 yag hx) (zq (yar (v:=(ii (gi f v2.toNat))) rfl underlying3 rfl (rd_1 (hS.rdo 0 rfl) hy (fun q=>yaF q) rfl)) ?_);refine zq (yab H1) (zq zN (yaa ?_));by_cases hp:(gi f v2.toNat)=v2
  · replace h:=h.1 hp;exact ze hp (yas rfl (zs (zq (yab H1) (zQ (ii v2) (yaa (yah rfl rfl ⟨_,rfl,(hS.sel [0]),h⟩))))))
  · replace h:=h.2 hp;refine zf hp (yaf (yad (zr (zq (yab (v:=(.pointer (some ⟨gc,0,none⟩))) H0) (zq (yab H1) (zq (v_nil rfl) ?_))))));have hy2:=yhj (hS.rdo 0 rfl) hx;refine zq (yew rfl rfl underlying105 yag hx) (zq (yar (v:=(ii (gi f v2.toNat))) rfl underlying3 rfl (rd_1 (hS.rdo 0 rfl) hy2 (fun q=>yaF q) rfl)) ?_);refine zQ (ii (gi f v2.toNat)) (yaa (yae ?_));obtain ⟨mq,hlt,h⟩:=h;exact ag mq _ _ _ ⟨_,h,rfl,H0,rfl,(hS.sel [0])⟩ hlt
def ya3(f:List Int)(a:Int)(b:Int)(R:(List Int)→Prop):Prop :=
yaW f a (fun r =>
yaW f b (fun r2 =>
((0≤(mxF r r2)∧(mxF r r2)<12) ∧
R (f.set (mxF r r2).toNat (mnF r r2)))))
theorem ydf{S O:Nat→Prop}{w:World}{f a b gc}{R:(List Int)→Prop}(h:ya3 f a b R)(hS:Sep w S O w (rl [Res.own cI 105 (some ⟨gc,0,none⟩) 12 12 f])) :
    Calls Tryz.prog 121 #[(.pointer (some ⟨gc,0,none⟩)),(ii a),(ii b)] w fun e w'=>∃ z,e = .returned (.tuple #[])∧Sep w S O w' (rl [Res.own cI 105 (some ⟨gc,0,none⟩) 12 12 z])∧R z:=by
  unfold ya3 at h;refine yal (l:=[(.pointer (some ⟨gc,0,none⟩)),(ii a),(ii b)]) func121 rfl ntmps121 zY (zs (zM (.pointer (some ⟨gc,0,none⟩)) (zM (ii a) ?_)));have hB:=hS.lend (asc [(0,0)]) [0] (by decide) ⟨.inl (ya5 rfl),trivial⟩;refine zn (ydt (vs:=#[(.pointer (some ⟨gc,0,none⟩)),(ii a)]) (us:=#[]) rfl (am2 rfl rfl) yiz ((ya4 (by simp) (yce h hB)).mono ?_));rintro _ w2 ⟨r,rfl,hC,h⟩;replace hS:=hS.back (asc [(0,0)]) (ydl (by decide)) hC;clear hC hB;refine ⟨_,rfl,?_⟩;refine zb (zM (.pointer (some ⟨gc,0,none⟩)) (zM (ii b) ?_));have hB:=hS.lend (asc [(0,0)]) [0] (by decide) ⟨.inl (ya5 rfl),trivial⟩;refine zn (ydt (vs:=#[(.pointer (some ⟨gc,0,none⟩)),(ii b)]) (us:=#[]) rfl (am2 rfl rfl) yiz ((ya4 (by simp) (yce h hB)).mono ?_));rintro _ w3 ⟨r2,rfl,hC,h⟩;replace hS:=hS.back (asc [(0,0)]) (ydl (by decide)) hC;clear hC hB;refine ⟨_,rfl,?_⟩;refine zb (zQ (ii r) (zQ (ii r2) (yaa (zr (zM (.pointer (some ⟨gc,0,none⟩)) (zM (ii r) (zM (ii r2) (zq (v_max2 rfl rfl) (zM (ii r) (zM (ii r2) (zq (v_min2 rfl rfl) (zq (v_nil rfl) ?_))))))))))));obtain ⟨hx,h⟩:=h;have hy:=yhj (hS.rdo 0 rfl) hx;refine zq (yew rfl rfl underlying105 yag hx) (zo (zt (ii (mnF r r2)) yag (hS.wr 0 rfl rfl hy) ?_));intro w4 e1;replace hS:=hS.st 0 rfl rfl hy (x:=mnF r r2) rfl e1;clear e1;exact zb (yaa (yiv rfl ⟨_,rfl,(hS.sel [0]),h⟩))
def yb1(g:Int)(g2:List E3)(R:(List Int)→Prop):Prop :=
ybM (fun r =>
(r.length=12 ∧
(∃ I2:Nat→Int→(List Int)→Prop,(∃ m0,I2 m0 0 r)∧∀ m2 v f,I2 m2 v f → 
((v<(g2.length:Int) →
((0≤v∧v<(g2.length:Int)) ∧
ya3 f ((ge g2 v.toNat).1) ((ge g2 v.toNat).2.1) (fun y =>
(In64 (v+1) ∧
∃ m3,m3<m2∧I2 m3 (v+1) y)))) ∧
(¬(v<(g2.length:Int)) →
(f.length=12 ∧
R f))))))
theorem yg1{O:Nat→Prop}{w:World}{g g2 Ag lg cg}{R:(List Int)→Prop}(h:yb1 g g2 R)(hO:∀ k,O k→k<w.heap.size)(hA0:(FP.sl c3 Ag lg cg g2).P O w) :
    Calls Tryz.prog 89 #[(.agg #[(ii g),(.slice Ag lg cg)])] w fun e w'=>∃ r2,e = .returned (kE r2)∧Sep w no O w' (rl [])∧R r2:=by
  unfold yb1 at h;have hS:Sep w no O w (rl [Res.ro (FP.sl c3 Ag lg cg g2)]):=Sep.startl hO [(FP.sl c3 Ag lg cg g2)] ⟨hA0,trivial⟩;refine yal (l:=[(.agg #[(ii g),(.slice Ag lg cg)])]) func89 rfl ntmps89 zY (zs (zn (ybm (v:=(.agg #[(ii g),(.slice Ag lg cg)])) rfl ?_)));intro g3 w2 hN;replace hS:Sep w no O w2 (stl _ 1 (Res.box 24 g3 [(ii g),(.slice Ag lg cg)])):=hS.new 1 rfl hN;clear hN;refine zb (zn (yaS ycf ?_));intro g4 w3 hN;replace hS:=hS.made (n:=12) 2 rfl cI (ii 0) (0:Int) (fun _ _=>rfl) (hN:New _ _ _ (Array.replicate 12 (ii 0)) 105) (by decide);clear hN;refine zb (yaa (zs (zn (yai rfl (am0) enter_120 ((ye1 h (yaz _)).mono ?_)))));rintro _ w4 ⟨r,rfl,hC,h⟩;replace hS:=hS.pur hC.pure;clear hC;refine ⟨_,rfl,?_⟩;refine zb (zn (yaS ycf ?_));intro g5 w5 hN;replace hS:=hS.made (n:=12) 3 rfl cI (ii 0) (0:Int) (fun _ _=>rfl) (hN:New _ _ _ (Array.replicate 12 (ii 0)) 105) (by decide);clear hN;refine zb ?_;obtain ⟨hx,h⟩:=h;refine zo (yiE rfl rfl ycf hS 3 rfl hx ?_);clear hS;intro w6 hS;refine zb (yaa (yac (zs (zq (yam rfl underlying24 rfl ybZ) (zq (zl underlying22 (Row.cell (hS.bx 1 rfl) (i:=1) rfl)) (zq (yaG (n:=g2.length) rfl underlying22 (yaD (hS.rdr 0 rfl))) (zM (ii 0) (yaa (yad ?_)))))))));obtain ⟨I2,⟨m0,h0⟩,hr⟩:=h;refine yax (fun m E ds w'=>∃ v f,I2 m v f∧ds=[]∧E 2=(Value.pointer (some ⟨g4,0,none⟩))∧E 3=(Value.pointer (some ⟨g5,0,none⟩))∧E 8=(Value.slice Ag lg cg)∧E 9=(ii (g2.length:Int))∧E 10=(ii v)∧Sep w no O w' (rl [Res.own cI 105 (some ⟨g4,0,none⟩) 12 12 (List.replicate 12 (0:Int)),Res.own cI 105 (some ⟨g5,0,none⟩) 12 12 f,Res.ro (FP.sl c3 Ag lg cg g2)])) m0 ⟨_,_,h0,rfl,rfl,rfl,rfl,rfl,rfl,(hS.sel [2,3,0])⟩ ?_;clear h0 hS;rintro m2 E ds w7 ⟨v,f,h,rfl,H2,H3,H8,H9,H10,hS⟩ ag;replace h:=hr m2 v f h;clear hr;refine zs (zq (ydm H10 H9) (yaa (yac ?_)));by_cases hp:v<(g2.length:Int)
  · replace h:=h.1 hp;refine zc hp (yaf (yac (yad (zs ?_))));obtain ⟨hx2,h⟩:=h;refine zq (ydA H8 H10 underlying22 yaT (yaB (hS.rdr 2 rfl) hx2)) (zq (yao (vs:=[(ii ((ge g2 v.toNat).1)),(ii ((ge g2 v.toNat).2.1)),(ii ((ge g2 v.toNat).2.2))]) rfl underlying93 rfl yaT (yhX (hS.rdr 2 rfl) hx2 (fun q=>ydz q))) ?_);refine zn (yaS yaT ?_);intro g6 w8 hN;replace hS:Sep w no O w8 (stl _ 3 (Res.box 93 g6 [(ii 0),(ii 0),(ii 0)])):=hS.new 3 rfl hN;clear hN;refine zb (zo (yaQ (b:=g6) (o:=0) (cells:=#[(ii ((ge g2 v.toNat).1)),(ii ((ge g2 v.toNat).2.1)),(ii ((ge g2 v.toNat).2.2))]) rfl rfl yaT rfl rfl (yaL (hS.bx 3 rfl) zY) ?_));intro w9 e1;replace hS:=hS.bstn 3 rfl 0 [(ii ((ge g2 v.toNat).1)),(ii ((ge g2 v.toNat).2.1)),(ii ((ge g2 v.toNat).2.2))] e1;clear e1;refine zb (yaa (zr (zq (yam rfl underlying93 rfl yag) (zq (zl underlying3 (Row.cell (hS.bx 3 rfl) (i:=0) rfl)) (zq (yam rfl underlying93 rfl yag) (zq (zl underlying3 (Row.cell (hS.bx 3 rfl) (i:=1) rfl)) ?_))))));have hB:=hS.lend (asc [(1,0)]) [1] (by decide) ⟨.inl (ya5 rfl),trivial⟩;refine zn (ydt (vs:=#[(.pointer (some ⟨g5,0,none⟩)),(ii ((ge g2 v.toNat).1)),(ii ((ge g2 v.toNat).2.1))]) (us:=#[]) rfl (am3 H3 rfl rfl) enter_121 ((ya4 (by simp) (ydf h hB)).mono ?_));rintro _ w10 ⟨y,rfl,hC,h⟩;replace hS:=hS.back (asc [(1,0)]) (ydl (by decide)) hC;clear hC hB;refine ⟨_,rfl,?_⟩;refine zb (yaa (yae (zr ?_)));obtain ⟨hi,h⟩:=h;refine zq (yb3 H10 rfl hi) (zM (ii (v+1)) (yaa ?_));obtain ⟨mq,hlt,h⟩:=h;exact ag mq _ _ _ ⟨_,_,h,rfl,H2,H3,H8,H9,rfl,(hS.sel [0,1,2])⟩ hlt
  · replace h:=h.2 hp;refine zd hp (yas rfl (zs (zq (yao (vs:=f.map (Value.int .i64)) H3 underlying105 rfl (arr_info ycf (hS.rdo 1 rfl)) (yh1 (hS.rdo 1 rfl))) ?_)));obtain ⟨hx3,h⟩:=h;refine zo (yiE H2 rfl ycf hS 0 rfl hx3 ?_);clear hS;intro w11 hS;exact zb (yaa (ygc rfl (rv_a H2 underlying105 rfl ycf hS 0 rfl) ⟨_,rfl,(hS.sel []),h⟩))
def ybL(g:Int)(g2:List E3)(in2:List Bool)(R:Bool→Prop):Prop :=
ybM (fun r =>
(r.length=12 ∧
(∃ I2:Nat→Int→(List Int)→Prop,(∃ m0,I2 m0 0 r)∧∀ m2 v f,I2 m2 v f → 
((v<(g2.length:Int) →
((0≤v∧v<(g2.length:Int)) ∧
((0≤((ge g2 v.toNat).1)∧((ge g2 v.toNat).1)<(in2.length:Int)) ∧
((gb in2 ((ge g2 v.toNat).1).toNat=true →
((0≤((ge g2 v.toNat).2.1)∧((ge g2 v.toNat).2.1)<(in2.length:Int)) ∧
((gb in2 ((ge g2 v.toNat).2.1).toNat=true →
ya3 f ((ge g2 v.toNat).1) ((ge g2 v.toNat).2.1) (fun y =>
(In64 (v+1) ∧
∃ m3,m3<m2∧I2 m3 (v+1) y))) ∧
(¬(gb in2 ((ge g2 v.toNat).2.1).toNat=true) →
(In64 (v+1) ∧
∃ m4,m4<m2∧I2 m4 (v+1) f))))) ∧
(¬(gb in2 ((ge g2 v.toNat).1).toNat=true) →
(In64 (v+1) ∧
∃ m5,m5<m2∧I2 m5 (v+1) f)))))) ∧
(¬(v<(g2.length:Int)) →
(∃ I3:Nat→Int→(List (List Int×Bool))→Prop,(∃ m0,I3 m0 0 ([]:List (List Int×Bool)))∧∀ m6 v2 roots,I3 m6 v2 roots → 
((v2<g →
((0≤v2∧v2<(in2.length:Int)) ∧
((gb in2 v2.toNat=true →
yaW f v2 (fun r2 =>
(KOk 1 roots ∧
KeyOk 1 ([r2]) ∧
(In64 (v2+1) ∧
∃ m7,m7<m6∧I3 m7 (v2+1) (mput roots ([r2]) true))))) ∧
(¬(gb in2 v2.toNat=true) →
(In64 (v2+1) ∧
∃ m8,m8<m6∧I3 m8 (v2+1) roots))))) ∧
(¬(v2<g) →
R (decide ((roots.length:Int)=1))))))))))
theorem ye3{O:Nat→Prop}{w:World}{g g2 in2 Ag lg cg Aa Ab Ac}{R:Bool→Prop}(h:ybL g g2 in2 R)(hO:∀ k,O k→k<w.heap.size)(hA0:(FP.sl c3 Ag lg cg g2).P O w)(hA1:(FP.sl cB Aa Ab Ac in2).P O w) :
    Calls Tryz.prog 91 #[(.agg #[(ii g),(.slice Ag lg cg)]),(.slice Aa Ab Ac)] w fun e w'=>∃ r3,e = .returned (.bool (r3))∧Sep w no O w' (rl [])∧R r3:=by
  unfold ybL at h;have hS:Sep w no O w (rl [Res.ro (FP.sl c3 Ag lg cg g2),Res.ro (FP.sl cB Aa Ab Ac in2)]):=Sep.startl hO [(FP.sl c3 Ag lg cg g2),(FP.sl cB Aa Ab Ac in2)] ⟨hA0,hA1,trivial⟩;refine yal (l:=[(.agg #[(ii g),(.slice Ag lg cg)]),(.slice Aa Ab Ac)]) func91 rfl ntmps91 zY (zs (zn (ybm (v:=(.agg #[(ii g),(.slice Ag lg cg)])) rfl ?_)));intro g3 w2 hN;replace hS:Sep w no O w2 (stl _ 2 (Res.box 24 g3 [(ii g),(.slice Ag lg cg)])):=hS.new 2 rfl hN;clear hN;refine zb (zQ (.bool (false)) (yaa (zs (zn (yai rfl (am0) enter_120 ((ye1 h (yaz _)).mono ?_))))));rintro _ w3 ⟨r,rfl,hC,h⟩;replace hS:=hS.pur hC.pure;clear hC;refine ⟨_,rfl,?_⟩;refine zb (zn (yaS ycf ?_));intro g4 w4 hN;replace hS:=hS.made (n:=12) 3 rfl cI (ii 0) (0:Int) (fun _ _=>rfl) (hN:New _ _ _ (Array.replicate 12 (ii 0)) 105) (by decide);clear hN;refine zb ?_;obtain ⟨hx,h⟩:=h;refine zo (yiE rfl rfl ycf hS 3 rfl hx ?_);clear hS;intro w5 hS;refine zb (yaa (yac (zs (zq (yam rfl underlying24 rfl ybZ) (zq (zl underlying22 (Row.cell (hS.bx 2 rfl) (i:=1) rfl)) (zq (yaG (n:=g2.length) rfl underlying22 (yaD (hS.rdr 0 rfl))) (zM (ii 0) (yaa (yad ?_)))))))));obtain ⟨I2,⟨m0,h0⟩,hr⟩:=h;refine yax (fun m E ds w'=>∃ v f,I2 m v f∧ds=[]∧E 1=(Value.slice Aa Ab Ac)∧E 2=(Value.pointer (some ⟨g3,0,none⟩))∧E 5=(Value.pointer (some ⟨g4,0,none⟩))∧E 12=(Value.slice Ag lg cg)∧E 13=(ii (g2.length:Int))∧E 14=(ii v)∧Sep w no O w' (rl [Res.ro (FP.sl cB Aa Ab Ac in2),Res.box 24 g3 [(ii g),(.slice Ag lg cg)],Res.ro (FP.sl c3 Ag lg cg g2),Res.own cI 105 (some ⟨g4,0,none⟩) 12 12 f])) m0 ⟨_,_,h0,rfl,rfl,rfl,rfl,rfl,rfl,rfl,(hS.sel [1,2,0,3])⟩ ?_;clear h0 hS;rintro m2 E ds w6 ⟨v,f,h,rfl,H1,H2,H5,H12,H13,H14,hS⟩ ag;replace h:=hr m2 v f h;clear hr;refine zs (zq (ydm H14 H13) (yaa (yac ?_)));by_cases hp:v<(g2.length:Int)
  · replace h:=h.1 hp;refine zc hp (yaf (yac (yad (zs ?_))));obtain ⟨hx2,h⟩:=h;refine zq (ydA H12 H14 underlying22 yaT (yaB (hS.rdr 2 rfl) hx2)) (zq (yao (vs:=[(ii ((ge g2 v.toNat).1)),(ii ((ge g2 v.toNat).2.1)),(ii ((ge g2 v.toNat).2.2))]) rfl underlying93 rfl yaT (yhX (hS.rdr 2 rfl) hx2 (fun q=>ydz q))) ?_);refine zn (yaS yaT ?_);intro g5 w7 hN;replace hS:Sep w no O w7 (stl _ 4 (Res.box 93 g5 [(ii 0),(ii 0),(ii 0)])):=hS.new 4 rfl hN;clear hN;refine zb (zo (yaQ (b:=g5) (o:=0) (cells:=#[(ii ((ge g2 v.toNat).1)),(ii ((ge g2 v.toNat).2.1)),(ii ((ge g2 v.toNat).2.2))]) rfl rfl yaT rfl rfl (yaL (hS.bx 4 rfl) zY) ?_));intro w8 e1;replace hS:=hS.bstn 4 rfl 0 [(ii ((ge g2 v.toNat).1)),(ii ((ge g2 v.toNat).2.1)),(ii ((ge g2 v.toNat).2.2))] e1;clear e1;refine zb (yaa (zs (zq (yab H1) (zq (yam rfl underlying93 rfl yag) (zq (zl underlying3 (Row.cell (hS.bx 4 rfl) (i:=0) rfl)) ?_)))));obtain ⟨hx3,h⟩:=h;refine zq (zi underlying94 ybb (yaB (hS.rdr 0 rfl) hx3)) (zq (yar (v:=(.bool (gb in2 ((ge g2 v.toNat).1).toNat))) rfl underlying4 rfl (rd_1 (hS.rdr 0 rfl) hx3 (fun q=>yfd q) rfl)) ?_);refine zM (.bool (gb in2 ((ge g2 v.toNat).1).toNat)) ?_;by_cases hp2:gb in2 ((ge g2 v.toNat).1).toNat=true
    · replace h:=h.1 hp2;refine zW rfl rfl (zC hp2) (yab H1) (zW rfl rfl (zC hp2) (yam rfl underlying93 rfl yag) (zW rfl rfl (zC hp2) (zl underlying3 (Row.cell (hS.bx 4 rfl) (i:=1) rfl)) ?_));obtain ⟨hx4,h⟩:=h;refine zW rfl rfl (zC hp2) (zi underlying94 ybb (yaB (hS.rdr 0 rfl) hx4)) (zW rfl rfl (zC hp2) (yar (v:=(.bool (gb in2 ((ge g2 v.toNat).2.1).toNat))) rfl underlying4 rfl (rd_1 (hS.rdr 0 rfl) hx4 (fun q=>yfd q) rfl)) ?_);refine zq (yan (v:=(.bool (gb in2 ((ge g2 v.toNat).2.1).toNat))) (zC hp2) rfl) (yaa ?_);by_cases hp3:gb in2 ((ge g2 v.toNat).2.1).toNat=true
      · replace h:=h.1 hp3;refine yaq (zC hp3) (zr (zq (yam rfl underlying93 rfl yag) (zq (zl underlying3 (Row.cell (hS.bx 4 rfl) (i:=0) rfl)) (zq (yam rfl underlying93 rfl yag) (zq (zl underlying3 (Row.cell (hS.bx 4 rfl) (i:=1) rfl)) ?_)))));have hB:=hS.lend (asc [(3,0)]) [3] (by decide) ⟨.inl (ya5 rfl),trivial⟩;refine zn (ydt (vs:=#[(.pointer (some ⟨g4,0,none⟩)),(ii ((ge g2 v.toNat).1)),(ii ((ge g2 v.toNat).2.1))]) (us:=#[]) rfl (am3 H5 rfl rfl) enter_121 ((ya4 (by simp) (ydf h hB)).mono ?_));rintro _ w9 ⟨y,rfl,hC,h⟩;replace hS:=hS.back (asc [(3,0)]) (ydl (by decide)) hC;clear hC hB;refine ⟨_,rfl,?_⟩;refine zb (yaa (yae (zr ?_)));obtain ⟨hi,h⟩:=h;refine zq (yb3 H14 rfl hi) (zM (ii (v+1)) (yaa ?_));obtain ⟨mq,hlt,h⟩:=h;exact ag mq _ _ _ ⟨_,_,h,rfl,H1,H2,H5,H12,H13,rfl,(hS.sel [0,1,2,3])⟩ hlt
      · replace h:=h.2 hp3;refine yav (zC (zI hp3)) (yaf (yae (zr ?_)));obtain ⟨hi2,h⟩:=h;refine zq (yb3 H14 rfl hi2) (zM (ii (v+1)) (yaa ?_));obtain ⟨mq,hlt,h⟩:=h;exact ag mq _ _ _ ⟨_,_,h,rfl,H1,H2,H5,H12,H13,rfl,(hS.sel [0,1,2,3])⟩ hlt
    · replace h:=h.2 hp2;refine zV rfl rfl (zC (zI hp2)) (zV rfl rfl (zC (zI hp2)) (zV rfl rfl (zC (zI hp2)) (zV rfl rfl (zC (zI hp2)) (zV rfl rfl (zC (zI hp2)) (zq (yaj (v:=(.bool (false))) (zC (zI hp2)) rfl) (yaa (yav rfl (yaf (yae (zr ?_))))))))));obtain ⟨hi3,h⟩:=h;refine zq (yb3 H14 rfl hi3) (zM (ii (v+1)) (yaa ?_));obtain ⟨mq,hlt,h⟩:=h;exact ag mq _ _ _ ⟨_,_,h,rfl,H1,H2,H5,H12,H13,rfl,(hS.sel [0,1,2,3])⟩ hlt
  · replace h:=h.2 hp;refine zd hp (yas rfl (zs (zn (n_mkmapI (vE:=Value.bool) rfl ?_))));intro g6 w10 e1 e2;replace hS:Sep w no O w10 (stl _ 4 (Res.obj g6 (mapOI Value.bool ([]:List (List Int×Bool))))):=hS.newm 4 rfl e1 e2;clear e1 e2;refine zb (zQ (Value.map (some g6)) (yaa (yac (zs (zq (yam H2 underlying24 rfl yag) (zq (zl underlying3 (Row.cell (hS.bx 1 rfl) (i:=0) rfl)) (zM (ii 0) (yaa (yad ?_)))))))));obtain ⟨I3,⟨m0,h0⟩,hr⟩:=h;refine yax (fun m E ds w'=>∃ v2 roots,I3 m v2 roots∧ds=[]∧E 1=(Value.slice Aa Ab Ac)∧E 5=(Value.pointer (some ⟨g4,0,none⟩))∧E 8=(Value.map (some g6))∧E 38=(ii g)∧E 39=(ii v2)∧Sep w no O w' (rl [Res.ro (FP.sl cB Aa Ab Ac in2),Res.own cI 105 (some ⟨g4,0,none⟩) 12 12 f,Res.obj g6 (mapOI Value.bool roots)])) m0 ⟨_,_,h0,rfl,H1,H5,rfl,rfl,rfl,(hS.sel [0,3,4])⟩ ?_;clear h0 hS;rintro m6 E ds w11 ⟨v2,roots,h,rfl,H1,H5,H8,H38,H39,hS⟩ again2;replace h:=hr m6 v2 roots h;clear hr;refine zs (zq (ydm H39 H38) (yaa (yac ?_)));by_cases hp4:v2<g
    · replace h:=h.1 hp4;refine zc hp4 (yaf (yac (yad (zs (zq (yab H39) (zQ (ii v2) (yaa (zs (zq (yab H1) (zM (ii v2) ?_))))))))));obtain ⟨hx5,h⟩:=h;refine zq (zi underlying94 ybb (yaB (hS.rdr 0 rfl) hx5)) (zq (yar (v:=(.bool (gb in2 v2.toNat))) rfl underlying4 rfl (rd_1 (hS.rdr 0 rfl) hx5 (fun q=>yfd q) rfl)) ?_);refine yaa ?_;by_cases hp5:gb in2 v2.toNat=true
      · replace h:=h.1 hp5;refine yaq (zC hp5) (zr (zq (yab H8) (zM (ii v2) ?_)));have hB:=hS.lend (asc [(1,0)]) [1] (by decide) ⟨.inl (ya5 rfl),trivial⟩;refine zn (ydt (vs:=#[(.pointer (some ⟨g4,0,none⟩)),(ii v2)]) (us:=#[]) rfl (am2 H5 rfl) yiz ((ya4 (by simp) (yce h hB)).mono ?_));rintro _ w12 ⟨r2,rfl,hC,h⟩;replace hS:=hS.back (asc [(1,0)]) (ydl (by decide)) hC;clear hC hB;refine ⟨_,rfl,?_⟩;refine zb ?_;obtain ⟨hx6,h⟩:=h;obtain ⟨hx7,h⟩:=h;refine zo (n_mputI (vE:=Value.bool) (keyt_3) hx6 hx7 (v:=true) rfl rfl rfl underlying140 (hS.mp 2 rfl) ?_);intro w13 e1 e2;replace hS:=hS.mst 2 rfl e1 e2;clear e1 e2;refine zb (yaa (yae (zr ?_)));obtain ⟨hi4,h⟩:=h;refine zq (yb3 H39 rfl hi4) (zM (ii (v2+1)) (yaa ?_));obtain ⟨mq,hlt,h⟩:=h;exact again2 mq _ _ _ ⟨_,_,h,rfl,H1,H5,H8,H38,rfl,(hS.sel [0,1,2])⟩ hlt
      · replace h:=h.2 hp5;refine yav (zC (zI hp5)) (yaf (yae (zr ?_)));obtain ⟨hi5,h⟩:=h;refine zq (yb3 H39 rfl hi5) (zM (ii (v2+1)) (yaa ?_));obtain ⟨mq,hlt,h⟩:=h;exact again2 mq _ _ _ ⟨_,_,h,rfl,H1,H5,H8,H38,rfl,(hS.sel [0,1,2])⟩ hlt
    · replace h:=h.2 hp4;exact zd hp4 (yas rfl (zs (zq (yab H8) (zq (v_mlenI rfl underlying140 (hS.mp 2 rfl)) (zq zE (zQ (.bool (decide ((roots.length:Int)=1))) (yaa (yah rfl rfl ⟨_,rfl,(hS.sel []),h⟩))))))))
def ycy(d:Int)(d2:List E3)(i:List Int)(R:Bool→Int→Prop):Prop :=
ybF d d2 (fun r =>
((r=0 →
yb0 d d2 i (fun r2 =>
((r2=0 →
(∃ J2:(List Bool)→(List Bool)→Prop,(∀ (v:List Bool) (v2:List Bool),J2 v v2→(∃ I2:Nat→Int→(List Bool)→(List Bool)→Prop,(∃ m0,I2 m0 0 v v2)∧∀ m2 v3 v4 v5,I2 m2 v3 v4 v5 → 
((v3<d →
ybf i v3 (fun r3 =>
((0≤v3∧v3<(v4.length:Int)) ∧
((0≤v3∧v3<((v4.set v3.toNat r3).length:Int)) ∧
((0≤v3∧v3<(v5.length:Int)) ∧
(In64 (v3+1) ∧
∃ m3,m3<m2∧I2 m3 (v3+1) (v4.set v3.toNat r3) (v5.set v3.toNat (!(gb (v4.set v3.toNat r3) v3.toNat))))))))) ∧
(¬(v3<d) →
yb1 d d2 (fun r4 =>
(r4.length=12 ∧
ydo r4 d (fun r5 =>
(((r5.length:Int)=1 →
ybL d d2 v4 (fun r6 =>
((r6=true →
ybL d d2 v5 (fun r7 =>
R r7 0)) ∧
(¬(r6=true) →
R false 0)))) ∧
(¬((r5.length:Int)=1) →
R false 0))))))))) ∧
((((0≤d∧d≤1000000) ∧
J2 (List.replicate d.toNat false) (List.replicate d.toNat false))) ∧
(((0≤d∧d≤1000000) ∧
J2 (List.replicate d.toNat false) (List.replicate d.toNat false)))))) ∧
(¬(r2=0) →
R false r2)))) ∧
(¬(r=0) →
R false r)))
theorem yhw{O:Nat→Prop}{w:World}{d d2 i Ad ld cd Ai li ci}{R:Bool→Int→Prop}(h:ycy d d2 i R)(hO:∀ k,O k→k<w.heap.size)(hA0:(FP.sl c3 Ad ld cd d2).P O w)(hA1:(FP.sl cI Ai li ci i).P O w) :
    Calls Tryz.prog 44 #[(.agg #[(ii d),(.slice Ad ld cd)]),(.slice Ai li ci)] w fun e w'=>∃ r8 r9,e = .returned (.tuple #[(.bool (r8)),(ii r9)])∧Sep w no O w' (rl [])∧R r8 r9:=by
  unfold ycy at h;have hS:Sep w no O w (rl [Res.ro (FP.sl c3 Ad ld cd d2),Res.ro (FP.sl cI Ai li ci i)]):=Sep.startl hO [(FP.sl c3 Ad ld cd d2),(FP.sl cI Ai li ci i)] ⟨hA0,hA1,trivial⟩;refine yal (l:=[(.agg #[(ii d),(.slice Ad ld cd)]),(.slice Ai li ci)]) func44 rfl ntmps44 zY (zs (zn (ybm (v:=(.agg #[(ii d),(.slice Ad ld cd)])) rfl ?_)));intro g w2 hN;replace hS:Sep w no O w2 (stl _ 2 (Res.box 24 g [(ii d),(.slice Ad ld cd)])):=hS.new 2 rfl hN;clear hN;refine zb (zQ (.bool (false)) (zQ (ii 0) (yaa (yac (zs (zq (yao (vs:=[(ii d),(.slice Ad ld cd)]) rfl underlying24 rfl yak ⟨Row.cell (hS.bx 2 rfl) (i:=0) rfl,Row.cell (hS.bx 2 rfl) (i:=1) rfl,trivial⟩) (zn (yai rfl (am1 rfl) yhE ((ydq h (yaz _) (hS.rdr 0 rfl)).mono ?_)))))))));rintro _ w3 ⟨r,rfl,hC,h⟩;replace hS:=hS.pur hC.pure;clear hC;refine ⟨_,rfl,?_⟩;refine zb (zQ (ii r) (yaa (zs (zM (ii r) (zq zN (yaa ?_))))));by_cases hp:r=0
  · replace h:=h.1 hp;refine ze hp (yaf (yac (zs (zq (yao (vs:=[(ii d),(.slice Ad ld cd)]) rfl underlying24 rfl yak ⟨Row.cell (hS.bx 2 rfl) (i:=0) rfl,Row.cell (hS.bx 2 rfl) (i:=1) rfl,trivial⟩) (zM (.slice Ai li ci) (zn (yai rfl (am2 rfl rfl) enter_87 ((yhv h (yaz _) (hS.rdr 0 rfl) (hS.rdr 1 rfl)).mono ?_))))))));rintro _ w4 ⟨r2,rfl,hC,h⟩;replace hS:=hS.pur hC.pure;clear hC;refine ⟨_,rfl,?_⟩;refine zb (zQ (ii r2) (yaa (zs (zM (ii r2) (zq zN (yaa ?_))))));by_cases hp2:r2=0
    · replace h:=h.1 hp2;refine ze hp2 (yaf (yac ?_));obtain ⟨J2,hJ,h⟩:=h;refine wt_cutD (fun E ds w'=>∃ v v2 Av lv cv Av2 lv2 cv2,J2 v v2∧ds=[]∧E 1=(Value.slice Ai li ci)∧E 2=(Value.pointer (some ⟨g,0,none⟩))∧E 8=(Value.slice Av lv cv)∧E 9=(Value.slice Av2 lv2 cv2)∧Sep w no O w' (rl [Res.own cB 4 Av lv cv v,Res.own cB 4 Av2 lv2 cv2 v2,Res.ro (FP.sl cI Ai li ci i),Res.box 24 g [(ii d),(.slice Ad ld cd)],Res.ro (FP.sl c3 Ad ld cd d2)])) ?_ ?_
      · clear h hS;rintro E ds w5 ⟨v,v2,Av,lv,cv,Av2,lv2,cv2,h,rfl,H1,H2,H8,H9,hS⟩;replace h:=hJ v v2 h;refine yac (zs (zq (yam H2 underlying24 rfl yag) (zq (zl underlying3 (Row.cell (hS.bx 3 rfl) (i:=0) rfl)) (zM (ii 0) (yaa (yad ?_))))));obtain ⟨I2,⟨m0,h0⟩,hr⟩:=h;refine yax (fun m E ds w'=>∃ v3 v4 v5,I2 m v3 v4 v5∧ds=[]∧E 1=(Value.slice Ai li ci)∧E 2=(Value.pointer (some ⟨g,0,none⟩))∧E 8=(Value.slice Av lv cv)∧E 9=(Value.slice Av2 lv2 cv2)∧E 30=(ii d)∧E 31=(ii v3)∧Sep w no O w' (rl [Res.ro (FP.sl cI Ai li ci i),Res.box 24 g [(ii d),(.slice Ad ld cd)],Res.ro (FP.sl c3 Ad ld cd d2),Res.own cB 4 Av lv cv v4,Res.own cB 4 Av2 lv2 cv2 v5])) m0 ⟨_,_,_,h0,rfl,H1,H2,H8,H9,rfl,rfl,(hS.sel [2,3,4,0,1])⟩ ?_;clear h0 hS;rintro m2 E ds w6 ⟨v3,v4,v5,h,rfl,H1,H2,H8,H9,H30,H31,hS⟩ ag;replace h:=hr m2 v3 v4 v5 h;clear hr;refine zs (zq (ydm H31 H30) (yaa (yac ?_)));by_cases hp3:v3<d
        · replace h:=h.1 hp3;refine zc hp3 (yaf (yac (yad (zs (zq (yab H31) (zQ (ii v3) (yaa (zs (zq (yab H8) (zM (ii v3) (zq (yab H1) (zM (ii v3) (zn (yai rfl (am2 rfl rfl) enter_88 ((ye4 h (yaz _) (hS.rdr 0 rfl)).mono ?_)))))))))))))));rintro _ w7 ⟨r3,rfl,hC,h⟩;replace hS:=hS.pur hC.pure;clear hC;refine ⟨_,rfl,?_⟩;refine zb ?_;obtain ⟨hx,h⟩:=h;refine zq (zi underlying94 ybb (yaB (hS.rdo 3 rfl) hx)) (zo (zt (.bool (r3)) ybb (hS.wr 3 rfl rfl hx) ?_));intro w8 e1;replace hS:=hS.st 3 rfl rfl hx (x:=r3) rfl e1;clear e1;refine zb (yaa (zr (zq (yab H9) (zM (ii v3) (zq (yab H8) (zM (ii v3) ?_))))));obtain ⟨hx2,h⟩:=h;refine zq (zi underlying94 ybb (yaB (hS.rdo 3 rfl) hx2)) (zq (yar (v:=(.bool (gb (v4.set v3.toNat r3) v3.toNat))) rfl underlying4 rfl (rd_1 (hS.rdo 3 rfl) hx2 (fun q=>yfd q) rfl)) ?_);refine zq (yds rfl) ?_;obtain ⟨hx3,h⟩:=h;refine zq (zi underlying94 ybb (yaB (hS.rdo 4 rfl) hx3)) (zo (zt (.bool (!(gb (v4.set v3.toNat r3) v3.toNat))) ybb (hS.wr 4 rfl rfl hx3) ?_));intro w9 e1;replace hS:=hS.st 4 rfl rfl hx3 (x:=!(gb (v4.set v3.toNat r3) v3.toNat)) rfl e1;clear e1;refine zb (yaa (yae (zr ?_)));obtain ⟨hi,h⟩:=h;refine zq (yb3 H31 rfl hi) (zM (ii (v3+1)) (yaa ?_));obtain ⟨mq,hlt,h⟩:=h;exact ag mq _ _ _ ⟨_,_,_,h,rfl,H1,H2,H8,H9,H30,rfl,(hS.sel [0,1,2,3,4])⟩ hlt
        · replace h:=h.2 hp3;refine zd hp3 (yas rfl (zs (zq (yao (vs:=[(ii d),(.slice Ad ld cd)]) H2 underlying24 rfl yak ⟨Row.cell (hS.bx 1 rfl) (i:=0) rfl,Row.cell (hS.bx 1 rfl) (i:=1) rfl,trivial⟩) (zn (yai rfl (am1 rfl) enter_89 ((yg1 h (yaz _) (hS.rdr 2 rfl)).mono ?_))))));rintro _ w10 ⟨r4,rfl,hC,h⟩;replace hS:=hS.pur hC.pure;clear hC;refine ⟨_,rfl,?_⟩;refine zb (zn (yaS ycf ?_));intro g2 w11 hN;replace hS:=hS.made (n:=12) 5 rfl cI (ii 0) (0:Int) (fun _ _=>rfl) (hN:New _ _ _ (Array.replicate 12 (ii 0)) 105) (by decide);clear hN;refine zb ?_;obtain ⟨hx4,h⟩:=h;refine zo (yiE rfl rfl ycf hS 5 rfl hx4 ?_);clear hS;intro w12 hS;refine zb (yaa (zs (zq (yam H2 underlying24 rfl yag) (zq (zl underlying3 (Row.cell (hS.bx 1 rfl) (i:=0) rfl)) ?_))));have hB:=hS.lend (asc [(5,0),(6,1)]) [5] (by decide) ⟨.inl (ya5 rfl),trivial⟩;refine zn (ydt (vs:=#[(.pointer (some ⟨g2,0,none⟩)),(ii d)]) (us:=#[]) rfl (am2 rfl rfl) enter_90 ((ya4 (by simp) (yeS h hB)).mono ?_));rintro _ w13 ⟨r5,Ar,lr,cr,rfl,hC,h⟩;replace hS:=hS.back (asc [(5,0),(6,1)]) (ydl (by decide)) hC;clear hC hB;refine ⟨_,rfl,?_⟩;refine zb (zq (yaG (n:=r5.length) rfl underlying27 (yaD (hS.rdr 6 rfl))) (zq zE (zM (.bool (decide ((r5.length:Int)=1))) ?_)));by_cases hp4:(r5.length:Int)=1
          · replace h:=h.1 hp4;refine zW rfl rfl (zT hp4) (yao (vs:=[(ii d),(.slice Ad ld cd)]) H2 underlying24 rfl yak ⟨Row.cell (hS.bx 1 rfl) (i:=0) rfl,Row.cell (hS.bx 1 rfl) (i:=1) rfl,trivial⟩) (zW rfl rfl (zT hp4) (yab H8) (rl_n (yaA rfl (ybc rfl (zT hp4))) rfl rfl rfl (yai rfl (am2 rfl rfl) enter_91 ((ye3 h (yaz _) (hS.rdr 2 rfl) (hS.rdo 3 rfl)).mono ?_))));rintro _ w14 ⟨r6,rfl,hC,h⟩;replace hS:=hS.pur hC.pure;clear hC;refine ⟨_,rfl,?_⟩;refine zb (zq (yan (v:=(.bool (r6))) (zT hp4) rfl) (zM (.bool (r6)) ?_));by_cases hp5:r6=true
            · replace h:=h.1 hp5;refine zW rfl rfl (zC hp5) (yao (vs:=[(ii d),(.slice Ad ld cd)]) H2 underlying24 rfl yak ⟨Row.cell (hS.bx 1 rfl) (i:=0) rfl,Row.cell (hS.bx 1 rfl) (i:=1) rfl,trivial⟩) (zW rfl rfl (zC hp5) (yab H9) (rl_n (yaA rfl (ybc rfl (zC hp5))) rfl rfl rfl (yai rfl (am2 rfl rfl) enter_91 ((ye3 h (yaz _) (hS.rdr 2 rfl) (hS.rdo 4 rfl)).mono ?_))));rintro _ w15 ⟨r7,rfl,hC,h⟩;replace hS:=hS.pur hC.pure;clear hC;refine ⟨_,rfl,?_⟩;exact zb (zq (yan (v:=(.bool (r7))) (zC hp5) rfl) (zQ (.bool (r7)) (zQ (ii 0) (yaa (ya7 rfl rfl rfl ⟨_,_,rfl,(hS.sel []),h⟩)))))
            · replace h:=h.2 hp5;exact zV rfl rfl (zC (zI hp5)) (zV rfl rfl (zC (zI hp5)) (zV rfl rfl (zC (zI hp5)) (zq (yaj (v:=(.bool (false))) (zC (zI hp5)) rfl) (zQ (.bool (false)) (zQ (ii 0) (yaa (ya7 rfl rfl rfl ⟨_,_,rfl,(hS.sel []),h⟩)))))))
          · replace h:=h.2 hp4;exact zV rfl rfl (zF hp4) (zV rfl rfl (zF hp4) (zV rfl rfl (zF hp4) (zq (yaj (v:=(.bool (false))) (zF hp4) rfl) (zM (.bool (false)) (zU (zU (zU (zq (yaj (v:=(.bool (false))) rfl rfl) (zQ (.bool (false)) (zQ (ii 0) (yaa (ya7 rfl rfl rfl ⟨_,_,rfl,(hS.sel []),h⟩))))))))))))
      clear hJ;intro j;refine wp_draw2 2 5 [0,1,3,4,2,6,5,7] [0,1,3,4,5,2,6,7] (fun i=>match i with | 2=>[3,4] | 5=>[0,1,6] | _=>[]) (fun i=>match i with | 5=>[0,1] | 2=>[3,4] | _=>[]) yaC (by kernel_rfl) (by kernel_rfl) ?_ ?_
      · replace h:=h.1;replace hS:=hS.drew;refine zp (yam rfl underlying24 rfl yag) (zp (zl underlying3 (Row.cell (hS.bx 2 rfl) (i:=0) rfl)) (zp (yam rfl underlying24 rfl yag) (zp (zl underlying3 (Row.cell (hS.bx 2 rfl) (i:=0) rfl)) ?_)));obtain ⟨hx5,h⟩:=h;refine rp_n rfl rfl rfl rfl (yeX rfl rfl underlying94 ybb (by decide) rfl hx5 ?_);intro g3 w16 hN;replace hS:=hS.made 3 rfl cB (.bool (false)) false (fun _ _=>rfl) hN (by omega);clear hN;refine ⟨⟨fun _=>(zl underlying3 (Row.cell (hS.bx 2 rfl) (i:=0) rfl)),⟨fun _=>(yam rfl underlying24 rfl yag),⟨fun hh=>zZ hh,⟨fun hh=>zZ hh,trivial⟩⟩⟩⟩,?_⟩;refine zp (za (.slice (some ⟨g3,0,none⟩) d.toNat d.toNat)) (rp_n rfl rfl rfl rfl (yeX rfl rfl underlying94 ybb (by decide) rfl hx5 ?_));intro g4 w17 hN;replace hS:=hS.made 4 rfl cB (.bool (false)) false (fun _ _=>rfl) hN (by omega);clear hN;refine ⟨⟨fun _=>(za (.slice (some ⟨g3,0,none⟩) d.toNat d.toNat)),⟨fun hh=>zZ hh,⟨fun hh=>zZ hh,⟨fun _=>(zl underlying3 (Row.cell (hS.bx 2 rfl) (i:=0) rfl)),⟨fun _=>(yam rfl underlying24 rfl yag),trivial⟩⟩⟩⟩⟩,?_⟩;exact zp (za (.slice (some ⟨g4,0,none⟩) d.toNat d.toNat)) (ybH (j _ _ _ ⟨_,_,_,_,_,_,_,_,h,rfl,rfl,rfl,rfl,rfl,(hS.sel [3,4,1,2,0])⟩))
      · replace h:=h.2;replace hS:=hS.drew;refine zp (yam rfl underlying24 rfl yag) (zp (zl underlying3 (Row.cell (hS.bx 2 rfl) (i:=0) rfl)) (zp (yam rfl underlying24 rfl yag) (zp (zl underlying3 (Row.cell (hS.bx 2 rfl) (i:=0) rfl)) ?_)));obtain ⟨hx6,h⟩:=h;refine rp_n rfl rfl rfl rfl (yeX rfl rfl underlying94 ybb (by decide) rfl hx6 ?_);intro g5 w18 hN;replace hS:=hS.made 3 rfl cB (.bool (false)) false (fun _ _=>rfl) hN (by omega);clear hN;refine ⟨⟨fun hh=>zZ hh,⟨fun hh=>zZ hh,⟨fun _=>(zl underlying3 (Row.cell (hS.bx 2 rfl) (i:=0) rfl)),⟨fun _=>(yam rfl underlying24 rfl yag),trivial⟩⟩⟩⟩,?_⟩;refine rp_n rfl rfl rfl rfl (yeX rfl rfl underlying94 ybb (by decide) rfl hx6 ?_);intro g6 w19 hN;replace hS:=hS.made 4 rfl cB (.bool (false)) false (fun _ _=>rfl) hN (by omega);clear hN;refine ⟨⟨fun _=>(zl underlying3 (Row.cell (hS.bx 2 rfl) (i:=0) rfl)),⟨fun _=>(yam rfl underlying24 rfl yag),⟨fun hh=>zZ hh,⟨fun hh=>zZ hh,trivial⟩⟩⟩⟩,?_⟩;exact zp (za (.slice (some ⟨g6,0,none⟩) d.toNat d.toNat)) (zp (za (.slice (some ⟨g5,0,none⟩) d.toNat d.toNat)) (ybH (j _ _ _ ⟨_,_,_,_,_,_,_,_,h,rfl,rfl,rfl,rfl,rfl,(hS.sel [4,3,1,2,0])⟩)))
    · replace h:=h.2 hp2;exact zf hp2 (zs (zM (ii r2) (zQ (.bool (false)) (zQ (ii r2) (yaa (ya7 rfl rfl rfl ⟨_,_,rfl,(hS.sel []),h⟩))))))
  · replace h:=h.2 hp;exact zf hp (zs (zM (ii r) (zQ (.bool (false)) (zQ (ii r) (yaa (ya7 rfl rfl rfl ⟨_,_,rfl,(hS.sel []),h⟩))))))
def ya1(s:List Int)(R:(List Int)→Prop):Prop :=
(∀ nil:Bool,(nil=true→s=[]) →
((nil=true →
R ([])) ∧
(¬(nil=true) →
(0+s.length≤1000000000 ∧
R ([]++s)))))
theorem ycx{O:Nat→Prop}{w:World}{s As ls cs}{R:(List Int)→Prop}(h:ya1 s R)(hO:∀ k,O k→k<w.heap.size)(hA0:(FP.sl cI As ls cs s).P O w) :
    Calls Tryz.prog 79 #[(.slice As ls cs)] w fun e w'=>∃ r Ar lr cr,e = .returned (.slice Ar lr cr)∧Sep w no O w' (rl [Res.own cI 3 Ar lr cr r])∧R r:=by
  unfold ya1 at h;have hS:Sep w no O w (rl [Res.ro (FP.sl cI As ls cs s)]):=Sep.startl hO [(FP.sl cI As ls cs s)] ⟨hA0,trivial⟩;refine yal (l:=[(.slice As ls cs)]) func79 rfl ntmps79 zY (zs (zQ (.slice none 0 0) (yaa (yac (zs (zM (.slice As ls cs) ?_))))));obtain ⟨nil,hn⟩:∃ b,Option.isNone As=b:=⟨_,rfl⟩;replace h:=h nil (by rw [←hn];exact rd_nil (hS.rdr 0 rfl));refine zq (v_seqlx rfl rfl underlying35 hn) (yaa ?_);by_cases hp:nil=true
  · replace h:=h.1 hp;refine yaq (zC hp) (zs (zQ (.slice none 0 0) (yaa ?_)));replace hS:=hS.nil 1 rfl cI 3;exact yah rfl rfl ⟨_,_,_,_,rfl,(hS.sel [1]),h⟩
  · replace h:=h.2 hp;refine yav (zC (zI hp)) (yaf (zs (zn (yaK (l:=[]) (cells:=[]) (bp0) underlying35 yag rfl rfl ?_))));intro g w2 hN;replace hS:=hS.litf (n:=0) 1 rfl (fI .i64) hN ([]:List Int) rfl (by decide) rfl;clear hN;refine zb (zM (.slice As ls cs) ?_);obtain ⟨hx,h⟩:=h;refine zn (yfv (c:=cI) rfl rfl underlying35 underlying35 yag rfl rfl (by decide) hS 1 rfl (hS.yr 0 rfl) hx ?_);clear hS;intro A c w3 hS;exact zb (zQ (.slice A (0+ls) c) (yaa (yah rfl rfl ⟨_,_,_,_,rfl,(hS.sel [1]),h⟩)))
def ybs(s:List Int)(Ff:Int→(Bool→Prop)→Prop)(R:Int→Prop):Prop :=
(∃ I2:Nat→Int→Prop,(∃ m0,I2 m0 0)∧∀ m2 v,I2 m2 v → 
((v<(s.length:Int) →
((0≤v∧v<(s.length:Int)) ∧
Ff (gi s v.toNat) (fun (r:Bool) =>
((r=true →
R v) ∧
(¬(r=true) →
(In64 (v+1) ∧
∃ m3,m3<m2∧I2 m3 (v+1))))))) ∧
(¬(v<(s.length:Int)) →
R (-1))))
theorem yeF{O:Nat→Prop}{w:World}{s:List Int}{Ff:Int→(Bool→Prop)→Prop}{As:Option Addr}{ls:Nat}{cs:Nat}{f:Value}{R:Int→Prop}(h:ybs s Ff R)(hO:∀ k,O k→k<w.heap.size)(hA0:(FP.sl cI As ls cs s).P O w)(hA1:(FP.st fun w'=>∃ (fid:Nat) (us:Array Value),f=Value.func (.func fid) #[] us∧Enters Tryz.prog fid∧∀ (x0:Int) (R:Bool→Prop),Ff x0 R→Calls Tryz.prog fid (#[(Value.int .i64 x0)]++us) w' fun e w''=>∃ r0:Bool,e = .returned (Value.bool (r0))∧Sep w' no no w'' (rl [])∧R r0).P O w) :
    Calls Tryz.prog 65 #[(.slice As ls cs),f] w fun e w'=>∃ r2,e = .returned (ii r2)∧Sep w no O w' (rl [])∧R r2:=by
  unfold ybs at h;have hS:Sep w no O w (rl [Res.ro (FP.sl cI As ls cs s),Res.ro (FP.st fun w'=>∃ (fid:Nat) (us:Array Value),f=Value.func (.func fid) #[] us∧Enters Tryz.prog fid∧∀ (x0:Int) (R:Bool→Prop),Ff x0 R→Calls Tryz.prog fid (#[(Value.int .i64 x0)]++us) w' fun e w''=>∃ r0:Bool,e = .returned (Value.bool (r0))∧Sep w' no no w'' (rl [])∧R r0)]):=Sep.startl hO [(FP.sl cI As ls cs s),(FP.st fun w'=>∃ (fid:Nat) (us:Array Value),f=Value.func (.func fid) #[] us∧Enters Tryz.prog fid∧∀ (x0:Int) (R:Bool→Prop),Ff x0 R→Calls Tryz.prog fid (#[(Value.int .i64 x0)]++us) w' fun e w''=>∃ r0:Bool,e = .returned (Value.bool (r0))∧Sep w' no no w'' (rl [])∧R r0)] ⟨hA0,hA1,trivial⟩;refine yal (l:=[(Value.slice As ls cs),f]) func65 rfl ntmps65 (Nat.le_of_ble_eq_true rfl) ?_;refine yac ?_;refine yaE yaC ?_;refine rl_q rfl rfl rfl (ybJ (v:=(.int .i64 0)) rfl) ?_;refine yaa ?_;refine yac ?_;refine yac ?_;refine yaE yaC ?_;refine rl_q rfl rfl rfl (yab (v:=(.slice As ls cs)) rfl) ?_;refine rl_q rfl rfl rfl (yaG (n:=s.length) rfl underlying35 (yaD (hS.rdr 0 rfl))) ?_;refine rl_q rfl rfl rfl (yab (v:=(.int .i64 0)) rfl) ?_;refine yaa ?_;refine yad ?_;obtain ⟨I2,⟨m0,h0⟩,hr⟩:=h;refine yax (fun m E ds w'=>∃ v:Int,I2 m v∧ds=[]∧E 0=(Value.slice As ls cs)∧E 1=f∧E 7=(Value.int .i64 ((s.length:Nat):Int))∧E 8=(Value.int .i64 v)∧Sep w no O w' (rl [Res.ro (FP.sl cI As ls cs s),Res.ro (FP.st fun w'=>∃ (fid:Nat) (us:Array Value),f=Value.func (.func fid) #[] us∧Enters Tryz.prog fid∧∀ (x0:Int) (R:Bool→Prop),Ff x0 R→Calls Tryz.prog fid (#[(Value.int .i64 x0)]++us) w' fun e w''=>∃ r0:Bool,e = .returned (Value.bool (r0))∧Sep w' no no w'' (rl [])∧R r0)])) m0 ⟨_,h0,rfl,rfl,rfl,rfl,rfl,(hS.sel [0,1] (by decide))⟩ ?_;clear h0 hS;rintro m2 E ds w2 ⟨v,h,rfl,H0,H1,H7,H8,hS⟩ ag;replace h:=hr m2 v h;clear hr;refine yac ?_;refine yaE yaC ?_;refine rl_q rfl rfl rfl (ydm H8 H7) ?_;refine yaa ?_;refine yac ?_;by_cases hp:v<((s.length:Nat):Int)
  · replace h:=h.1 hp;refine zc hp (yaf (yac (yad (zs (zq (yab H8) (zQ (ii v) (yaa (zs (zq (yab H1) (zq (yab H0) (zM (ii v) ?_)))))))))));obtain ⟨hx,h⟩:=h;refine zq (zi underlying35 yag (yaB (hS.rdr 0 rfl) hx)) (zq (yar (v:=(ii (gi s v.toNat))) rfl underlying3 rfl (rd_1 (hS.rdr 0 rfl) hx (fun q=>yaF q) rfl)) ?_);obtain ⟨fid,us,hf,he,hcl⟩:=hS.ro 1 rfl _ (Keeps.refl _ _);replace h:=hcl _ _ h;clear hcl;refine zn (ydt (hf) (am1 rfl) he (h.mono ?_));clear hf he;rintro _ w3 ⟨r,rfl,hC,h⟩;replace hS:=hS.pur hC.pure;clear hC;refine ⟨_,rfl,?_⟩;refine zb (yaa ?_);by_cases hp2:r=true
    · replace h:=h.1 hp2;exact yaq (zC hp2) (zs (zM (ii v) (zQ (ii v) (yaa (yah rfl rfl ⟨_,rfl,(hS.sel []),h⟩)))))
    · replace h:=h.2 hp2;refine yav (zC (zI hp2)) (yaf (yae (zr ?_)));obtain ⟨hi,h⟩:=h;refine zq (yb3 H8 rfl hi) (zM (ii (v+1)) (yaa ?_));obtain ⟨mq,hlt,h⟩:=h;exact ag mq _ _ _ ⟨_,h,rfl,H0,H1,H7,rfl,(hS.sel [0,1])⟩ hlt
  · replace h:=h.2 hp;exact zd hp (yas rfl (zs (zQ (ii (-1)) (yaa (yah rfl rfl ⟨_,rfl,(hS.sel []),h⟩)))))
def yaR(s:List Int)(Ff:Int→(Bool→Prop)→Prop)(R:Bool→Prop):Prop :=
ybs s Ff (fun r =>
R (decide (0≤r)))
theorem ycs{O:Nat→Prop}{w:World}{s:List Int}{Ff:Int→(Bool→Prop)→Prop}{As:Option Addr}{ls:Nat}{cs:Nat}{f:Value}{R:Bool→Prop}(h:yaR s Ff R)(hO:∀ k,O k→k<w.heap.size)(hA0:(FP.sl cI As ls cs s).P O w)(hA1:(FP.st fun w'=>∃ (fid:Nat) (us:Array Value),f=Value.func (.func fid) #[] us∧Enters Tryz.prog fid∧∀ (x0:Int) (R:Bool→Prop),Ff x0 R→Calls Tryz.prog fid (#[(Value.int .i64 x0)]++us) w' fun e w''=>∃ r0:Bool,e = .returned (Value.bool (r0))∧Sep w' no no w'' (rl [])∧R r0).P O w) :
    Calls Tryz.prog 25 #[(.slice As ls cs),f] w fun e w'=>∃ r2,e = .returned (.bool (r2))∧Sep w no O w' (rl [])∧R r2:=by
  unfold yaR at h;have hS:Sep w no O w (rl [Res.ro (FP.sl cI As ls cs s),Res.ro (FP.st fun w'=>∃ (fid:Nat) (us:Array Value),f=Value.func (.func fid) #[] us∧Enters Tryz.prog fid∧∀ (x0:Int) (R:Bool→Prop),Ff x0 R→Calls Tryz.prog fid (#[(Value.int .i64 x0)]++us) w' fun e w''=>∃ r0:Bool,e = .returned (Value.bool (r0))∧Sep w' no no w'' (rl [])∧R r0)]):=Sep.startl hO [(FP.sl cI As ls cs s),(FP.st fun w'=>∃ (fid:Nat) (us:Array Value),f=Value.func (.func fid) #[] us∧Enters Tryz.prog fid∧∀ (x0:Int) (R:Bool→Prop),Ff x0 R→Calls Tryz.prog fid (#[(Value.int .i64 x0)]++us) w' fun e w''=>∃ r0:Bool,e = .returned (Value.bool (r0))∧Sep w' no no w'' (rl [])∧R r0)] ⟨hA0,hA1,trivial⟩;refine yal (l:=[(Value.slice As ls cs),f]) func25 rfl ntmps25 (Nat.le_of_ble_eq_true rfl) ?_;refine yac ?_;refine yaE yaC ?_;refine rl_q rfl rfl rfl (ybJ (v:=(.bool (false))) rfl) ?_;refine yaa ?_;refine yac ?_;refine yaE yaC ?_;refine rl_q rfl rfl rfl (yab (v:=(.slice As ls cs)) rfl) ?_;refine rl_q rfl rfl rfl (yab (v:=f) rfl) ?_;refine rl_n rfl rfl rfl rfl (yai rfl (am2 rfl rfl) enter_65 ((yeF h (yaz _) (hS.rdr 0 rfl) (FP.sub _ (hS.ro 1 rfl) (fun _ _ h=>h.elim):FP.P _ no _)).mono ?_));rintro _ w2 ⟨r,rfl,hC,h⟩;replace hS:=hS.pur hC.pure;clear hC;refine ⟨_,rfl,?_⟩;refine ⟨Stb.none _,?_⟩;refine rl_q rfl rfl rfl (yiq rfl rfl) ?_;refine rl_q rfl rfl rfl (ybJ (v:=(.bool (decide (0≤r)))) rfl) ?_;refine yaa ?_;exact yah rfl rfl ⟨_,rfl,(hS.sel [] (by decide)),h⟩
def ybW(s:List (List Int))(Ff:(List Int)→(Bool→Prop)→Prop)(R:Int→Prop):Prop :=
(∃ I2:Nat→Int→Prop,(∃ m0,I2 m0 0)∧∀ m2 v,I2 m2 v → 
((v<(s.length:Int) →
((0≤v∧v<(s.length:Int)) ∧
Ff (gx s v.toNat) (fun (r:Bool) =>
((r=true →
R v) ∧
(¬(r=true) →
(In64 (v+1) ∧
∃ m3,m3<m2∧I2 m3 (v+1))))))) ∧
(¬(v<(s.length:Int)) →
R (-1))))
theorem yef{O:Nat→Prop}{w:World}{s:List (List Int)}{Ff:(List Int)→(Bool→Prop)→Prop}{As:Option Addr}{ls:Nat}{cs:Nat}{f:Value}{R:Int→Prop}(h:ybW s Ff R)(hO:∀ k,O k→k<w.heap.size)(hA0:(FP.sl (cL cI) As ls cs s).P O w)(hA1:(FP.st fun w'=>∃ (fid:Nat) (us:Array Value),f=Value.func (.func fid) #[] us∧Enters Tryz.prog fid∧∀ (x0:List Int) (Ax0:Option Addr) (lx0:Nat) (cx0:Nat) (R:Bool→Prop),Ff x0 R→(FP.sl cI Ax0 lx0 cx0 x0).P no w'→Calls Tryz.prog fid (#[(Value.slice Ax0 lx0 cx0)]++us) w' fun e w''=>∃ r0:Bool,e = .returned (Value.bool (r0))∧Sep w' no no w'' (rl [])∧R r0).P O w) :
    Calls Tryz.prog 66 #[(.slice As ls cs),f] w fun e w'=>∃ r2,e = .returned (ii r2)∧Sep w no O w' (rl [])∧R r2:=by
  unfold ybW at h;have hS:Sep w no O w (rl [Res.ro (FP.sl (cL cI) As ls cs s),Res.ro (FP.st fun w'=>∃ (fid:Nat) (us:Array Value),f=Value.func (.func fid) #[] us∧Enters Tryz.prog fid∧∀ (x0:List Int) (Ax0:Option Addr) (lx0:Nat) (cx0:Nat) (R:Bool→Prop),Ff x0 R→(FP.sl cI Ax0 lx0 cx0 x0).P no w'→Calls Tryz.prog fid (#[(Value.slice Ax0 lx0 cx0)]++us) w' fun e w''=>∃ r0:Bool,e = .returned (Value.bool (r0))∧Sep w' no no w'' (rl [])∧R r0)]):=Sep.startl hO [(FP.sl (cL cI) As ls cs s),(FP.st fun w'=>∃ (fid:Nat) (us:Array Value),f=Value.func (.func fid) #[] us∧Enters Tryz.prog fid∧∀ (x0:List Int) (Ax0:Option Addr) (lx0:Nat) (cx0:Nat) (R:Bool→Prop),Ff x0 R→(FP.sl cI Ax0 lx0 cx0 x0).P no w'→Calls Tryz.prog fid (#[(Value.slice Ax0 lx0 cx0)]++us) w' fun e w''=>∃ r0:Bool,e = .returned (Value.bool (r0))∧Sep w' no no w'' (rl [])∧R r0)] ⟨hA0,hA1,trivial⟩;refine yal (l:=[(Value.slice As ls cs),f]) func66 rfl ntmps66 (Nat.le_of_ble_eq_true rfl) ?_;refine yac ?_;refine yaE yaC ?_;refine rl_q rfl rfl rfl (ybJ (v:=(.int .i64 0)) rfl) ?_;refine yaa ?_;refine yac ?_;refine yac ?_;refine yaE yaC ?_;refine rl_q rfl rfl rfl (yab (v:=(.slice As ls cs)) rfl) ?_;refine rl_q rfl rfl rfl (yaG (n:=s.length) rfl underlying27 (yaD (hS.rdr 0 rfl))) ?_;refine rl_q rfl rfl rfl (yab (v:=(.int .i64 0)) rfl) ?_;refine yaa ?_;refine yad ?_;obtain ⟨I2,⟨m0,h0⟩,hr⟩:=h;refine yax (fun m E ds w'=>∃ v:Int,I2 m v∧ds=[]∧E 0=(Value.slice As ls cs)∧E 1=f∧E 7=(Value.int .i64 ((s.length:Nat):Int))∧E 8=(Value.int .i64 v)∧Sep w no O w' (rl [Res.ro (FP.sl (cL cI) As ls cs s),Res.ro (FP.st fun w'=>∃ (fid:Nat) (us:Array Value),f=Value.func (.func fid) #[] us∧Enters Tryz.prog fid∧∀ (x0:List Int) (Ax0:Option Addr) (lx0:Nat) (cx0:Nat) (R:Bool→Prop),Ff x0 R→(FP.sl cI Ax0 lx0 cx0 x0).P no w'→Calls Tryz.prog fid (#[(Value.slice Ax0 lx0 cx0)]++us) w' fun e w''=>∃ r0:Bool,e = .returned (Value.bool (r0))∧Sep w' no no w'' (rl [])∧R r0)])) m0 ⟨_,h0,rfl,rfl,rfl,rfl,rfl,(hS.sel [0,1] (by decide))⟩ ?_;clear h0 hS;rintro m2 E ds w2 ⟨v,h,rfl,H0,H1,H7,H8,hS⟩ ag;replace h:=hr m2 v h;clear hr;refine yac ?_;refine yaE yaC ?_;refine rl_q rfl rfl rfl (ydm H8 H7) ?_;refine yaa ?_;refine yac ?_;by_cases hp:v<((s.length:Nat):Int)
  · replace h:=h.1 hp;refine zc hp (yaf (yac (yad (zs (zq (yab H8) (zQ (ii v) (yaa (zs (zq (yab H1) (zq (yab H0) (zM (ii v) ?_)))))))))));obtain ⟨hx,h⟩:=h;refine zq (zi underlying27 yaJ (yaB (hS.rdr 0 rfl) hx)) ?_;obtain ⟨A,l,c,hc,hq⟩:=hS.el 0 rfl hx 2 3 rfl rfl (by decide);replace hS:=hq;clear hq;refine zq (yar (v:=(.slice A l c)) rfl underlying35 rfl (hS.clr 3 rfl)) ?_;obtain ⟨fid,us,hf,he,hcl⟩:=hS.ro 1 rfl _ (Keeps.refl _ _);replace h:=hcl _ _ _ _ _ h (hS.rdr 2 rfl);clear hcl;refine zn (ydt (hf) (am1 rfl) he (h.mono ?_));clear hf he;rintro _ w3 ⟨r,rfl,hC,h⟩;replace hS:=hS.pur hC.pure;clear hC;refine ⟨_,rfl,?_⟩;refine zb (yaa ?_);by_cases hp2:r=true
    · replace h:=h.1 hp2;exact yaq (zC hp2) (zs (zM (ii v) (zQ (ii v) (yaa (yah rfl rfl ⟨_,rfl,(hS.sel []),h⟩)))))
    · replace h:=h.2 hp2;refine yav (zC (zI hp2)) (yaf (yae (zr ?_)));obtain ⟨hi,h⟩:=h;refine zq (yb3 H8 rfl hi) (zM (ii (v+1)) (yaa ?_));obtain ⟨mq,hlt,h⟩:=h;exact ag mq _ _ _ ⟨_,h,rfl,H0,H1,H7,rfl,(hS.sel [0,1])⟩ hlt
  · replace h:=h.2 hp;exact zd hp (yas rfl (zs (zQ (ii (-1)) (yaa (yah rfl rfl ⟨_,rfl,(hS.sel []),h⟩)))))
def yaX(s:List (List Int))(Ff:(List Int)→(Bool→Prop)→Prop)(R:Bool→Prop):Prop :=
ybW s Ff (fun r =>
R (decide (0≤r)))
theorem ydN{O:Nat→Prop}{w:World}{s:List (List Int)}{Ff:(List Int)→(Bool→Prop)→Prop}{As:Option Addr}{ls:Nat}{cs:Nat}{f:Value}{R:Bool→Prop}(h:yaX s Ff R)(hO:∀ k,O k→k<w.heap.size)(hA0:(FP.sl (cL cI) As ls cs s).P O w)(hA1:(FP.st fun w'=>∃ (fid:Nat) (us:Array Value),f=Value.func (.func fid) #[] us∧Enters Tryz.prog fid∧∀ (x0:List Int) (Ax0:Option Addr) (lx0:Nat) (cx0:Nat) (R:Bool→Prop),Ff x0 R→(FP.sl cI Ax0 lx0 cx0 x0).P no w'→Calls Tryz.prog fid (#[(Value.slice Ax0 lx0 cx0)]++us) w' fun e w''=>∃ r0:Bool,e = .returned (Value.bool (r0))∧Sep w' no no w'' (rl [])∧R r0).P O w) :
    Calls Tryz.prog 29 #[(.slice As ls cs),f] w fun e w'=>∃ r2,e = .returned (.bool (r2))∧Sep w no O w' (rl [])∧R r2:=by
  unfold yaX at h;have hS:Sep w no O w (rl [Res.ro (FP.sl (cL cI) As ls cs s),Res.ro (FP.st fun w'=>∃ (fid:Nat) (us:Array Value),f=Value.func (.func fid) #[] us∧Enters Tryz.prog fid∧∀ (x0:List Int) (Ax0:Option Addr) (lx0:Nat) (cx0:Nat) (R:Bool→Prop),Ff x0 R→(FP.sl cI Ax0 lx0 cx0 x0).P no w'→Calls Tryz.prog fid (#[(Value.slice Ax0 lx0 cx0)]++us) w' fun e w''=>∃ r0:Bool,e = .returned (Value.bool (r0))∧Sep w' no no w'' (rl [])∧R r0)]):=Sep.startl hO [(FP.sl (cL cI) As ls cs s),(FP.st fun w'=>∃ (fid:Nat) (us:Array Value),f=Value.func (.func fid) #[] us∧Enters Tryz.prog fid∧∀ (x0:List Int) (Ax0:Option Addr) (lx0:Nat) (cx0:Nat) (R:Bool→Prop),Ff x0 R→(FP.sl cI Ax0 lx0 cx0 x0).P no w'→Calls Tryz.prog fid (#[(Value.slice Ax0 lx0 cx0)]++us) w' fun e w''=>∃ r0:Bool,e = .returned (Value.bool (r0))∧Sep w' no no w'' (rl [])∧R r0)] ⟨hA0,hA1,trivial⟩;refine yal (l:=[(Value.slice As ls cs),f]) func29 rfl ntmps29 (Nat.le_of_ble_eq_true rfl) ?_;refine yac ?_;refine yaE yaC ?_;refine rl_q rfl rfl rfl (ybJ (v:=(.bool (false))) rfl) ?_;refine yaa ?_;refine yac ?_;refine yaE yaC ?_;refine rl_q rfl rfl rfl (yab (v:=(.slice As ls cs)) rfl) ?_;refine rl_q rfl rfl rfl (yab (v:=f) rfl) ?_;refine rl_n rfl rfl rfl rfl (yai rfl (am2 rfl rfl) enter_66 ((yef h (yaz _) (hS.rdr 0 rfl) (FP.sub _ (hS.ro 1 rfl) (fun _ _ h=>h.elim):FP.P _ no _)).mono ?_));rintro _ w2 ⟨r,rfl,hC,h⟩;replace hS:=hS.pur hC.pure;clear hC;refine ⟨_,rfl,?_⟩;refine ⟨Stb.none _,?_⟩;refine rl_q rfl rfl rfl (yiq rfl rfl) ?_;refine rl_q rfl rfl rfl (ybJ (v:=(.bool (decide (0≤r)))) rfl) ?_;refine yaa ?_;exact yah rfl rfl ⟨_,rfl,(hS.sel [] (by decide)),h⟩
def yaY(d:List (List Int))(Fi:(List Int)→(List Int)→(Bool→Prop)→Prop)(R:(List (List Int))→Prop):Prop :=
(((d.length:Int)<2 →
R d) ∧
(¬((d.length:Int)<2) →
(∃ I2:Nat→Int→Prop,(∃ m0,I2 m0 1)∧∀ m2 v,I2 m2 v → 
((v<(d.length:Int) →
((0≤v∧v<(d.length:Int)) ∧
(In64 (v-1) ∧
((0≤(v-1)∧(v-1)<(d.length:Int)) ∧
Fi (gx d v.toNat) (gx d (v-1).toNat) (fun (r:Bool) =>
((r=true →
False) ∧
(¬(r=true) →
(In64 (v+1) ∧
∃ m3,m3<m2∧I2 m3 (v+1))))))))) ∧
(¬(v<(d.length:Int)) →
R d)))))
theorem ydZ{O:Nat→Prop}{w:World}{d:List (List Int)}{Fi:(List Int)→(List Int)→(Bool→Prop)→Prop}{Ad:Option Addr}{ld:Nat}{cd:Nat}{i:Value}{R:(List (List Int))→Prop}(h:yaY d Fi R)(hO:∀ k,O k→k<w.heap.size)(hA0:(FP.sl (cL cI) Ad ld cd d).P O w)(hA1:(FP.st fun w'=>∃ (fid:Nat) (us:Array Value),i=Value.func (.func fid) #[] us∧Enters Tryz.prog fid∧∀ (x0:List Int) (x1:List Int) (Ax0:Option Addr) (lx0:Nat) (cx0:Nat) (Ax1:Option Addr) (lx1:Nat) (cx1:Nat) (R:Bool→Prop),Fi x0 x1 R→(FP.sl cI Ax0 lx0 cx0 x0).P no w'→(FP.sl cI Ax1 lx1 cx1 x1).P no w'→Calls Tryz.prog fid (#[(Value.slice Ax0 lx0 cx0),(Value.slice Ax1 lx1 cx1)]++us) w' fun e w''=>∃ r0:Bool,e = .returned (Value.bool (r0))∧Sep w' no no w'' (rl [])∧R r0).P O w) :
    Calls Tryz.prog 80 #[(.slice Ad ld cd),i] w fun e w'=>∃ r2 Ar lr cr,e = .returned (.slice Ar lr cr)∧Sep w no O w' (rl [Res.ro (FP.sl (cL cI) Ar lr cr r2)])∧R r2:=by
  unfold yaY at h;have hS:Sep w no O w (rl [Res.ro (FP.sl (cL cI) Ad ld cd d),Res.ro (FP.st fun w'=>∃ (fid:Nat) (us:Array Value),i=Value.func (.func fid) #[] us∧Enters Tryz.prog fid∧∀ (x0:List Int) (x1:List Int) (Ax0:Option Addr) (lx0:Nat) (cx0:Nat) (Ax1:Option Addr) (lx1:Nat) (cx1:Nat) (R:Bool→Prop),Fi x0 x1 R→(FP.sl cI Ax0 lx0 cx0 x0).P no w'→(FP.sl cI Ax1 lx1 cx1 x1).P no w'→Calls Tryz.prog fid (#[(Value.slice Ax0 lx0 cx0),(Value.slice Ax1 lx1 cx1)]++us) w' fun e w''=>∃ r0:Bool,e = .returned (Value.bool (r0))∧Sep w' no no w'' (rl [])∧R r0)]):=Sep.startl hO [(FP.sl (cL cI) Ad ld cd d),(FP.st fun w'=>∃ (fid:Nat) (us:Array Value),i=Value.func (.func fid) #[] us∧Enters Tryz.prog fid∧∀ (x0:List Int) (x1:List Int) (Ax0:Option Addr) (lx0:Nat) (cx0:Nat) (Ax1:Option Addr) (lx1:Nat) (cx1:Nat) (R:Bool→Prop),Fi x0 x1 R→(FP.sl cI Ax0 lx0 cx0 x0).P no w'→(FP.sl cI Ax1 lx1 cx1 x1).P no w'→Calls Tryz.prog fid (#[(Value.slice Ax0 lx0 cx0),(Value.slice Ax1 lx1 cx1)]++us) w' fun e w''=>∃ r0:Bool,e = .returned (Value.bool (r0))∧Sep w' no no w'' (rl [])∧R r0)] ⟨hA0,hA1,trivial⟩;refine yal (l:=[(Value.slice Ad ld cd),i]) func80 rfl ntmps80 (Nat.le_of_ble_eq_true rfl) ?_;refine yac ?_;refine yaE yaC ?_;refine rl_q rfl rfl rfl (ybJ (v:=(.slice none 0 0)) rfl) ?_;refine yaa ?_;refine yac ?_;refine yac ?_;refine yaE yaC ?_;refine rl_q rfl rfl rfl (yab (v:=(.slice Ad ld cd)) rfl) ?_;refine rl_q rfl rfl rfl (yaG (n:=d.length) rfl underlying27 (yaD (hS.rdr 0 rfl))) ?_;refine rl_q rfl rfl rfl (ydm rfl rfl) ?_;refine yaa ?_;by_cases hp:((d.length:Nat):Int)<2
  · replace h:=h.1 hp;exact zc hp (zs (zM (.slice Ad ld cd) (zQ (.slice Ad ld cd) (yaa (yah rfl rfl ⟨_,_,_,_,rfl,(hS.sel [0]),h⟩)))))
  · replace h:=h.2 hp;refine yav (congrArg Value.bool (decide_eq_false hp)) ?_;refine yaf ?_;refine yac ?_;refine yac ?_;refine yaE yaC ?_;refine rl_q rfl rfl rfl (ybJ (v:=(.int .i64 1)) rfl) ?_;refine yaa ?_;refine yad ?_;obtain ⟨I2,⟨m0,h0⟩,hr⟩:=h;refine yax (fun m E ds w'=>∃ v:Int,I2 m v∧ds=[]∧E 0=(Value.slice Ad ld cd)∧E 1=i∧E 5=(Value.int .i64 v)∧Sep w no O w' (rl [Res.ro (FP.sl (cL cI) Ad ld cd d),Res.ro (FP.st fun w'=>∃ (fid:Nat) (us:Array Value),i=Value.func (.func fid) #[] us∧Enters Tryz.prog fid∧∀ (x0:List Int) (x1:List Int) (Ax0:Option Addr) (lx0:Nat) (cx0:Nat) (Ax1:Option Addr) (lx1:Nat) (cx1:Nat) (R:Bool→Prop),Fi x0 x1 R→(FP.sl cI Ax0 lx0 cx0 x0).P no w'→(FP.sl cI Ax1 lx1 cx1 x1).P no w'→Calls Tryz.prog fid (#[(Value.slice Ax0 lx0 cx0),(Value.slice Ax1 lx1 cx1)]++us) w' fun e w''=>∃ r0:Bool,e = .returned (Value.bool (r0))∧Sep w' no no w'' (rl [])∧R r0)])) m0 ⟨_,h0,rfl,rfl,rfl,rfl,(hS.sel [0,1] (by decide))⟩ ?_;clear h0 hS;rintro m2 E ds w2 ⟨v,h,rfl,H0,H1,H5,hS⟩ ag;replace h:=hr m2 v h;clear hr;refine yac ?_;refine yac ?_;refine yaE yaC ?_;refine rl_q rfl rfl rfl (yab (v:=(.int .i64 v)) H5) ?_;refine rl_q rfl rfl rfl (yab (v:=(.slice Ad ld cd)) H0) ?_;refine rl_q rfl rfl rfl (yaG (n:=d.length) rfl underlying27 (yaD (hS.rdr 0 rfl))) ?_;refine rl_q rfl rfl rfl (ydm rfl rfl) ?_;refine yaa ?_;by_cases hp2:v<((d.length:Nat):Int)
    · replace h:=h.1 hp2;refine zc hp2 (yaf (yac (yad (yac (ybq [0,1,2,3,4,5,6,7,8,9,10] st0 yaC (by kernel_rfl) (by kernel_rfl) ?_)))));replace hS:=hS.drew;refine zp (yab H1) (zp (yab H0) (zp (yab H5) ?_));obtain ⟨hx,h⟩:=h;refine zp (zi underlying27 yaJ (yaB (hS.rdr 0 rfl) hx)) ?_;obtain ⟨A,l,c,hc,hq⟩:=hS.el 0 rfl hx 2 3 rfl rfl (by decide);replace hS:=hq;clear hq;refine zp (yar (v:=(.slice A l c)) rfl underlying35 rfl (hS.clr 3 rfl)) (zp (yab H0) (zp (yab H5) ?_));obtain ⟨hi,h⟩:=h;refine zp (zS hi) ?_;obtain ⟨hx2,h⟩:=h;refine zp (zi underlying27 yaJ (yaB (hS.rdr 0 rfl) hx2)) ?_;obtain ⟨A2,l2,c4,hc2,hq⟩:=hS.el 0 rfl hx2 4 5 rfl rfl (by decide);replace hS:=hq;clear hq;refine zp (yar (v:=(.slice A2 l2 c4)) rfl underlying35 rfl (hS.clr 5 rfl)) ?_;obtain ⟨fid,us,hf,he,hcl⟩:=hS.ro 1 rfl _ (Keeps.refl _ _);replace h:=hcl _ _ _ _ _ _ _ _ _ h (hS.rdr 2 rfl) (hS.rdr 4 rfl);clear hcl;refine rp_n rfl rfl rfl rfl (ydt (hf) (am2 rfl rfl) he (h.mono ?_));clear hf he;rintro _ w3 ⟨r,rfl,hC,h⟩;replace hS:=hS.pur hC.pure;clear hC;refine ⟨_,rfl,?_⟩;refine zb (ybH ?_);by_cases hp3:r=true
      · replace h:=h.1 hp3;exact yaq (zC hp3) (zs (zq (yab H0) (zq (yab H5) h.elim)))
      · replace h:=h.2 hp3;refine yav (zC (zI hp3)) (yaf (yae (zr (zq (yab H5) ?_))));obtain ⟨hi2,h⟩:=h;refine zq (zA hi2) (zQ (ii (v+1)) (yaa ?_));obtain ⟨mq,hlt,h⟩:=h;exact ag mq _ _ _ ⟨_,h,rfl,H0,H1,rfl,(hS.sel [0,1])⟩ hlt
    · replace h:=h.2 hp2;exact zd hp2 (yas rfl (zs (zq (yab H0) (zQ (.slice Ad ld cd) (yaa (yah rfl rfl ⟨_,_,_,_,rfl,(hS.sel [0]),h⟩))))))
def yb5(g:Int)(g2:List E3)(R:(List (Int×Int))→Int→Prop):Prop :=
ydS g g2 (fun r r2 =>
((r2=0 →
((r=true →
ycI g g2 (fun r3 r4 =>
R r3 r4)) ∧
(¬(r=true) →
R ([]) 13))) ∧
(¬(r2=0) →
R ([]) r2)))
theorem yey{O:Nat→Prop}{w:World}{g g2 Ag lg cg}{R:(List (Int×Int))→Int→Prop}(h:yb5 g g2 R)(hO:∀ k,O k→k<w.heap.size)(hA0:(FP.sl c3 Ag lg cg g2).P O w) :
    Calls Tryz.prog 43 #[(.agg #[(ii g),(.slice Ag lg cg)])] w fun e w'=>∃ r5 r6 Ar2 lr2 cr2,e = .returned (.tuple #[(.slice Ar2 lr2 cr2),(ii r6)])∧Sep w no O w' (rl [Res.own c2 96 Ar2 lr2 cr2 r5])∧R r5 r6:=by
  unfold yb5 at h;have hS:Sep w no O w (rl [Res.ro (FP.sl c3 Ag lg cg g2)]):=Sep.startl hO [(FP.sl c3 Ag lg cg g2)] ⟨hA0,trivial⟩;refine yal (l:=[(.agg #[(ii g),(.slice Ag lg cg)])]) func43 rfl ntmps43 zY (zs (zn (ybm (v:=(.agg #[(ii g),(.slice Ag lg cg)])) rfl ?_)));intro g3 w2 hN;replace hS:Sep w no O w2 (stl _ 1 (Res.box 24 g3 [(ii g),(.slice Ag lg cg)])):=hS.new 1 rfl hN;clear hN;refine zb (zQ (.slice none 0 0) (zQ (ii 0) (yaa (zs (zq (yao (vs:=[(ii g),(.slice Ag lg cg)]) rfl underlying24 rfl yak ⟨Row.cell (hS.bx 1 rfl) (i:=0) rfl,Row.cell (hS.bx 1 rfl) (i:=1) rfl,trivial⟩) (zn (yai rfl (am1 rfl) enter_84 ((yfV h (yaz _) (hS.rdr 0 rfl)).mono ?_))))))));rintro _ w3 ⟨r,r2,rfl,hC,h⟩;replace hS:=hS.pur hC.pure;clear hC;refine ⟨_,rfl,?_⟩;refine zb (zM (.tuple #[(.bool (r)),(ii r2)]) (zq (zx (.bool (r))) (zq (zx (ii r2)) (zQ (.bool (r)) (zQ (ii r2) (yaa (yac (yad (zs (zM (ii r2) (zq zN (zQ (.bool (!(decide (r2=0)))) (yaa ?_)))))))))))));by_cases hp:r2=0
  · replace h:=h.1 hp;refine ze hp (zs (zM (.bool (r)) (zq (yds rfl) (zQ (.bool (!(r))) (yaa ?_)))));by_cases hp2:r=true
    · replace h:=h.1 hp2;refine yav (zC (zB hp2)) (yaf (yae (zs (zq (yao (vs:=[(ii g),(.slice Ag lg cg)]) rfl underlying24 rfl yak ⟨Row.cell (hS.bx 1 rfl) (i:=0) rfl,Row.cell (hS.bx 1 rfl) (i:=1) rfl,trivial⟩) (zn (yai rfl (am1 rfl) enter_85 ((ygh h (yaz _) (hS.rdr 0 rfl)).mono ?_)))))));rintro _ w4 ⟨r3,r4,Ar,lr,cr,rfl,hC,h⟩;replace hS:=hS.call1 (hC.widen (ycv (yaP (fP (fI .i64) (fI .i64)) _ _ _ _ _) ycH) hS.blt) 2 0 rfl;clear hC;refine ⟨_,rfl,?_⟩;exact zb (zq (zx (.slice Ar lr cr)) (zq (zx (ii r4)) (zQ (.slice Ar lr cr) (zQ (ii r4) (yaa (ya7 rfl rfl rfl ⟨_,_,_,_,_,rfl,(hS.sel [2]),h⟩))))))
    · replace h:=h.2 hp2;refine yaq (zC (zB (zI hp2))) (zs (zQ (.slice none 0 0) (zQ (ii 13) (yaa ?_))));replace hS:=hS.nil 2 rfl c2 96;exact ya7 rfl rfl rfl ⟨_,_,_,_,_,rfl,(hS.sel [2]),h⟩
  · replace h:=h.2 hp;refine zf hp (zs (zM (ii r2) (zQ (.slice none 0 0) (zQ (ii r2) (yaa ?_)))));replace hS:=hS.nil 2 rfl c2 96;exact ya7 rfl rfl rfl ⟨_,_,_,_,_,rfl,(hS.sel [2]),h⟩
def yco(g:Int)(g2:List E3)(R:(List (Int×Int))→Int→Prop):Prop :=
yb5 g g2 (fun r r2 =>
((r2=0 →
((14<(r.length:Int) →
R ([]) 12) ∧
(¬(14<(r.length:Int)) →
R r 0))) ∧
(¬(r2=0) →
R ([]) r2)))
theorem yeQ{O:Nat→Prop}{w:World}{g g2 Ag lg cg}{R:(List (Int×Int))→Int→Prop}(h:yco g g2 R)(hO:∀ k,O k→k<w.heap.size)(hA0:(FP.sl c3 Ag lg cg g2).P O w) :
    Calls Tryz.prog 39 #[(.agg #[(ii g),(.slice Ag lg cg)])] w fun e w'=>∃ r3 r4 Ar2 lr2 cr2,e = .returned (.tuple #[(.slice Ar2 lr2 cr2),(ii r4)])∧Sep w no O w' (rl [Res.own c2 96 Ar2 lr2 cr2 r3])∧R r3 r4:=by
  unfold yco at h;have hS:Sep w no O w (rl [Res.ro (FP.sl c3 Ag lg cg g2)]):=Sep.startl hO [(FP.sl c3 Ag lg cg g2)] ⟨hA0,trivial⟩;refine yal (l:=[(.agg #[(ii g),(.slice Ag lg cg)])]) func39 rfl ntmps39 zY (zs (zn (ybm (v:=(.agg #[(ii g),(.slice Ag lg cg)])) rfl ?_)));intro g3 w2 hN;replace hS:Sep w no O w2 (stl _ 1 (Res.box 24 g3 [(ii g),(.slice Ag lg cg)])):=hS.new 1 rfl hN;clear hN;refine zb (zQ (.slice none 0 0) (zQ (ii 0) (yaa (zs (zq (yao (vs:=[(ii g),(.slice Ag lg cg)]) rfl underlying24 rfl yak ⟨Row.cell (hS.bx 1 rfl) (i:=0) rfl,Row.cell (hS.bx 1 rfl) (i:=1) rfl,trivial⟩) (zn (yai rfl (am1 rfl) enter_43 ((yey h (yaz _) (hS.rdr 0 rfl)).mono ?_))))))));rintro _ w3 ⟨r,r2,Ar,lr,cr,rfl,hC,h⟩;replace hS:=hS.call1 (hC.widen (ycv (yaP (fP (fI .i64) (fI .i64)) _ _ _ _ _) ycH) hS.blt) 2 0 rfl;clear hC;refine ⟨_,rfl,?_⟩;refine zb (zM (.tuple #[(.slice Ar lr cr),(ii r2)]) (zq (zx (.slice Ar lr cr)) (zq (zx (ii r2)) (zQ (.slice Ar lr cr) (zQ (ii r2) (yaa (yac (zs (zM (ii r2) (zq zN (yaa ?_)))))))))));by_cases hp:r2=0
  · replace h:=h.1 hp;refine ze hp (yaf (yac (zs (zM (.slice Ar lr cr) (zq (yaG (n:=r.length) rfl underlying62 (yaD (hS.rdo 2 rfl))) (zq zG (yaa ?_)))))));by_cases hp2:14<(r.length:Int)
    · replace h:=h.1 hp2;refine zc hp2 (zs (zQ (.slice none 0 0) (zQ (ii 12) (yaa ?_))));replace hS:=hS.nil 3 rfl c2 96;exact ya7 rfl rfl rfl ⟨_,_,_,_,_,rfl,(hS.sel [3]),h⟩
    · replace h:=h.2 hp2;exact zd hp2 (yaf (zs (zM (.slice Ar lr cr) (zQ (.slice Ar lr cr) (zQ (ii 0) (yaa (ya7 rfl rfl rfl ⟨_,_,_,_,_,rfl,(hS.sel [2]),h⟩)))))))
  · replace h:=h.2 hp;refine zf hp (zs (zM (ii r2) (zQ (.slice none 0 0) (zQ (ii r2) (yaa ?_)))));replace hS:=hS.nil 3 rfl c2 96;exact ya7 rfl rfl rfl ⟨_,_,_,_,_,rfl,(hS.sel [3]),h⟩
def ya9(cap:List Bool)(cap2:Int)(R:(List Bool)→Prop):Prop :=
((0≤cap2∧cap2<(cap.length:Int)) ∧
R (cap.set cap2.toNat false))
theorem yfi{S O:Nat→Prop}{w:World}{cap cap2 gc Aa Ab Ac gc2}{R:(List Bool)→Prop}(h:ya9 cap cap2 R)(hS:Sep w S O w (rl [Res.box 94 gc [(Value.slice Aa Ab Ac)],Res.own cB 4 Aa Ab Ac cap,Res.box 3 gc2 [(Value.int .i64 cap2)]])) :
    CallsDIn Fence.wide 2 Tryz.prog 78 #[(.pointer (some ⟨gc,0,none⟩)),(.pointer (some ⟨gc2,0,none⟩))] .returning w fun e u' w'=>u' = .returning∧∃ z,e = .returned (.tuple #[])∧Sep w S O w' (rl [Res.box 94 gc [(.slice Aa Ab Ac)],Res.own cB 4 Aa Ab Ac z,Res.box 3 gc2 [(ii cap2)]])∧R z:=by
  unfold ya9 at h;refine callsd_sh (l:=[(.pointer (some ⟨gc,0,none⟩)),(.pointer (some ⟨gc2,0,none⟩))]) func78 rfl ntmps78 zY (zr (zq (zl underlying94 (Row.cell (hS.bx 0 rfl) (i:=0) rfl)) (zq (zl underlying3 (Row.cell (hS.bx 2 rfl) (i:=0) rfl)) ?_)));obtain ⟨hx,h⟩:=h;refine zq (zi underlying94 ybb (yaB (hS.rdo 1 rfl) hx)) (zo (zt (.bool (false)) ybb (hS.wr 1 rfl rfl hx) ?_));intro w2 e1;replace hS:=hS.st 1 rfl rfl hx (x:=false) rfl e1;clear e1;exact zb (yaa (yiv rfl ⟨_,rfl,(hS.sel [0,1,2]),h⟩))
theorem pok_voronoi_cycles_1_1{S O:Nat→Prop}{w:World}{cap cap2 gc Aa Ab Ac gc2}{R:(List Bool)→Prop}(h:ya9 cap cap2 R)(hS:Sep w S O w (rl [Res.box 94 gc [(Value.slice Aa Ab Ac)],Res.own cB 4 Aa Ab Ac cap,Res.box 3 gc2 [(Value.int .i64 cap2)]])) :
    Calls Tryz.prog 78 #[(.pointer (some ⟨gc,0,none⟩)),(.pointer (some ⟨gc2,0,none⟩))] w fun e w'=>∃ z,e = .returned (.tuple #[])∧Sep w S O w' (rl [Res.box 94 gc [(.slice Aa Ab Ac)],Res.own cB 4 Aa Ab Ac z,Res.box 3 gc2 [(ii cap2)]])∧R z:=by
  unfold ya9 at h;refine yal (l:=[(.pointer (some ⟨gc,0,none⟩)),(.pointer (some ⟨gc2,0,none⟩))]) func78 rfl ntmps78 zY (zr (zq (zl underlying94 (Row.cell (hS.bx 0 rfl) (i:=0) rfl)) (zq (zl underlying3 (Row.cell (hS.bx 2 rfl) (i:=0) rfl)) ?_)));obtain ⟨hx,h⟩:=h;refine zq (zi underlying94 ybb (yaB (hS.rdo 1 rfl) hx)) (zo (zt (.bool (false)) ybb (hS.wr 1 rfl rfl hx) ?_));intro w2 e1;replace hS:=hS.st 1 rfl rfl hx (x:=false) rfl e1;clear e1;exact zb (yaa (yiv rfl ⟨_,rfl,(hS.sel [0,1,2]),h⟩))
def ybD(Rec:Int→(List Bool)→(List (Int×Int))→(List Int)→Int→(List (List Int))→((List Bool)→(List Int)→(List (List Int))→Prop)→Prop)(d:Int)(cap:List Bool)(cap2:List (Int×Int))(cap3:List Int)(cap4:Int)(cap5:List (List Int))(R:(List Bool)→(List Int)→(List (List Int))→Prop):Prop :=
((0≤d∧d<(cap.length:Int)) ∧
(∃ I2:Nat→Int→(List Bool)→(List Int)→(List (List Int))→Prop,(∃ m0,I2 m0 0 (cap.set d.toNat true) cap3 cap5)∧∀ m2 v i v2 v3,I2 m2 v i v2 v3 → 
((v<(cap2.length:Int) →
((0≤v∧v<(cap2.length:Int)) ∧
(∃ J2:Prop,(J2→(∃ I3:Nat→Int→(List Bool)→(List Int)→(List (List Int))→Prop,(∃ m0,I3 m0 0 i v2 v3)∧∀ m3 v4 i2 v5 v6,I3 m3 v4 i2 v5 v6 → 
((v4<(([1, -1]).length:Int) →
((0≤v4∧v4<(([1, -1]).length:Int)) ∧
((0≤(0:Int)∧(0:Int)<2) ∧
((0≤(1:Int)∧(1:Int)<2) ∧
(∃ J3:Int→Int→Prop,(∀ (v7:Int) (v8:Int),J3 v7 v8→(∃ J4:Prop,(J4→((0≤v∧v<(v5.length:Int)) ∧
((v8=cap4 →
ya1 (v5.set v.toNat (gi ([1, -1]) v4.toNat)) (fun r =>
(v6.length+1≤1000000000 ∧
((0≤v∧v<(((v5.set v.toNat (gi ([1, -1]) v4.toNat)).length:Nat):Int)) ∧
(In64 (v4+1) ∧
∃ m4,m4<m3∧I3 m4 (v4+1) i2 ((v5.set v.toNat (gi ([1, -1]) v4.toNat)).set v.toNat 0) (v6++[r])))))) ∧
(¬(v8=cap4) →
((0≤v8∧v8<(i2.length:Int)) ∧
((gb i2 v8.toNat=true →
((0≤v∧v<(((v5.set v.toNat (gi ([1, -1]) v4.toNat)).length:Nat):Int)) ∧
(In64 (v4+1) ∧
∃ m5,m5<m3∧I3 m5 (v4+1) i2 ((v5.set v.toNat (gi ([1, -1]) v4.toNat)).set v.toNat 0) v6))) ∧
(¬(gb i2 v8.toNat=true) →
Rec v8 i2 cap2 (v5.set v.toNat (gi ([1, -1]) v4.toNat)) cap4 v6 (fun y y2 y3 =>
((0≤v∧v<(y2.length:Int)) ∧
(In64 (v4+1) ∧
∃ m6,m6<m3∧I3 m6 (v4+1) y (y2.set v.toNat 0) y3)))))))))) ∧
((v7=d →
((v8<cap4 →
(In64 (v4+1) ∧
∃ m7,m7<m3∧I3 m7 (v4+1) i2 v5 v6)) ∧
(¬(v8<cap4) →
J4))) ∧
(¬(v7=d) →
(In64 (v4+1) ∧
∃ m8,m8<m3∧I3 m8 (v4+1) i2 v5 v6))))) ∧
(((gi ([1, -1]) v4.toNat)<0 →
J3 ((gx cap2 v.toNat).2) ((gx cap2 v.toNat).1)) ∧
(¬((gi ([1, -1]) v4.toNat)<0) →
J3 ((gx cap2 v.toNat).1) ((gx cap2 v.toNat).2)))))))) ∧
(¬(v4<(([1, -1]).length:Int)) →
(In64 (v+1) ∧
∃ m9,m9<m2∧I2 m9 (v+1) i2 v5 v6))))) ∧
((0≤v∧v<(v2.length:Int)) ∧
(((gi v2 v.toNat)=0 →
((0≤(0:Int)∧(0:Int)<2) ∧
((((gx cap2 v.toNat).1)=d →
J2) ∧
(¬(((gx cap2 v.toNat).1)=d) →
((0≤(1:Int)∧(1:Int)<2) ∧
((((gx cap2 v.toNat).2)=d →
J2) ∧
(¬(((gx cap2 v.toNat).2)=d) →
(In64 (v+1) ∧
∃ m10,m10<m2∧I2 m10 (v+1) i v2 v3)))))))) ∧
(¬((gi v2 v.toNat)=0) →
(In64 (v+1) ∧
∃ m11,m11<m2∧I2 m11 (v+1) i v2 v3))))))) ∧
(¬(v<(cap2.length:Int)) →
ya9 i d (fun y4 =>
R y4 v2 v3)))))
def ych:Nat→Int→(List Bool)→(List (Int×Int))→(List Int)→Int→(List (List Int))→((List Bool)→(List Int)→(List (List Int))→Prop)→Prop
  | 0=>fun _ _ _ _ _ _ _=>False
  | nf+1=>fun d cap cap2 cap3 cap4 cap5 R=>ybD (ych nf) d cap cap2 cap3 cap4 cap5 R
theorem yfR{Rec:Int→(List Bool)→(List (Int×Int))→(List Int)→Int→(List (List Int))→((List Bool)→(List Int)→(List (List Int))→Prop)→Prop}(hrec:∀ {S O:Nat→Prop} {w:World} {d cap cap2 cap3 cap4 cap5 gc Aa Ab Ac gc2 Ad Ae Af gc3 Ag Ah Ai gc4 gc5 Aj Ak Al gc6} {R:(List Bool)→(List Int)→(List (List Int))→Prop} (h:Rec d cap cap2 cap3 cap4 cap5 R) (hS:Sep w S O w (rl [Res.box 94 gc [(Value.slice Aa Ab Ac)],Res.own cB 4 Aa Ab Ac cap,Res.box 62 gc2 [(Value.slice Ad Ae Af)],Res.ro (FP.sl c2 Ad Ae Af cap2),Res.box 35 gc3 [(Value.slice Ag Ah Ai)],Res.own cI 3 Ag Ah Ai cap3,Res.box 3 gc4 [(Value.int .i64 cap4)],Res.box 27 gc5 [(Value.slice Aj Ak Al)],Res.own (cL cI) 35 Aj Ak Al cap5,Res.box 95 gc6 [(Value.func (Fn.func 77) #[] #[(Value.pointer (some ⟨gc,0,none⟩)),(Value.pointer (some ⟨gc2,0,none⟩)),(Value.pointer (some ⟨gc3,0,none⟩)),(Value.pointer (some ⟨gc4,0,none⟩)),(Value.pointer (some ⟨gc5,0,none⟩)),(Value.pointer (some ⟨gc6,0,none⟩))])]])),Calls Tryz.prog 77 #[(Value.int .i64 d),(Value.pointer (some ⟨gc,0,none⟩)),(Value.pointer (some ⟨gc2,0,none⟩)),(Value.pointer (some ⟨gc3,0,none⟩)),(Value.pointer (some ⟨gc4,0,none⟩)),(Value.pointer (some ⟨gc5,0,none⟩)),(Value.pointer (some ⟨gc6,0,none⟩))] w fun e w'=>∃ z z2 z3 Az lz cz,e = .returned (Value.tuple #[])∧Sep w S O w' (rl [Res.box 94 gc [(Value.slice Aa Ab Ac)],Res.own cB 4 Aa Ab Ac z,Res.box 62 gc2 [(Value.slice Ad Ae Af)],Res.box 35 gc3 [(Value.slice Ag Ah Ai)],Res.own cI 3 Ag Ah Ai z2,Res.box 3 gc4 [(Value.int .i64 cap4)],Res.box 27 gc5 [(Value.slice Az lz cz)],Res.own (cL cI) 35 Az lz cz z3,Res.box 95 gc6 [(Value.func (Fn.func 77) #[] #[(Value.pointer (some ⟨gc,0,none⟩)),(Value.pointer (some ⟨gc2,0,none⟩)),(Value.pointer (some ⟨gc3,0,none⟩)),(Value.pointer (some ⟨gc4,0,none⟩)),(Value.pointer (some ⟨gc5,0,none⟩)),(Value.pointer (some ⟨gc6,0,none⟩))])]])∧R z z2 z3){S O:Nat→Prop}{w:World}{d cap cap2 cap3 cap4 cap5 gc Aa Ab Ac gc2 Ad Ae Af gc3 Ag Ah Ai gc4 gc5 Aj Ak Al gc6}{R:(List Bool)→(List Int)→(List (List Int))→Prop}(h:ybD Rec d cap cap2 cap3 cap4 cap5 R)(hS:Sep w S O w (rl [Res.box 94 gc [(Value.slice Aa Ab Ac)],Res.own cB 4 Aa Ab Ac cap,Res.box 62 gc2 [(Value.slice Ad Ae Af)],Res.ro (FP.sl c2 Ad Ae Af cap2),Res.box 35 gc3 [(Value.slice Ag Ah Ai)],Res.own cI 3 Ag Ah Ai cap3,Res.box 3 gc4 [(Value.int .i64 cap4)],Res.box 27 gc5 [(Value.slice Aj Ak Al)],Res.own (cL cI) 35 Aj Ak Al cap5,Res.box 95 gc6 [(Value.func (Fn.func 77) #[] #[(Value.pointer (some ⟨gc,0,none⟩)),(Value.pointer (some ⟨gc2,0,none⟩)),(Value.pointer (some ⟨gc3,0,none⟩)),(Value.pointer (some ⟨gc4,0,none⟩)),(Value.pointer (some ⟨gc5,0,none⟩)),(Value.pointer (some ⟨gc6,0,none⟩))])]])) :
    Calls Tryz.prog 77 #[(ii d),(.pointer (some ⟨gc,0,none⟩)),(.pointer (some ⟨gc2,0,none⟩)),(.pointer (some ⟨gc3,0,none⟩)),(.pointer (some ⟨gc4,0,none⟩)),(.pointer (some ⟨gc5,0,none⟩)),(.pointer (some ⟨gc6,0,none⟩))] w fun e w'=>∃ z z2 z3 Az lz cz,e = .returned (.tuple #[])∧Sep w S O w' (rl [Res.box 94 gc [(.slice Aa Ab Ac)],Res.own cB 4 Aa Ab Ac z,Res.box 62 gc2 [(.slice Ad Ae Af)],Res.box 35 gc3 [(.slice Ag Ah Ai)],Res.own cI 3 Ag Ah Ai z2,Res.box 3 gc4 [(ii cap4)],Res.box 27 gc5 [(.slice Az lz cz)],Res.own (cL cI) 35 Az lz cz z3,Res.box 95 gc6 [(.func (Fn.func 77) #[] #[(.pointer (some ⟨gc,0,none⟩)),(.pointer (some ⟨gc2,0,none⟩)),(.pointer (some ⟨gc3,0,none⟩)),(.pointer (some ⟨gc4,0,none⟩)),(.pointer (some ⟨gc5,0,none⟩)),(.pointer (some ⟨gc6,0,none⟩))])]])∧R z z2 z3:=by
  unfold ybD at h;refine yfE (l:=[(ii d),(.pointer (some ⟨gc,0,none⟩)),(.pointer (some ⟨gc2,0,none⟩)),(.pointer (some ⟨gc3,0,none⟩)),(.pointer (some ⟨gc4,0,none⟩)),(.pointer (some ⟨gc5,0,none⟩)),(.pointer (some ⟨gc6,0,none⟩))]) func77 rfl ntmps77 zY (zs (zn (ybm (v:=(ii d)) rfl ?_)));intro g w2 hN;replace hS:Sep w S O w2 (stl _ 10 (Res.box 3 g [(ii d)])):=hS.new 10 rfl hN;clear hN;refine zb (yaa (zs (zq (zl underlying94 (Row.cell (hS.bx 0 rfl) (i:=0) rfl)) (zq (zl underlying3 (Row.cell (hS.bx 10 rfl) (i:=0) rfl)) ?_))));obtain ⟨hx,h⟩:=h;refine zq (zi underlying94 ybb (yaB (hS.rdo 1 rfl) hx)) (zo (zt (.bool (true)) ybb (hS.wr 1 rfl rfl hx) ?_));intro w3 e1;replace hS:=hS.st 1 rfl rfl hx (x:=true) rfl e1;clear e1;refine zb (yaa (yac (wl_regiond (rd_q yaC rfl rfl rfl (ykf (am0) (am2 rfl rfl)) (rd_d yaC rfl rfl (v_defer (f:=78) (us:=#[(.pointer (some ⟨gc,0,none⟩)),(.pointer (some ⟨g,0,none⟩))]) (vs:=#[]) rfl am0) (rd_end (zs (zq (zl underlying62 (Row.cell (hS.bx 2 rfl) (i:=0) rfl)) (zq (yaG (n:=cap2.length) rfl underlying62 (yaD (hS.rdr 3 rfl))) (zM (ii 0) (yaa (yad ?_))))))))))));obtain ⟨I2,⟨m0,h0⟩,hr⟩:=h;refine yax (fun m E ds w'=>∃ v i v2 v3 Av lv cv,I2 m v i v2 v3∧ds=[({ target := .fn (.func 78) #[(.pointer (some ⟨gc,0,none⟩)),(.pointer (some ⟨g,0,none⟩))],args:=#[] } : Deferred)]∧E 1=(Value.pointer (some ⟨gc,0,none⟩))∧E 2=(Value.pointer (some ⟨gc2,0,none⟩))∧E 3=(Value.pointer (some ⟨gc3,0,none⟩))∧E 4=(Value.pointer (some ⟨gc4,0,none⟩))∧E 5=(Value.pointer (some ⟨gc5,0,none⟩))∧E 6=(Value.pointer (some ⟨gc6,0,none⟩))∧E 7=(Value.pointer (some ⟨g,0,none⟩))∧E 18=(Value.slice Ad Ae Af)∧E 19=(ii (cap2.length:Int))∧E 20=(ii v)∧Sep w S O w' (rl [Res.box 94 gc [(.slice Aa Ab Ac)],Res.own cB 4 Aa Ab Ac i,Res.box 62 gc2 [(.slice Ad Ae Af)],Res.ro (FP.sl c2 Ad Ae Af cap2),Res.box 35 gc3 [(.slice Ag Ah Ai)],Res.own cI 3 Ag Ah Ai v2,Res.box 3 gc4 [(ii cap4)],Res.box 27 gc5 [(.slice Av lv cv)],Res.own (cL cI) 35 Av lv cv v3,Res.box 95 gc6 [(.func (Fn.func 77) #[] #[(.pointer (some ⟨gc,0,none⟩)),(.pointer (some ⟨gc2,0,none⟩)),(.pointer (some ⟨gc3,0,none⟩)),(.pointer (some ⟨gc4,0,none⟩)),(.pointer (some ⟨gc5,0,none⟩)),(.pointer (some ⟨gc6,0,none⟩))])],Res.box 3 g [(ii d)]])) m0 ⟨_,_,_,_,_,_,_,h0,rfl,rfl,rfl,rfl,rfl,rfl,rfl,rfl,rfl,rfl,rfl,(hS.sel [0,1,2,3,4,5,6,7,8,9,10])⟩ ?_;clear h0 hS;rintro m2 E ds w4 ⟨v,i,v2,v3,Av,lv,cv,h,rfl,H1,H2,H3,H4,H5,H6,H7,H18,H19,H20,hS⟩ ag;replace h:=hr m2 v i v2 v3 h;clear hr;refine zs (zq (ydm H20 H19) (yaa (yac ?_)));by_cases hp:v<(cap2.length:Int)
  · replace h:=h.1 hp;refine zc hp (yaf (yac (yad (zs (zq (yab H20) ?_)))));obtain ⟨hx2,h⟩:=h;refine zq (ydA H18 H20 underlying62 ybk (yaB (hS.rdr 3 rfl) hx2)) (zq (yao (vs:=[(ii ((gx cap2 v.toNat).1)),(ii ((gx cap2 v.toNat).2))]) rfl underlying96 rfl ybk (yhX (hS.rdr 3 rfl) hx2 (fun q=>ycO q))) ?_);refine zn (yaS ybk ?_);intro g2 w5 hN;replace hS:Sep w S O w5 (stl _ 11 (Res.box 96 g2 [(ii 0),(ii 0)])):=hS.new 11 rfl hN;clear hN;refine zb (zQ (ii v) (zo (yaQ (b:=g2) (o:=0) (cells:=#[(ii ((gx cap2 v.toNat).1)),(ii ((gx cap2 v.toNat).2))]) rfl rfl ybk rfl rfl (yaL (hS.bx 11 rfl) zY) ?_)));intro w6 e1;replace hS:=hS.bstn 11 rfl 0 [(ii ((gx cap2 v.toNat).1)),(ii ((gx cap2 v.toNat).2))] e1;clear e1;refine zb (yaa (yac (yac ?_)));obtain ⟨J2,hJ,h⟩:=h;refine ycA (fun E ds w'=>J2∧ds=[({ target := .fn (.func 78) #[(.pointer (some ⟨gc,0,none⟩)),(.pointer (some ⟨g,0,none⟩))],args:=#[] } : Deferred)]∧E 1=(Value.pointer (some ⟨gc,0,none⟩))∧E 2=(Value.pointer (some ⟨gc2,0,none⟩))∧E 3=(Value.pointer (some ⟨gc3,0,none⟩))∧E 4=(Value.pointer (some ⟨gc4,0,none⟩))∧E 5=(Value.pointer (some ⟨gc5,0,none⟩))∧E 6=(Value.pointer (some ⟨gc6,0,none⟩))∧E 7=(Value.pointer (some ⟨g,0,none⟩))∧E 8=(ii v)∧E 9=(Value.pointer (some ⟨g2,0,none⟩))∧E 18=(Value.slice Ad Ae Af)∧E 19=(ii (cap2.length:Int))∧E 20=(ii v)∧Sep w S O w' (rl [Res.box 94 gc [(.slice Aa Ab Ac)],Res.own cB 4 Aa Ab Ac i,Res.box 62 gc2 [(.slice Ad Ae Af)],Res.ro (FP.sl c2 Ad Ae Af cap2),Res.box 35 gc3 [(.slice Ag Ah Ai)],Res.own cI 3 Ag Ah Ai v2,Res.box 3 gc4 [(ii cap4)],Res.box 27 gc5 [(.slice Av lv cv)],Res.own (cL cI) 35 Av lv cv v3,Res.box 95 gc6 [(.func (Fn.func 77) #[] #[(.pointer (some ⟨gc,0,none⟩)),(.pointer (some ⟨gc2,0,none⟩)),(.pointer (some ⟨gc3,0,none⟩)),(.pointer (some ⟨gc4,0,none⟩)),(.pointer (some ⟨gc5,0,none⟩)),(.pointer (some ⟨gc6,0,none⟩))])],Res.box 3 g [(ii d)],Res.box 96 g2 [(ii ((gx cap2 v.toNat).1)),(ii ((gx cap2 v.toNat).2))]])) ?_ ?_
    · clear h hS;rintro E ds w7 ⟨h,rfl,H1,H2,H3,H4,H5,H6,H7,H8,H9,H18,H19,H20,hS⟩;replace h:=hJ h;refine zs (zn (yaK (l:=[(0,(ii 1)),(1,(ii (-1)))]) (cells:=[(ii 1),(ii (-1))]) (bp2 rfl rfl) underlying35 yag rfl rfl ?_));intro g3 w8 hN;replace hS:=hS.litf (n:=2) 12 rfl (fI .i64) hN ([1, -1]:List Int) rfl (by decide) rfl;clear hN;refine zb (zq (yaG (n:=([1, -1]).length) rfl underlying35 (yaD (hS.rdo 12 rfl))) (zM (ii 0) (yaa (yad ?_))));obtain ⟨I3,⟨m0,h0⟩,hr⟩:=h;refine yax (fun m E ds w'=>∃ v4 i2 v5 v6 Av2 lv2 cv2,I3 m v4 i2 v5 v6∧ds=[({ target := .fn (.func 78) #[(.pointer (some ⟨gc,0,none⟩)),(.pointer (some ⟨g,0,none⟩))],args:=#[] } : Deferred)]∧E 1=(Value.pointer (some ⟨gc,0,none⟩))∧E 2=(Value.pointer (some ⟨gc2,0,none⟩))∧E 3=(Value.pointer (some ⟨gc3,0,none⟩))∧E 4=(Value.pointer (some ⟨gc4,0,none⟩))∧E 5=(Value.pointer (some ⟨gc5,0,none⟩))∧E 6=(Value.pointer (some ⟨gc6,0,none⟩))∧E 7=(Value.pointer (some ⟨g,0,none⟩))∧E 8=(ii v)∧E 9=(Value.pointer (some ⟨g2,0,none⟩))∧E 18=(Value.slice Ad Ae Af)∧E 19=(ii (cap2.length:Int))∧E 20=(ii v)∧E 42=(Value.slice (some ⟨g3,0,none⟩) 2 2)∧E 43=(ii (([1, -1]).length:Int))∧E 44=(ii v4)∧Sep w S O w' (rl [Res.box 94 gc [(.slice Aa Ab Ac)],Res.own cB 4 Aa Ab Ac i2,Res.box 62 gc2 [(.slice Ad Ae Af)],Res.ro (FP.sl c2 Ad Ae Af cap2),Res.box 35 gc3 [(.slice Ag Ah Ai)],Res.own cI 3 Ag Ah Ai v5,Res.box 3 gc4 [(ii cap4)],Res.box 27 gc5 [(.slice Av2 lv2 cv2)],Res.own (cL cI) 35 Av2 lv2 cv2 v6,Res.box 95 gc6 [(.func (Fn.func 77) #[] #[(.pointer (some ⟨gc,0,none⟩)),(.pointer (some ⟨gc2,0,none⟩)),(.pointer (some ⟨gc3,0,none⟩)),(.pointer (some ⟨gc4,0,none⟩)),(.pointer (some ⟨gc5,0,none⟩)),(.pointer (some ⟨gc6,0,none⟩))])],Res.box 3 g [(ii d)],Res.box 96 g2 [(ii ((gx cap2 v.toNat).1)),(ii ((gx cap2 v.toNat).2))],Res.own cI 3 (some ⟨g3,0,none⟩) 2 2 ([1, -1])])) m0 ⟨_,_,_,_,_,_,_,h0,rfl,H1,H2,H3,H4,H5,H6,H7,H8,H9,H18,H19,H20,rfl,rfl,rfl,(hS.sel [0,1,2,3,4,5,6,7,8,9,10,11,12])⟩ ?_;clear h0 hS;rintro m3 E ds w9 ⟨v4,i2,v5,v6,Av2,lv2,cv2,h,rfl,H1,H2,H3,H4,H5,H6,H7,H8,H9,H18,H19,H20,H42,H43,H44,hS⟩ again2;replace h:=hr m3 v4 i2 v5 v6 h;clear hr;refine zs (zq (ydm H44 H43) (yaa (yac ?_)));by_cases hp2:v4<(([1, -1]).length:Int)
      · replace h:=h.1 hp2;refine zc hp2 (yaf (yac (yad (zs ?_))));obtain ⟨hx3,h⟩:=h;refine zq (ydA H42 H44 underlying35 yag (yaB (hS.rdo 12 rfl) hx3)) (zq (yar (v:=(ii (gi ([1, -1]) v4.toNat))) rfl underlying3 rfl (rd_1 (hS.rdo 12 rfl) hx3 (fun q=>yaF q) rfl)) ?_);refine zQ (ii (gi ([1, -1]) v4.toNat)) (yaa (yac (ybq [0,1,2,3,4,5] st0 yaC (by kernel_rfl) (by kernel_rfl) ?_)));replace hS:=hS.drew;obtain ⟨hx4,h⟩:=h;refine zp (ybE H9 rfl underlying96 yag hx4) (zp (zl underlying3 (Row.cell (hS.bx 11 rfl) (i:=0) rfl)) ?_);obtain ⟨hx5,h⟩:=h;refine zp (ybE H9 rfl underlying96 yag hx5) (zp (zl underlying3 (Row.cell (hS.bx 11 rfl) (i:=1) rfl)) (zp (za (ii ((gx cap2 v.toNat).1))) (zp (za (ii ((gx cap2 v.toNat).2))) (ybH (yac (zs (zM (ii (gi ([1, -1]) v4.toNat)) (zq zL (yaa ?_)))))))));obtain ⟨J3,hJ,h⟩:=h;refine wt_cutT0 (fun E ds w'=>∃ v7 v8,J3 v7 v8∧ds=[({ target := .fn (.func 78) #[(.pointer (some ⟨gc,0,none⟩)),(.pointer (some ⟨g,0,none⟩))],args:=#[] } : Deferred)]∧E 1=(Value.pointer (some ⟨gc,0,none⟩))∧E 2=(Value.pointer (some ⟨gc2,0,none⟩))∧E 3=(Value.pointer (some ⟨gc3,0,none⟩))∧E 4=(Value.pointer (some ⟨gc4,0,none⟩))∧E 5=(Value.pointer (some ⟨gc5,0,none⟩))∧E 6=(Value.pointer (some ⟨gc6,0,none⟩))∧E 7=(Value.pointer (some ⟨g,0,none⟩))∧E 8=(ii v)∧E 9=(Value.pointer (some ⟨g2,0,none⟩))∧E 11=(ii (gi ([1, -1]) v4.toNat))∧E 12=(ii v7)∧E 13=(ii v8)∧E 18=(Value.slice Ad Ae Af)∧E 19=(ii (cap2.length:Int))∧E 20=(ii v)∧E 42=(Value.slice (some ⟨g3,0,none⟩) 2 2)∧E 43=(ii (([1, -1]).length:Int))∧E 44=(ii v4)∧Sep w S O w' (rl [Res.box 94 gc [(.slice Aa Ab Ac)],Res.own cB 4 Aa Ab Ac i2,Res.box 62 gc2 [(.slice Ad Ae Af)],Res.ro (FP.sl c2 Ad Ae Af cap2),Res.box 35 gc3 [(.slice Ag Ah Ai)],Res.own cI 3 Ag Ah Ai v5,Res.box 3 gc4 [(ii cap4)],Res.box 27 gc5 [(.slice Av2 lv2 cv2)],Res.own (cL cI) 35 Av2 lv2 cv2 v6,Res.box 95 gc6 [(.func (Fn.func 77) #[] #[(.pointer (some ⟨gc,0,none⟩)),(.pointer (some ⟨gc2,0,none⟩)),(.pointer (some ⟨gc3,0,none⟩)),(.pointer (some ⟨gc4,0,none⟩)),(.pointer (some ⟨gc5,0,none⟩)),(.pointer (some ⟨gc6,0,none⟩))])],Res.box 3 g [(ii d)],Res.box 96 g2 [(ii ((gx cap2 v.toNat).1)),(ii ((gx cap2 v.toNat).2))],Res.own cI 3 (some ⟨g3,0,none⟩) 2 2 ([1, -1])])) ?_ ?_
        · clear h hS;rintro E ds w10 ⟨v7,v8,h,rfl,H1,H2,H3,H4,H5,H6,H7,H8,H9,H11,H12,H13,H18,H19,H20,H42,H43,H44,hS⟩;replace h:=hJ v7 v8 h;refine yac (yac ?_);obtain ⟨J4,hJ,h⟩:=h;refine ycA (fun E ds w'=>J4∧ds=[({ target := .fn (.func 78) #[(.pointer (some ⟨gc,0,none⟩)),(.pointer (some ⟨g,0,none⟩))],args:=#[] } : Deferred)]∧E 1=(Value.pointer (some ⟨gc,0,none⟩))∧E 2=(Value.pointer (some ⟨gc2,0,none⟩))∧E 3=(Value.pointer (some ⟨gc3,0,none⟩))∧E 4=(Value.pointer (some ⟨gc4,0,none⟩))∧E 5=(Value.pointer (some ⟨gc5,0,none⟩))∧E 6=(Value.pointer (some ⟨gc6,0,none⟩))∧E 7=(Value.pointer (some ⟨g,0,none⟩))∧E 8=(ii v)∧E 9=(Value.pointer (some ⟨g2,0,none⟩))∧E 11=(ii (gi ([1, -1]) v4.toNat))∧E 13=(ii v8)∧E 18=(Value.slice Ad Ae Af)∧E 19=(ii (cap2.length:Int))∧E 20=(ii v)∧E 42=(Value.slice (some ⟨g3,0,none⟩) 2 2)∧E 43=(ii (([1, -1]).length:Int))∧E 44=(ii v4)∧Sep w S O w' (rl [Res.box 94 gc [(.slice Aa Ab Ac)],Res.own cB 4 Aa Ab Ac i2,Res.box 62 gc2 [(.slice Ad Ae Af)],Res.ro (FP.sl c2 Ad Ae Af cap2),Res.box 35 gc3 [(.slice Ag Ah Ai)],Res.own cI 3 Ag Ah Ai v5,Res.box 3 gc4 [(ii cap4)],Res.box 27 gc5 [(.slice Av2 lv2 cv2)],Res.own (cL cI) 35 Av2 lv2 cv2 v6,Res.box 95 gc6 [(.func (Fn.func 77) #[] #[(.pointer (some ⟨gc,0,none⟩)),(.pointer (some ⟨gc2,0,none⟩)),(.pointer (some ⟨gc3,0,none⟩)),(.pointer (some ⟨gc4,0,none⟩)),(.pointer (some ⟨gc5,0,none⟩)),(.pointer (some ⟨gc6,0,none⟩))])],Res.box 3 g [(ii d)],Res.box 96 g2 [(ii ((gx cap2 v.toNat).1)),(ii ((gx cap2 v.toNat).2))],Res.own cI 3 (some ⟨g3,0,none⟩) 2 2 ([1, -1])])) ?_ ?_
          · clear h hS;rintro E ds w11 ⟨h,rfl,H1,H2,H3,H4,H5,H6,H7,H8,H9,H11,H13,H18,H19,H20,H42,H43,H44,hS⟩;replace h:=hJ h;refine zs (zq (yar H3 underlying35 rfl (Row.cell (hS.bx 4 rfl) (i:=0) rfl)) (zq (yab H8) (zq (yab (v:=(ii (gi ([1, -1]) v4.toNat))) H11) ?_)));obtain ⟨hx6,h⟩:=h;refine zq (zi underlying35 yag (yaB (hS.rdo 5 rfl) hx6)) (zo (zt (ii (gi ([1, -1]) v4.toNat)) yag (hS.wr 5 rfl rfl hx6) ?_));intro w12 e1;replace hS:=hS.st 5 rfl rfl hx6 (x:=gi ([1, -1]) v4.toNat) rfl e1;clear e1;refine zb (yaa (yac (zs (zq (yab H13) (zq (yar H4 underlying3 rfl (Row.cell (hS.bx 6 rfl) (i:=0) rfl)) (zq zE (yaa ?_)))))));by_cases hp3:v8=cap4
            · replace h:=h.1 hp3;refine zc hp3 (ybq [0,1,2,3,4,5] (fun i=>match i with | 2=>[0] | 3=>[0] | _=>[]) yaC (by kernel_rfl) (by kernel_rfl) ?_);replace hS:=hS.drew;refine zp (yar H5 underlying27 rfl (Row.cell (hS.bx 7 rfl) (i:=0) rfl)) (zp (yar H3 underlying35 rfl (Row.cell (hS.bx 4 rfl) (i:=0) rfl)) (rp_n rfl rfl rfl rfl (yai rfl (am1 rfl) enter_79 ((ycx h (yaz _) (hS.rdo 5 rfl)).mono ?_))));rintro _ w13 ⟨r,Ar,lr,cr,rfl,hC,h⟩;replace hS:=hS.call1 (hC.widen (ycv (yaP (fI .i64) _ _ _ _ _) ycH) hS.blt) 13 0 rfl;clear hC;refine ⟨_,rfl,?_⟩;refine ⟨⟨fun hh=>zZ hh,⟨fun _=>(yar H5 underlying27 rfl (Row.cell (hS.bx 7 rfl) (i:=0) rfl)),trivial⟩⟩,?_⟩;replace hS:=hS.frz 13 rfl;refine rp_n rfl rfl rfl rfl (yaK (l:=[(0,(.slice Ar lr cr))]) (cells:=[(.slice Ar lr cr)]) (bp1 rfl) underlying27 yaJ rfl rfl ?_);intro g4 w14 hN;replace hS:=hS.lit (n:=1) (c:=(cL cI)) 14 rfl hN ([r]:List (List Int)) rfl (by decide) ⟨[(.slice Ar lr cr)],_,rfl,(ro_R (hS.ro 13 rfl)),rfl⟩;clear hN;refine ⟨⟨fun hh=>zZ hh,⟨fun _=>(yar H5 underlying27 rfl (Row.cell (hS.bx 7 rfl) (i:=0) rfl)),trivial⟩⟩,?_⟩;obtain ⟨hx7,h⟩:=h;refine rp_n rfl rfl rfl rfl (yfv (c:=(cL cI)) rfl rfl underlying27 underlying27 yaJ rfl rfl (by decide) hS 8 rfl (hS.yo 14 rfl) hx7 ?_);clear hS;intro A c w15 hS;refine zb (rp_n0 rfl rfl rfl (yg5 (v:=(.slice A (lv2+1) c)) H5 rfl rfl info_27 (hS.bwr 7 rfl (j:=0) rfl) ?_));intro w16 e1;replace hS:=hS.bst 7 rfl 0 (.slice A (lv2+1) c) e1;clear e1;refine zb (ybH (zr (zq (yar H3 underlying35 rfl (Row.cell (hS.bx 4 rfl) (i:=0) rfl)) (zq (yab H8) ?_))));obtain ⟨hx8,h⟩:=h;refine zq (zi underlying35 yag (yaB (hS.rdo 5 rfl) hx8)) (zo (zt (ii 0) yag (hS.wr 5 rfl rfl hx8) ?_));intro w17 e1;replace hS:=hS.st 5 rfl rfl hx8 (x:=0) rfl e1;clear e1;refine zb (yaa (yae (zr ?_)));obtain ⟨hi,h⟩:=h;refine zq (yb3 H44 rfl hi) (zM (ii (v4+1)) (yaa ?_));obtain ⟨mq,hlt,h⟩:=h;exact again2 mq _ _ _ ⟨_,_,_,_,_,_,_,h,rfl,H1,H2,H3,H4,H5,H6,H7,H8,H9,H18,H19,H20,H42,H43,rfl,(hS.sel [0,1,2,3,4,5,6,7,8,9,10,11,12])⟩ hlt
            · replace h:=h.2 hp3;refine zd hp3 (zs (zq (yar H1 underlying94 rfl (Row.cell (hS.bx 0 rfl) (i:=0) rfl)) (zq (yab H13) ?_)));obtain ⟨hx9,h⟩:=h;refine zq (zi underlying94 ybb (yaB (hS.rdo 1 rfl) hx9)) (zq (yar (v:=(.bool (gb i2 v8.toNat))) rfl underlying4 rfl (rd_1 (hS.rdo 1 rfl) hx9 (fun q=>yfd q) rfl)) ?_);refine zq (yds rfl) (yaa ?_);by_cases hp4:gb i2 v8.toNat=true
              · replace h:=h.1 hp4;refine yav (zC (zB hp4)) (yaf (zr (zq (yar H3 underlying35 rfl (Row.cell (hS.bx 4 rfl) (i:=0) rfl)) (zq (yab H8) ?_))));obtain ⟨hx10,h⟩:=h;refine zq (zi underlying35 yag (yaB (hS.rdo 5 rfl) hx10)) (zo (zt (ii 0) yag (hS.wr 5 rfl rfl hx10) ?_));intro w18 e1;replace hS:=hS.st 5 rfl rfl hx10 (x:=0) rfl e1;clear e1;refine zb (yaa (yae (zr ?_)));obtain ⟨hi2,h⟩:=h;refine zq (yb3 H44 rfl hi2) (zM (ii (v4+1)) (yaa ?_));obtain ⟨mq,hlt,h⟩:=h;exact again2 mq _ _ _ ⟨_,_,_,_,_,_,_,h,rfl,H1,H2,H3,H4,H5,H6,H7,H8,H9,H18,H19,H20,H42,H43,rfl,(hS.sel [0,1,2,3,4,5,6,7,8,9,10,11,12])⟩ hlt
              · replace h:=h.2 hp4;refine yaq (zC (zB (zI hp4))) (zr (zq (yar H6 underlying95 rfl (Row.cell (hS.bx 9 rfl) (i:=0) rfl)) (zq (yab H13) ?_)));have hB:=hS.lend (asc [(0,0),(1,1),(2,2),(4,3),(5,4),(6,5),(7,6),(8,7),(9,8)]) [0,1,2,3,4,5,6,7,8,9] (by decide) ⟨.inl (ya5 rfl), .inl (ya5 rfl), .inl (ya5 rfl), .inr rfl, .inl (ya5 rfl), .inl (ya5 rfl), .inl (ya5 rfl), .inl (ya5 rfl), .inl (ya5 rfl), .inl (ya5 rfl),trivial⟩;refine zn (ydt (vs:=#[(ii v8)]) (us:=#[(.pointer (some ⟨gc,0,none⟩)),(.pointer (some ⟨gc2,0,none⟩)),(.pointer (some ⟨gc3,0,none⟩)),(.pointer (some ⟨gc4,0,none⟩)),(.pointer (some ⟨gc5,0,none⟩)),(.pointer (some ⟨gc6,0,none⟩))]) rfl (am1 rfl) enter_77 ((ya4 (by simp) (hrec h hB)).mono ?_));rintro _ w19 ⟨y,y2,y3,A2,l,c4,rfl,hC,h⟩;replace hS:=hS.back (asc [(0,0),(1,1),(2,2),(4,3),(5,4),(6,5),(7,6),(8,7),(9,8)]) (ydl (by decide)) hC;clear hC hB;refine ⟨_,rfl,?_⟩;refine zb (yaa (zr (zq (yar H3 underlying35 rfl (Row.cell (hS.bx 4 rfl) (i:=0) rfl)) (zq (yab H8) ?_))));obtain ⟨hx11,h⟩:=h;refine zq (zi underlying35 yag (yaB (hS.rdo 5 rfl) hx11)) (zo (zt (ii 0) yag (hS.wr 5 rfl rfl hx11) ?_));intro w20 e1;replace hS:=hS.st 5 rfl rfl hx11 (x:=0) rfl e1;clear e1;refine zb (yaa (yae (zr ?_)));obtain ⟨hi3,h⟩:=h;refine zq (yb3 H44 rfl hi3) (zM (ii (v4+1)) (yaa ?_));obtain ⟨mq,hlt,h⟩:=h;exact again2 mq _ _ _ ⟨_,_,_,_,_,_,_,h,rfl,H1,H2,H3,H4,H5,H6,H7,H8,H9,H18,H19,H20,H42,H43,rfl,(hS.sel [0,1,2,3,4,5,6,7,8,9,10,11,12])⟩ hlt
          clear hJ;intro j3;refine zr (zq (yab H12) (zq (yar H7 underlying3 rfl (Row.cell (hS.bx 10 rfl) (i:=0) rfl)) (zq zN (zM (.bool (!(decide (v7=d)))) ?_))));by_cases hp5:v7=d
          · replace h:=h.1 hp5;refine zW rfl rfl (zC (zB (decide_eq_true hp5))) (yab H13) (zW rfl rfl (zC (zB (decide_eq_true hp5))) (yar H4 underlying3 rfl (Row.cell (hS.bx 6 rfl) (i:=0) rfl)) (zW rfl rfl (zC (zB (decide_eq_true hp5))) zL (zq (yaj (v:=(.bool (decide (v8<cap4)))) (zC (zB (decide_eq_true hp5))) rfl) (yaa ?_))));by_cases hp6:v8<cap4
            · replace h:=h.1 hp6;refine zc hp6 (yas rfl (zr ?_));obtain ⟨hi4,h⟩:=h;refine zq (yb3 H44 rfl hi4) (zM (ii (v4+1)) (yaa ?_));obtain ⟨mq,hlt,h⟩:=h;exact again2 mq _ _ _ ⟨_,_,_,_,_,_,_,h,rfl,H1,H2,H3,H4,H5,H6,H7,H8,H9,H18,H19,H20,H42,H43,rfl,(hS.sel [0,1,2,3,4,5,6,7,8,9,10,11,12])⟩ hlt
            · replace h:=h.2 hp6;exact zd hp6 (yaf (j3 _ _ _ ⟨h,rfl,H1,H2,H3,H4,H5,H6,H7,H8,H9,H11,H13,H18,H19,H20,H42,H43,H44,(hS.sel [0,1,2,3,4,5,6,7,8,9,10,11,12])⟩))
          · replace h:=h.2 hp5;refine zV rfl rfl (zC (zB (decide_eq_false hp5))) (zV rfl rfl (zC (zB (decide_eq_false hp5))) (zV rfl rfl (zC (zB (decide_eq_false hp5))) (zq (yan (v:=(.bool (true))) (zC (zB (decide_eq_false hp5))) rfl) (yaa (yaq rfl (yas rfl (zr ?_)))))));obtain ⟨hi5,h⟩:=h;refine zq (yb3 H44 rfl hi5) (zM (ii (v4+1)) (yaa ?_));obtain ⟨mq,hlt,h⟩:=h;exact again2 mq _ _ _ ⟨_,_,_,_,_,_,_,h,rfl,H1,H2,H3,H4,H5,H6,H7,H8,H9,H18,H19,H20,H42,H43,rfl,(hS.sel [0,1,2,3,4,5,6,7,8,9,10,11,12])⟩ hlt
        clear hJ;intro j2;by_cases hp7:(gi ([1, -1]) v4.toNat)<0
        · replace h:=h.1 hp7;exact zc hp7 (zr (zM (ii ((gx cap2 v.toNat).2)) (zM (ii ((gx cap2 v.toNat).1)) (zQ (ii ((gx cap2 v.toNat).2)) (zQ (ii ((gx cap2 v.toNat).1)) (yaa (j2 _ _ _ ⟨_,_,h,rfl,H1,H2,H3,H4,H5,H6,H7,H8,H9,rfl,rfl,rfl,H18,H19,H20,H42,H43,H44,(hS.sel [0,1,2,3,4,5,6,7,8,9,10,11,12])⟩)))))))
        · replace h:=h.2 hp7;exact zd hp7 (yaf (j2 _ _ _ ⟨_,_,h,rfl,H1,H2,H3,H4,H5,H6,H7,H8,H9,rfl,rfl,rfl,H18,H19,H20,H42,H43,H44,(hS.sel [0,1,2,3,4,5,6,7,8,9,10,11,12])⟩))
      · replace h:=h.2 hp2;refine zd hp2 (yas rfl (yae (zr ?_)));obtain ⟨hi6,h⟩:=h;refine zq (yb3 H20 rfl hi6) (zM (ii (v+1)) (yaa ?_));obtain ⟨mq,hlt,h⟩:=h;exact ag mq _ _ _ ⟨_,_,_,_,_,_,_,h,rfl,H1,H2,H3,H4,H5,H6,H7,H18,H19,rfl,(hS.sel [0,1,2,3,4,5,6,7,8,9,10])⟩ hlt
    clear hJ;intro j;refine zr (zq (yar H3 underlying35 rfl (Row.cell (hS.bx 4 rfl) (i:=0) rfl)) (zM (ii v) ?_));obtain ⟨hx12,h⟩:=h;refine zq (zi underlying35 yag (yaB (hS.rdo 5 rfl) hx12)) (zq (yar (v:=(ii (gi v2 v.toNat))) rfl underlying3 rfl (rd_1 (hS.rdo 5 rfl) hx12 (fun q=>yaF q) rfl)) ?_);refine zq zN (zM (.bool (!(decide ((gi v2 v.toNat)=0)))) ?_);by_cases hp8:(gi v2 v.toNat)=0
    · replace h:=h.1 hp8;obtain ⟨hx13,h⟩:=h;refine zW rfl rfl (zC (zB (decide_eq_true hp8))) (ybE rfl rfl underlying96 yag hx13) (zW rfl rfl (zC (zB (decide_eq_true hp8))) (zl underlying3 (Row.cell (hS.bx 11 rfl) (i:=0) rfl)) (zW rfl rfl (zC (zB (decide_eq_true hp8))) (yar H7 underlying3 rfl (Row.cell (hS.bx 10 rfl) (i:=0) rfl)) (zW rfl rfl (zC (zB (decide_eq_true hp8))) zN (zW rfl rfl (zC (zB (decide_eq_true hp8))) (zm (.bool (!(decide (((gx cap2 v.toNat).1)=d))))) ?_))));by_cases hp9:((gx cap2 v.toNat).1)=d
      · replace h:=h.1 hp9;exact zV rfl rfl (zC (zB (decide_eq_true hp9))) (zV rfl rfl (zC (zB (decide_eq_true hp9))) (zV rfl rfl (zC (zB (decide_eq_true hp9))) (zV rfl rfl (zC (zB (decide_eq_true hp9))) (zW rfl rfl (zC (zB (decide_eq_true hp8))) (yaj (v:=(.bool (false))) (zC (zB (decide_eq_true hp9))) rfl) (zq (yaj (v:=(.bool (false))) (zC (zB (decide_eq_true hp8))) rfl) (yaa (yav rfl (yaf (j _ _ _ ⟨h,rfl,H1,H2,H3,H4,H5,H6,H7,rfl,rfl,H18,H19,H20,(hS.sel [0,1,2,3,4,5,6,7,8,9,10,11])⟩)))))))))
      · replace h:=h.2 hp9;obtain ⟨hx14,h⟩:=h;refine zW rfl rfl (zC (zB (decide_eq_false hp9))) (ybE rfl rfl underlying96 yag hx14) (zW rfl rfl (zC (zB (decide_eq_false hp9))) (zl underlying3 (Row.cell (hS.bx 11 rfl) (i:=1) rfl)) (zW rfl rfl (zC (zB (decide_eq_false hp9))) (yar H7 underlying3 rfl (Row.cell (hS.bx 10 rfl) (i:=0) rfl)) (zW rfl rfl (zC (zB (decide_eq_false hp9))) zN (zW rfl rfl (zC (zB (decide_eq_true hp8))) (yan (v:=(.bool (!(decide (((gx cap2 v.toNat).2)=d))))) (zC (zB (decide_eq_false hp9))) rfl) (zq (yaj (v:=(.bool (!(decide (((gx cap2 v.toNat).2)=d))))) (zC (zB (decide_eq_true hp8))) rfl) (yaa ?_))))));by_cases hp10:((gx cap2 v.toNat).2)=d
        · replace h:=h.1 hp10;exact ze hp10 (yaf (j _ _ _ ⟨h,rfl,H1,H2,H3,H4,H5,H6,H7,rfl,rfl,H18,H19,H20,(hS.sel [0,1,2,3,4,5,6,7,8,9,10,11])⟩))
        · replace h:=h.2 hp10;refine zf hp10 (yas rfl (zr ?_));obtain ⟨hi7,h⟩:=h;refine zq (yb3 H20 rfl hi7) (zM (ii (v+1)) (yaa ?_));obtain ⟨mq,hlt,h⟩:=h;exact ag mq _ _ _ ⟨_,_,_,_,_,_,_,h,rfl,H1,H2,H3,H4,H5,H6,H7,H18,H19,rfl,(hS.sel [0,1,2,3,4,5,6,7,8,9,10])⟩ hlt
    · replace h:=h.2 hp8;refine zV rfl rfl (zC (zB (decide_eq_false hp8))) (zV rfl rfl (zC (zB (decide_eq_false hp8))) (zV rfl rfl (zC (zB (decide_eq_false hp8))) (zV rfl rfl (zC (zB (decide_eq_false hp8))) (zV rfl rfl (zC (zB (decide_eq_false hp8))) (zX (zX (zX (zX (zV rfl rfl (zC (zB (decide_eq_false hp8))) (zq (yan (v:=(.bool (true))) (zC (zB (decide_eq_false hp8))) rfl) (yaa (yaq rfl (yas rfl (zr ?_))))))))))))));obtain ⟨hi8,h⟩:=h;refine zq (yb3 H20 rfl hi8) (zM (ii (v+1)) (yaa ?_));obtain ⟨mq,hlt,h⟩:=h;exact ag mq _ _ _ ⟨_,_,_,_,_,_,_,h,rfl,H1,H2,H3,H4,H5,H6,H7,H18,H19,rfl,(hS.sel [0,1,2,3,4,5,6,7,8,9,10])⟩ hlt
  · replace h:=h.2 hp;refine zd hp (yas rfl ?_);have hB:=hS.lend (asc [(0,0),(1,1),(10,2)]) [0,1,10] (by decide) ⟨.inl (ya5 rfl), .inl (ya5 rfl), .inl (ya5 rfl),trivial⟩;refine wt_end0z [(.pointer (some ⟨gc,0,none⟩)),(.pointer (some ⟨g,0,none⟩))] rfl enter_78 rfl (yfi h hB) ?_;rintro _ w21 ⟨y4,rfl,hC,h⟩;replace hS:=hS.back (asc [(0,0),(1,1),(10,2)]) (ydl (by decide)) hC;clear hC hB;refine ⟨⟨_,rfl⟩,?_⟩;exact ⟨_,_,_,_,_,_,rfl,(hS.sel [0,1,2,4,5,6,7,8,9]),h⟩
theorem yge{nf} : ∀ {S O:Nat→Prop} {w:World} {d cap cap2 cap3 cap4 cap5 gc Aa Ab Ac gc2 Ad Ae Af gc3 Ag Ah Ai gc4 gc5 Aj Ak Al gc6} {R:(List Bool)→(List Int)→(List (List Int))→Prop} (h:ych nf d cap cap2 cap3 cap4 cap5 R) (hS:Sep w S O w (rl [Res.box 94 gc [(Value.slice Aa Ab Ac)],Res.own cB 4 Aa Ab Ac cap,Res.box 62 gc2 [(Value.slice Ad Ae Af)],Res.ro (FP.sl c2 Ad Ae Af cap2),Res.box 35 gc3 [(Value.slice Ag Ah Ai)],Res.own cI 3 Ag Ah Ai cap3,Res.box 3 gc4 [(Value.int .i64 cap4)],Res.box 27 gc5 [(Value.slice Aj Ak Al)],Res.own (cL cI) 35 Aj Ak Al cap5,Res.box 95 gc6 [(Value.func (Fn.func 77) #[] #[(Value.pointer (some ⟨gc,0,none⟩)),(Value.pointer (some ⟨gc2,0,none⟩)),(Value.pointer (some ⟨gc3,0,none⟩)),(Value.pointer (some ⟨gc4,0,none⟩)),(Value.pointer (some ⟨gc5,0,none⟩)),(Value.pointer (some ⟨gc6,0,none⟩))])]])),Calls Tryz.prog 77 #[(Value.int .i64 d),(Value.pointer (some ⟨gc,0,none⟩)),(Value.pointer (some ⟨gc2,0,none⟩)),(Value.pointer (some ⟨gc3,0,none⟩)),(Value.pointer (some ⟨gc4,0,none⟩)),(Value.pointer (some ⟨gc5,0,none⟩)),(Value.pointer (some ⟨gc6,0,none⟩))] w fun e w'=>∃ z z2 z3 Az lz cz,e = .returned (Value.tuple #[])∧Sep w S O w' (rl [Res.box 94 gc [(Value.slice Aa Ab Ac)],Res.own cB 4 Aa Ab Ac z,Res.box 62 gc2 [(Value.slice Ad Ae Af)],Res.box 35 gc3 [(Value.slice Ag Ah Ai)],Res.own cI 3 Ag Ah Ai z2,Res.box 3 gc4 [(Value.int .i64 cap4)],Res.box 27 gc5 [(Value.slice Az lz cz)],Res.own (cL cI) 35 Az lz cz z3,Res.box 95 gc6 [(Value.func (Fn.func 77) #[] #[(Value.pointer (some ⟨gc,0,none⟩)),(Value.pointer (some ⟨gc2,0,none⟩)),(Value.pointer (some ⟨gc3,0,none⟩)),(Value.pointer (some ⟨gc4,0,none⟩)),(Value.pointer (some ⟨gc5,0,none⟩)),(Value.pointer (some ⟨gc6,0,none⟩))])]])∧R z z2 z3:=by
  induction nf with
  | zero=>intros;rename_i h _;exact h.elim
  | succ nf ih=>intro S O w d cap cap2 cap3 cap4 cap5 gc Aa Ab Ac gc2 Ad Ae Af gc3 Ag Ah Ai gc4 gc5 Aj Ak Al gc6 R h hS;exact yfR ih h hS
def yaO(s1:List Int)(s2:List Int)(R:Bool→Prop):Prop :=
(((s1.length:Int)=(s2.length:Int) →
(∃ I2:Nat→Int→Prop,(∃ m0,I2 m0 0)∧∀ m2 v,I2 m2 v → 
((v<(s1.length:Int) →
((0≤v∧v<(s1.length:Int)) ∧
((0≤v∧v<(s2.length:Int)) ∧
(((gi s1 v.toNat)=(gi s2 v.toNat) →
(In64 (v+1) ∧
∃ m3,m3<m2∧I2 m3 (v+1))) ∧
(¬((gi s1 v.toNat)=(gi s2 v.toNat)) →
R false))))) ∧
(¬(v<(s1.length:Int)) →
R true)))) ∧
(¬((s1.length:Int)=(s2.length:Int)) →
R false))
theorem yb8{O:Nat→Prop}{w:World}{s1 s2 As1 ls1 cs1 As2 ls2 cs2}{R:Bool→Prop}(h:yaO s1 s2 R)(hO:∀ k,O k→k<w.heap.size)(hA0:(FP.sl cI As1 ls1 cs1 s1).P O w)(hA1:(FP.sl cI As2 ls2 cs2 s2).P O w) :
    Calls Tryz.prog 31 #[(.slice As1 ls1 cs1),(.slice As2 ls2 cs2)] w fun e w'=>∃ r,e = .returned (.bool (r))∧Sep w no O w' (rl [])∧R r:=by
  unfold yaO at h;have hS:Sep w no O w (rl [Res.ro (FP.sl cI As1 ls1 cs1 s1),Res.ro (FP.sl cI As2 ls2 cs2 s2)]):=Sep.startl hO [(FP.sl cI As1 ls1 cs1 s1),(FP.sl cI As2 ls2 cs2 s2)] ⟨hA0,hA1,trivial⟩;refine yal (l:=[(.slice As1 ls1 cs1),(.slice As2 ls2 cs2)]) func31 rfl ntmps31 zY (zs (zQ (.bool (false)) (yaa (yac (zs (zM (.slice As1 ls1 cs1) (zq (yaG (n:=s1.length) rfl underlying35 (yaD (hS.rdr 0 rfl))) (zM (.slice As2 ls2 cs2) (zq (yaG (n:=s2.length) rfl underlying35 (yaD (hS.rdr 1 rfl))) (zq zN (yaa ?_)))))))))));by_cases hp:(s1.length:Int)=(s2.length:Int)
  · replace h:=h.1 hp;refine ze hp (yaf (yac (zs (zM (.slice As1 ls1 cs1) (zq (yaG (n:=s1.length) rfl underlying35 (yaD (hS.rdr 0 rfl))) (zM (ii 0) (yaa (yad ?_))))))));obtain ⟨I2,⟨m0,h0⟩,hr⟩:=h;refine yax (fun m E ds w'=>∃ v,I2 m v∧ds=[]∧E 0=(Value.slice As1 ls1 cs1)∧E 1=(Value.slice As2 ls2 cs2)∧E 12=(ii (s1.length:Int))∧E 13=(ii v)∧Sep w no O w' (rl [Res.ro (FP.sl cI As1 ls1 cs1 s1),Res.ro (FP.sl cI As2 ls2 cs2 s2)])) m0 ⟨_,h0,rfl,rfl,rfl,rfl,rfl,(hS.sel [0,1])⟩ ?_;clear h0 hS;rintro m2 E ds w2 ⟨v,h,rfl,H0,H1,H12,H13,hS⟩ ag;replace h:=hr m2 v h;clear hr;refine zs (zq (ydm H13 H12) (yaa (yac ?_)));by_cases hp2:v<(s1.length:Int)
    · replace h:=h.1 hp2;refine zc hp2 (yaf (yac (yad (zs (zq (yab H13) (zQ (ii v) (yaa (yac (ybq [0,1,2,3,4,5,6,7,8] st0 yaC (by kernel_rfl) (by kernel_rfl) ?_)))))))));replace hS:=hS.drew;refine zp (yab H0) (zp (zm (ii v)) ?_);obtain ⟨hx,h⟩:=h;refine zp (zi underlying35 yag (yaB (hS.rdr 0 rfl) hx)) (zp (yar (v:=(ii (gi s1 v.toNat))) rfl underlying3 rfl (rd_1 (hS.rdr 0 rfl) hx (fun q=>yaF q) rfl)) ?_);refine zp (yab H1) (zp (zm (ii v)) ?_);obtain ⟨hx2,h⟩:=h;refine zp (zi underlying35 yag (yaB (hS.rdr 1 rfl) hx2)) (zp (yar (v:=(ii (gi s2 v.toNat))) rfl underlying3 rfl (rd_1 (hS.rdr 1 rfl) hx2 (fun q=>yaF q) rfl)) ?_);refine zp zN (ybH ?_);by_cases hp3:(gi s1 v.toNat)=(gi s2 v.toNat)
      · replace h:=h.1 hp3;refine ze hp3 (yaf (yae (zr ?_)));obtain ⟨hi,h⟩:=h;refine zq (yb3 H13 rfl hi) (zM (ii (v+1)) (yaa ?_));obtain ⟨mq,hlt,h⟩:=h;exact ag mq _ _ _ ⟨_,h,rfl,H0,H1,H12,rfl,(hS.sel [0,1])⟩ hlt
      · replace h:=h.2 hp3;exact zf hp3 (zs (zQ (.bool (false)) (yaa (yah rfl rfl ⟨_,rfl,(hS.sel []),h⟩))))
    · replace h:=h.2 hp2;exact zd hp2 (yas rfl (zs (zQ (.bool (true)) (yaa (yah rfl rfl ⟨_,rfl,(hS.sel []),h⟩)))))
  · replace h:=h.2 hp;exact zf hp (zs (zQ (.bool (false)) (yaa (yah rfl rfl ⟨_,rfl,(hS.sel []),h⟩))))
def yba(ends:List (Int×Int))(n:Int)(R:(List (List Int))→Prop):Prop :=
(∃ I2:Nat→Int→(List (List Int))→Prop,(∃ m0,I2 m0 0 ([]))∧∀ m2 v out,I2 m2 v out → 
((v<n →
((0≤(ends.length:Int)∧(ends.length:Int)≤1000000) ∧
((0≤n∧n≤1000000) ∧
(∃ fu,ych fu v (List.replicate n.toNat false) ends (List.replicate (ends.length:Int).toNat (0:Int)) v out (fun y y2 y3 =>
(In64 (v+1) ∧
∃ m3,m3<m2∧I2 m3 (v+1) y3)))))) ∧
(¬(v<n) →
ydr out (fun y4 =>
yaY y4 (fun x x2 R=>yaO x x2 R) (fun r =>
R r)))))
theorem yei{O:Nat→Prop}{w:World}{ends n Aa Ab Ac}{R:(List (List Int))→Prop}(h:yba ends n R)(hO:∀ k,O k→k<w.heap.size)(hA0:(FP.sl c2 Aa Ab Ac ends).P O w) :
    Calls Tryz.prog 40 #[(.slice Aa Ab Ac),(ii n)] w fun e w'=>∃ r2 Ar2 lr2 cr2,e = .returned (.slice Ar2 lr2 cr2)∧Sep w no O w' (rl [Res.ro (FP.sl (cL cI) Ar2 lr2 cr2 r2)])∧R r2:=by
  unfold yba at h;have hS:Sep w no O w (rl [Res.ro (FP.sl c2 Aa Ab Ac ends)]):=Sep.startl hO [(FP.sl c2 Aa Ab Ac ends)] ⟨hA0,trivial⟩;refine yal (l:=[(.slice Aa Ab Ac),(ii n)]) func40 rfl ntmps40 zY (zs (zn (ybm (v:=(.slice Aa Ab Ac)) rfl ?_)));intro g w2 hN;replace hS:Sep w no O w2 (stl _ 1 (Res.box 62 g [(.slice Aa Ab Ac)])):=hS.new 1 rfl hN;clear hN;refine zb (zQ (.slice none 0 0) (yaa (zs (zn (yaS info_27 ?_)))));intro g2 w3 hN;replace hS:Sep w no O w3 (stl _ 2 (Res.box 27 g2 [(.slice none 0 0)])):=hS.new 2 rfl hN;clear hN;refine zb (yaa (yac (zs (zM (ii n) (zM (ii 0) (yaa (yad ?_)))))));replace hS:=hS.nil 3 rfl (cL cI) 35;obtain ⟨I2,⟨m0,h0⟩,hr⟩:=h;refine yax (fun m E ds w'=>∃ v out Ad Ae Af,I2 m v out∧ds=[]∧E 1=(ii n)∧E 2=(Value.pointer (some ⟨g,0,none⟩))∧E 5=(Value.pointer (some ⟨g2,0,none⟩))∧E 10=(ii n)∧E 11=(ii v)∧Sep w no O w' (rl [Res.box 62 g [(.slice Aa Ab Ac)],Res.ro (FP.sl c2 Aa Ab Ac ends),Res.box 27 g2 [(.slice Ad Ae Af)],Res.own (cL cI) 35 Ad Ae Af out])) m0 ⟨_,_,_,_,_,h0,rfl,rfl,rfl,rfl,rfl,rfl,(hS.sel [1,0,2,3])⟩ ?_;clear h0 hS;rintro m2 E ds w4 ⟨v,out,Ad,Ae,Af,h,rfl,H1,H2,H5,H10,H11,hS⟩ ag;replace h:=hr m2 v out h;clear hr;refine zs (zq (ydm H11 H10) (yaa (yac ?_)));by_cases hp:v<n
  · replace h:=h.1 hp;refine zc hp (yaf (yac (yad (zs (zq (yab H11) (zn (yaS yag ?_)))))));intro g3 w5 hN;replace hS:Sep w no O w5 (stl _ 4 (Res.box 3 g3 [(ii 0)])):=hS.new 4 rfl hN;clear hN;refine zb (zo (zt (ii v) yag (hS.bwr 4 rfl (j:=0) rfl) ?_));intro w6 e1;replace hS:=hS.bst 4 rfl 0 (ii v) e1;clear e1;refine zb (yaa (zs (zq (yar H2 underlying62 rfl (Row.cell (hS.bx 0 rfl) (i:=0) rfl)) (zq (yaG (n:=ends.length) rfl underlying62 (yaD (hS.rdr 1 rfl))) ?_))));obtain ⟨hx,h⟩:=h;refine zn (yeX rfl rfl underlying35 yag (by decide) rfl hx ?_);intro g4 w7 hN;replace hS:=hS.made 5 rfl cI (ii 0) (0:Int) (fun _ _=>rfl) hN (by omega);clear hN;refine zb (zn (yaS yaJ ?_));intro g5 w8 hN;replace hS:Sep w no O w8 (stl _ 6 (Res.box 35 g5 [(.slice none 0 0)])):=hS.new 6 rfl hN;clear hN;refine zb (zo (zt (.slice (some ⟨g4,0,none⟩) ((ends.length:Int).toNat) ((ends.length:Int).toNat)) yaJ (hS.bwr 6 rfl (j:=0) rfl) ?_));intro w9 e1;replace hS:=hS.bst 6 rfl 0 (.slice (some ⟨g4,0,none⟩) ((ends.length:Int).toNat) ((ends.length:Int).toNat)) e1;clear e1;refine zb (yaa (zs (zq (yab H1) ?_)));obtain ⟨hx2,h⟩:=h;refine zn (yeX rfl rfl underlying94 ybb (by decide) rfl hx2 ?_);intro g6 w10 hN;replace hS:=hS.made 7 rfl cB (.bool (false)) false (fun _ _=>rfl) hN (by omega);clear hN;refine zb (zn (yaS info_94 ?_));intro g7 w11 hN;replace hS:Sep w no O w11 (stl _ 8 (Res.box 94 g7 [(.slice none 0 0)])):=hS.new 8 rfl hN;clear hN;refine zb (zo (zt (.slice (some ⟨g6,0,none⟩) n.toNat n.toNat) info_94 (hS.bwr 8 rfl (j:=0) rfl) ?_));intro w12 e1;replace hS:=hS.bst 8 rfl 0 (.slice (some ⟨g6,0,none⟩) n.toNat n.toNat) e1;clear e1;refine zb (yaa (zs (zn (yaS info_95 ?_))));intro g8 w13 hN;replace hS:Sep w no O w13 (stl _ 9 (Res.box 95 g8 [Value.nilFunc])):=hS.new 9 rfl hN;clear hN;refine zb (yaa (zs (zq (ykf (am0) (am6 rfl H2 rfl rfl H5 rfl)) (zo (zt (.func (Fn.func 77) #[] #[(.pointer (some ⟨g7,0,none⟩)),(.pointer (some ⟨g,0,none⟩)),(.pointer (some ⟨g5,0,none⟩)),(.pointer (some ⟨g3,0,none⟩)),(.pointer (some ⟨g2,0,none⟩)),(.pointer (some ⟨g8,0,none⟩))]) info_95 (hS.bwr 9 rfl (j:=0) rfl) ?_)))));intro w14 e1;replace hS:=hS.bst 9 rfl 0 (.func (Fn.func 77) #[] #[(.pointer (some ⟨g7,0,none⟩)),(.pointer (some ⟨g,0,none⟩)),(.pointer (some ⟨g5,0,none⟩)),(.pointer (some ⟨g3,0,none⟩)),(.pointer (some ⟨g2,0,none⟩)),(.pointer (some ⟨g8,0,none⟩))]) e1;clear e1;refine zb (yaa (zr (zq (zl underlying95 (Row.cell (hS.bx 9 rfl) (i:=0) rfl)) (zq (zl underlying3 (Row.cell (hS.bx 4 rfl) (i:=0) rfl)) ?_))));obtain ⟨fu,h⟩:=h;have hB:=hS.lend (asc [(8,0),(7,1),(0,2),(6,3),(5,4),(4,5),(2,6),(3,7),(9,8)]) [8,7,0,1,6,5,4,2,3,9] (by decide) ⟨.inl (ya5 rfl), .inl (ya5 rfl), .inl (ya5 rfl), .inr rfl, .inl (ya5 rfl), .inl (ya5 rfl), .inl (ya5 rfl), .inl (ya5 rfl), .inl (ya5 rfl), .inl (ya5 rfl),trivial⟩;refine zn (ydt (vs:=#[(ii v)]) (us:=#[(.pointer (some ⟨g7,0,none⟩)),(.pointer (some ⟨g,0,none⟩)),(.pointer (some ⟨g5,0,none⟩)),(.pointer (some ⟨g3,0,none⟩)),(.pointer (some ⟨g2,0,none⟩)),(.pointer (some ⟨g8,0,none⟩))]) rfl (am1 rfl) enter_77 ((ya4 (by simp) (yge h hB)).mono ?_));rintro _ w15 ⟨y,y2,y3,A,l,c,rfl,hC,h⟩;replace hS:=hS.back (asc [(8,0),(7,1),(0,2),(6,3),(5,4),(4,5),(2,6),(3,7),(9,8)]) (ydl (by decide)) hC;clear hC hB;refine ⟨_,rfl,?_⟩;refine zb (yaa (yae (zr ?_)));obtain ⟨hi,h⟩:=h;refine zq (yb3 H11 rfl hi) (zM (ii (v+1)) (yaa ?_));obtain ⟨mq,hlt,h⟩:=h;exact ag mq _ _ _ ⟨_,_,_,_,_,h,rfl,H1,H2,H5,H10,rfl,(hS.sel [0,1,2,3])⟩ hlt
  · replace h:=h.2 hp;refine zd hp (yas rfl (zs (zq (yar H5 underlying27 rfl (Row.cell (hS.bx 2 rfl) (i:=0) rfl)) ?_)));have hB:=hS.lend (asc [(3,0)]) [3] (by decide) ⟨.inl (ya5 rfl),trivial⟩;refine zn (ydt (vs:=#[(.slice Ad Ae Af),(.func (Fn.func 47) #[] #[])]) (us:=#[]) rfl (am2 rfl rfl) enter_46 ((ya4 (by simp) (yeH h hB)).mono ?_));rintro _ w16 ⟨y4,rfl,hC,h⟩;replace hS:=hS.back (asc [(3,0)]) (ydl (by decide)) hC;clear hC hB;refine ⟨_,rfl,?_⟩;refine zb (yaa (zs (zq (yar H5 underlying27 rfl (Row.cell (hS.bx 2 rfl) (i:=0) rfl)) ?_)));replace hS:=hS.frz 3 rfl;refine zn (yai rfl (am2 rfl rfl) enter_80 ((ydZ h hS.blt (hS.ro 3 rfl) (fun w' hk=>⟨31,#[],rfl,ykc,fun x x2 Ax lx cx Ax2 lx2 cx2 R hF hz0 hz1=>ya4 (by simp) (yb8 hF (yaz _) hz0 hz1)⟩)).mono ?_));rintro _ w17 ⟨r,Ar,lr,cr,rfl,hC,h⟩;replace hS:=hS.call1 hC 4 0 rfl;clear hC;refine ⟨_,rfl,?_⟩;exact zb (zQ (.slice Ar lr cr) (yaa (yah rfl rfl ⟨_,_,_,_,rfl,(hS.sel [4]),h⟩)))
def yb7(g:Int)(g2:List E3)(R:(List (List Int))→Int→Prop):Prop :=
yco g g2 (fun r r2 =>
((r2=0 →
yba r g (fun r3 =>
R r3 0)) ∧
(¬(r2=0) →
R ([]) r2)))
theorem yem{O:Nat→Prop}{w:World}{g g2 Ag lg cg}{R:(List (List Int))→Int→Prop}(h:yb7 g g2 R)(hO:∀ k,O k→k<w.heap.size)(hA0:(FP.sl c3 Ag lg cg g2).P O w) :
    Calls Tryz.prog 10 #[(.agg #[(ii g),(.slice Ag lg cg)])] w fun e w'=>∃ r4 r5 Ar3 lr3 cr3,e = .returned (.tuple #[(.slice Ar3 lr3 cr3),(ii r5)])∧Sep w no O w' (rl [Res.ro (FP.sl (cL cI) Ar3 lr3 cr3 r4)])∧R r4 r5:=by
  unfold yb7 at h;have hS:Sep w no O w (rl [Res.ro (FP.sl c3 Ag lg cg g2)]):=Sep.startl hO [(FP.sl c3 Ag lg cg g2)] ⟨hA0,trivial⟩;refine yal (l:=[(.agg #[(ii g),(.slice Ag lg cg)])]) func10 rfl ntmps10 zY (zs (zn (ybm (v:=(.agg #[(ii g),(.slice Ag lg cg)])) rfl ?_)));intro g3 w2 hN;replace hS:Sep w no O w2 (stl _ 1 (Res.box 24 g3 [(ii g),(.slice Ag lg cg)])):=hS.new 1 rfl hN;clear hN;refine zb (zQ (.slice none 0 0) (zQ (ii 0) (yaa (zs (zq (yao (vs:=[(ii g),(.slice Ag lg cg)]) rfl underlying24 rfl yak ⟨Row.cell (hS.bx 1 rfl) (i:=0) rfl,Row.cell (hS.bx 1 rfl) (i:=1) rfl,trivial⟩) (zn (yai rfl (am1 rfl) enter_39 ((yeQ h (yaz _) (hS.rdr 0 rfl)).mono ?_))))))));rintro _ w3 ⟨r,r2,Ar,lr,cr,rfl,hC,h⟩;replace hS:=hS.call1 (hC.widen (ycv (yaP (fP (fI .i64) (fI .i64)) _ _ _ _ _) ycH) hS.blt) 2 0 rfl;clear hC;refine ⟨_,rfl,?_⟩;refine zb (zM (.tuple #[(.slice Ar lr cr),(ii r2)]) (zq (zx (.slice Ar lr cr)) (zq (zx (ii r2)) (zQ (.slice Ar lr cr) (zQ (ii r2) (yaa (yac (zs (zM (ii r2) (zq zN (yaa ?_)))))))))));by_cases hp:r2=0
  · replace h:=h.1 hp;refine ze hp (yaf (zs (zM (.slice Ar lr cr) (zq (yam rfl underlying24 rfl yag) (zq (zl underlying3 (Row.cell (hS.bx 1 rfl) (i:=0) rfl)) ?_)))));replace hS:=hS.frz 2 rfl;refine zn (yai rfl (am2 rfl rfl) enter_40 ((yei h hS.blt (hS.ro 2 rfl)).mono ?_));rintro _ w4 ⟨r3,Ar2,lr2,cr2,rfl,hC,h⟩;replace hS:=hS.call1 hC 3 0 rfl;clear hC;refine ⟨_,rfl,?_⟩;exact zb (zQ (.slice Ar2 lr2 cr2) (zQ (ii 0) (yaa (ya7 rfl rfl rfl ⟨_,_,_,_,_,rfl,(hS.sel [3]),h⟩))))
  · replace h:=h.2 hp;refine zf hp (zs (zM (ii r2) (zQ (.slice none 0 0) (zQ (ii r2) (yaa ?_)))));replace hS:=hS.addro 3 rfl _ (yeK (cL cI) _ _);exact ya7 rfl rfl rfl ⟨_,_,_,_,_,rfl,(hS.sel [3]),h⟩
def ydx(n:Int)(R:Bool→Prop):Prop :=
(((-1048576)≤n →
R (decide (n≤1048576))) ∧
(¬((-1048576)≤n) →
R false))
theorem ygW{O:Nat→Prop}{w:World}{n}{R:Bool→Prop}(h:ydx n R)(hO:∀ k,O k→k<w.heap.size) :
    Calls Tryz.prog 152 #[(ii n)] w fun e w'=>∃ r,e = .returned (.bool (r))∧Sep w no O w' (rl [])∧R r:=by
  unfold ydx at h;have hS:Sep w no O w (rl []):=Sep.start w hO;refine yal (l:=[(ii n)]) func152 rfl ntmps152 zY (zs (zQ (.bool (false)) (yaa (zs (zM (ii n) (zq (yiq rfl rfl) (zM (.bool (decide ((-1048576)≤n))) ?_)))))));by_cases hp:(-1048576)≤n
  · replace h:=h.1 hp;exact zW rfl rfl (zT hp) (zm (ii n)) (zW rfl rfl (zT hp) (v_leq rfl rfl) (zq (yan (v:=(.bool (decide (n≤1048576)))) (zT hp) rfl) (zQ (.bool (decide (n≤1048576))) (yaa (yah rfl rfl ⟨_,rfl,(hS.sel []),h⟩)))))
  · replace h:=h.2 hp;exact zV rfl rfl (zF hp) (zV rfl rfl (zF hp) (zq (yaj (v:=(.bool (false))) (zF hp) rfl) (zQ (.bool (false)) (yaa (yah rfl rfl ⟨_,rfl,(hS.sel []),h⟩)))))
def yc4(n:Int)(R:Bool→Prop):Prop :=
ydx n (fun r =>
R (!(r)))
theorem ygf{O:Nat→Prop}{w:World}{n}{R:Bool→Prop}(h:yc4 n R)(hO:∀ k,O k→k<w.heap.size) :
    Calls Tryz.prog 151 #[(ii n)] w fun e w'=>∃ r2,e = .returned (.bool (r2))∧Sep w no O w' (rl [])∧R r2:=by
  unfold yc4 at h;have hS:Sep w no O w (rl []):=Sep.start w hO;refine yal (l:=[(ii n)]) func151 rfl ntmps151 zY (zs (zQ (.bool (false)) (yaa (zs (zM (ii n) (zn (yai rfl (am1 rfl) enter_152 ((ygW h (yaz _)).mono ?_))))))));rintro _ w2 ⟨r,rfl,hC,h⟩;replace hS:=hS.pur hC.pure;clear hC;refine ⟨_,rfl,?_⟩;exact zb (zq (yds rfl) (zQ (.bool (!(r))) (yaa (yah rfl rfl ⟨_,rfl,(hS.sel []),h⟩))))
def ybG(l:List Int)(R:Int→Prop):Prop :=
yaR l (fun x R=>yc4 x R) (fun r =>
((r=true →
R 2) ∧
(¬(r=true) →
R 0)))
theorem yeD{O:Nat→Prop}{w:World}{l Al ll cl}{R:Int→Prop}(h:ybG l R)(hO:∀ k,O k→k<w.heap.size)(hA0:(FP.sl cI Al ll cl l).P O w) :
    Calls Tryz.prog 123 #[(.slice Al ll cl)] w fun e w'=>∃ r2,e = .returned (ii r2)∧Sep w no O w' (rl [])∧R r2:=by
  unfold ybG at h;have hS:Sep w no O w (rl [Res.ro (FP.sl cI Al ll cl l)]):=Sep.startl hO [(FP.sl cI Al ll cl l)] ⟨hA0,trivial⟩;refine yal (l:=[(.slice Al ll cl)]) func123 rfl ntmps123 zY (zs (zQ (ii 0) (yaa (yac (zs (zM (.slice Al ll cl) (zn (yai rfl (am2 rfl rfl) ykb ((ycs h (yaz _) (hS.rdr 0 rfl) (fun w' hk=>⟨151,#[],rfl,enter_151,fun x R hF=>ya4 (by simp) (ygf hF (yaz _))⟩)).mono ?_)))))))));rintro _ w2 ⟨r,rfl,hC,h⟩;replace hS:=hS.pur hC.pure;clear hC;refine ⟨_,rfl,?_⟩;refine zb (yaa ?_);by_cases hp:r=true
  · replace h:=h.1 hp;exact yaq (zC hp) (zs (zQ (ii 2) (yaa (yah rfl rfl ⟨_,rfl,(hS.sel []),h⟩))))
  · replace h:=h.2 hp;exact yav (zC (zI hp)) (yaf (zs (zQ (ii 0) (yaa (yah rfl rfl ⟨_,rfl,(hS.sel []),h⟩)))))
def ybK(l:List (Int×Int))(Ff:Int→Int→(Int→Prop)→Prop)(R:(List Int)→Prop):Prop :=
((0≤(l.length:Int)∧(l.length:Int)≤1000000) ∧
(∃ I2:Nat→Int→(List Int)→Prop,(∃ m0,I2 m0 0 (List.replicate (l.length:Int).toNat (0:Int)))∧∀ m2 v out,I2 m2 v out → 
((v<(l.length:Int) →
((0≤v∧v<(l.length:Int)) ∧
Ff ((gx l v.toNat).1) ((gx l v.toNat).2) (fun (r:Int) =>
((0≤v∧v<(out.length:Int)) ∧
(In64 (v+1) ∧
∃ m3,m3<m2∧I2 m3 (v+1) (out.set v.toNat r)))))) ∧
(¬(v<(l.length:Int)) →
R out))))
theorem yfb{O:Nat→Prop}{w:World}{l:List (Int×Int)}{Ff:Int→Int→(Int→Prop)→Prop}{Al:Option Addr}{ll:Nat}{cl:Nat}{f:Value}{R:(List Int)→Prop}(h:ybK l Ff R)(hO:∀ k,O k→k<w.heap.size)(hA0:(FP.sl c2 Al ll cl l).P O w)(hA1:(FP.st fun w'=>∃ (fid:Nat) (us:Array Value),f=Value.func (.func fid) #[] us∧Enters Tryz.prog fid∧∀ (x0:Int) (x02:Int) (R:Int→Prop),Ff x0 x02 R→Calls Tryz.prog fid (#[(Value.agg #[(Value.int .i64 x0),(Value.int .i64 x02)])]++us) w' fun e w''=>∃ r0:Int,e = .returned (Value.int .i64 r0)∧Sep w' no no w'' (rl [])∧R r0).P O w) :
    Calls Tryz.prog 124 #[(.slice Al ll cl),f] w fun e w'=>∃ r2 Ar lr cr,e = .returned (.slice Ar lr cr)∧Sep w no O w' (rl [Res.own cI 3 Ar lr cr r2])∧R r2:=by
  unfold ybK at h;have hS:Sep w no O w (rl [Res.ro (FP.sl c2 Al ll cl l),Res.ro (FP.st fun w'=>∃ (fid:Nat) (us:Array Value),f=Value.func (.func fid) #[] us∧Enters Tryz.prog fid∧∀ (x0:Int) (x02:Int) (R:Int→Prop),Ff x0 x02 R→Calls Tryz.prog fid (#[(Value.agg #[(Value.int .i64 x0),(Value.int .i64 x02)])]++us) w' fun e w''=>∃ r0:Int,e = .returned (Value.int .i64 r0)∧Sep w' no no w'' (rl [])∧R r0)]):=Sep.startl hO [(FP.sl c2 Al ll cl l),(FP.st fun w'=>∃ (fid:Nat) (us:Array Value),f=Value.func (.func fid) #[] us∧Enters Tryz.prog fid∧∀ (x0:Int) (x02:Int) (R:Int→Prop),Ff x0 x02 R→Calls Tryz.prog fid (#[(Value.agg #[(Value.int .i64 x0),(Value.int .i64 x02)])]++us) w' fun e w''=>∃ r0:Int,e = .returned (Value.int .i64 r0)∧Sep w' no no w'' (rl [])∧R r0)] ⟨hA0,hA1,trivial⟩;refine yal (l:=[(Value.slice Al ll cl),f]) func124 rfl ntmps124 (Nat.le_of_ble_eq_true rfl) ?_;refine yac ?_;refine yaE yaC ?_;refine rl_q rfl rfl rfl (ybJ (v:=(.slice none 0 0)) rfl) ?_;refine yaa ?_;refine yac ?_;refine yaE yaC ?_;refine rl_q rfl rfl rfl (yab (v:=(.slice Al ll cl)) rfl) ?_;refine rl_q rfl rfl rfl (yaG (n:=l.length) rfl underlying62 (yaD (hS.rdr 0 rfl))) ?_;obtain ⟨hx,h⟩:=h;refine rl_n rfl rfl rfl rfl (yeX rfl rfl underlying35 yag (by decide) rfl hx ?_);intro g w2 hN;replace hS:=hS.made 2 rfl cI (Value.int .i64 0) (0:Int) (fun _ _=>rfl) hN (by omega);clear hN;refine ⟨Stb.none _,?_⟩;refine rl_q rfl rfl rfl (ybJ (v:=(.slice (some ⟨g,0,none⟩) (((l.length:Nat):Int).toNat) (((l.length:Nat):Int).toNat))) rfl) ?_;refine yaa ?_;refine yac ?_;refine yac ?_;refine yaE yaC ?_;refine rl_q rfl rfl rfl (yab (v:=(.slice Al ll cl)) rfl) ?_;refine rl_q rfl rfl rfl (yaG (n:=l.length) rfl underlying62 (yaD (hS.rdr 0 rfl))) ?_;refine rl_q rfl rfl rfl (yab (v:=(.int .i64 0)) rfl) ?_;refine yaa ?_;refine yad ?_;obtain ⟨I2,⟨m0,h0⟩,hr⟩:=h;refine yax (fun m E ds w'=>∃ v:Int,∃ out:List Int,I2 m v out∧ds=[]∧E 1=f∧E 5=(Value.slice (some ⟨g,0,none⟩) (((l.length:Nat):Int).toNat) (((l.length:Nat):Int).toNat))∧E 11=(Value.slice Al ll cl)∧E 12=(Value.int .i64 ((l.length:Nat):Int))∧E 13=(Value.int .i64 v)∧Sep w no O w' (rl [Res.ro (FP.st fun w'=>∃ (fid:Nat) (us:Array Value),f=Value.func (.func fid) #[] us∧Enters Tryz.prog fid∧∀ (x0:Int) (x02:Int) (R:Int→Prop),Ff x0 x02 R→Calls Tryz.prog fid (#[(Value.agg #[(Value.int .i64 x0),(Value.int .i64 x02)])]++us) w' fun e w''=>∃ r0:Int,e = .returned (Value.int .i64 r0)∧Sep w' no no w'' (rl [])∧R r0),Res.own cI 3 (some ⟨g,0,none⟩) (((l.length:Nat):Int).toNat) (((l.length:Nat):Int).toNat) out,Res.ro (FP.sl c2 Al ll cl l)])) m0 ⟨_,_,h0,rfl,rfl,rfl,rfl,rfl,rfl,(hS.sel [1,2,0] (by decide))⟩ ?_;clear h0 hS;rintro m2 E ds w3 ⟨v,out,h,rfl,H1,H5,H11,H12,H13,hS⟩ ag;replace h:=hr m2 v out h;clear hr;refine yac ?_;refine yaE yaC ?_;refine rl_q rfl rfl rfl (ydm H13 H12) ?_;refine yaa ?_;refine yac ?_;by_cases hp:v<((l.length:Nat):Int)
  · replace h:=h.1 hp;refine zc hp (yaf (yac (yad (zs (zq (yab H13) ?_)))));obtain ⟨hx2,h⟩:=h;refine zq (ydA H11 H13 underlying62 ybk (yaB (hS.rdr 2 rfl) hx2)) (zq (yao (vs:=[(ii ((gx l v.toNat).1)),(ii ((gx l v.toNat).2))]) rfl underlying96 rfl ybk (yhX (hS.rdr 2 rfl) hx2 (fun q=>ycO q))) ?_);refine zn (yaS ybk ?_);intro g2 w4 hN;replace hS:Sep w no O w4 (stl _ 3 (Res.box 96 g2 [(ii 0),(ii 0)])):=hS.new 3 rfl hN;clear hN;refine zb (zQ (ii v) (zo (yaQ (b:=g2) (o:=0) (cells:=#[(ii ((gx l v.toNat).1)),(ii ((gx l v.toNat).2))]) rfl rfl ybk rfl rfl (yaL (hS.bx 3 rfl) zY) ?_)));intro w5 e1;replace hS:=hS.bstn 3 rfl 0 [(ii ((gx l v.toNat).1)),(ii ((gx l v.toNat).2))] e1;clear e1;refine zb (yaa (zr (zq (yab (v:=(.slice (some ⟨g,0,none⟩) ((l.length:Int).toNat) ((l.length:Int).toNat))) H5) (zM (ii v) (zq (yab H1) (zq (yao (vs:=[(ii ((gx l v.toNat).1)),(ii ((gx l v.toNat).2))]) rfl underlying96 rfl ybk ⟨Row.cell (hS.bx 3 rfl) (i:=0) rfl,Row.cell (hS.bx 3 rfl) (i:=1) rfl,trivial⟩) ?_))))));obtain ⟨fid,us,hf,he,hcl⟩:=hS.ro 0 rfl _ (Keeps.refl _ _);replace h:=hcl _ _ _ h;clear hcl;refine zn (ydt (hf) (am1 rfl) he (h.mono ?_));clear hf he;rintro _ w6 ⟨r,rfl,hC,h⟩;replace hS:=hS.pur hC.pure;clear hC;refine ⟨_,rfl,?_⟩;refine zb ?_;obtain ⟨hx3,h⟩:=h;refine zq (zi underlying35 yag (yaB (hS.rdo 1 rfl) hx3)) (zo (zt (ii r) yag (hS.wr 1 rfl rfl hx3) ?_));intro w7 e1;replace hS:=hS.st 1 rfl rfl hx3 (x:=r) rfl e1;clear e1;refine zb (yaa (yae (zr ?_)));obtain ⟨hi,h⟩:=h;refine zq (yb3 H13 rfl hi) (zM (ii (v+1)) (yaa ?_));obtain ⟨mq,hlt,h⟩:=h;exact ag mq _ _ _ ⟨_,_,h,rfl,H1,H5,H11,H12,rfl,(hS.sel [0,1,2])⟩ hlt
  · replace h:=h.2 hp;exact zd hp (yas rfl (zs (zq (yab (v:=(.slice (some ⟨g,0,none⟩) ((l.length:Int).toNat) ((l.length:Int).toNat))) H5) (zQ (.slice (some ⟨g,0,none⟩) ((l.length:Int).toNat) ((l.length:Int).toNat)) (yaa (yah rfl rfl ⟨_,_,_,_,rfl,(hS.sel [1]),h⟩))))))
def yko(g:Int)(g2:List E3)(R:(List (Int×Int))→Int→Prop):Prop :=
ydS g g2 (fun r r2 =>
((r2=0 →
((r=true →
ycI g g2 (fun r3 r4 =>
R r3 r4)) ∧
(¬(r=true) →
R ([]) 13))) ∧
(¬(r2=0) →
R ([]) r2)))
theorem ykB{O:Nat→Prop}{w:World}{g g2 Ag lg cg}{R:(List (Int×Int))→Int→Prop}(h:yko g g2 R)(hO:∀ k,O k→k<w.heap.size)(hA0:(FP.sl c3 Ag lg cg g2).P O w) :
    Calls Tryz.prog 108 #[(.agg #[(ii g),(.slice Ag lg cg)])] w fun e w'=>∃ r5 r6 Ar2 lr2 cr2,e = .returned (.tuple #[(.slice Ar2 lr2 cr2),(ii r6)])∧Sep w no O w' (rl [Res.own c2 96 Ar2 lr2 cr2 r5])∧R r5 r6:=by
  unfold yko at h;have hS:Sep w no O w (rl [Res.ro (FP.sl c3 Ag lg cg g2)]):=Sep.startl hO [(FP.sl c3 Ag lg cg g2)] ⟨hA0,trivial⟩;refine yal (l:=[(.agg #[(ii g),(.slice Ag lg cg)])]) func108 rfl ntmps108 zY (zs (zn (ybm (v:=(.agg #[(ii g),(.slice Ag lg cg)])) rfl ?_)));intro g3 w2 hN;replace hS:Sep w no O w2 (stl _ 1 (Res.box 24 g3 [(ii g),(.slice Ag lg cg)])):=hS.new 1 rfl hN;clear hN;refine zb (zQ (.slice none 0 0) (zQ (ii 0) (yaa (zs (zq (yao (vs:=[(ii g),(.slice Ag lg cg)]) rfl underlying24 rfl yak ⟨Row.cell (hS.bx 1 rfl) (i:=0) rfl,Row.cell (hS.bx 1 rfl) (i:=1) rfl,trivial⟩) (zn (yai rfl (am1 rfl) enter_84 ((yfV h (yaz _) (hS.rdr 0 rfl)).mono ?_))))))));rintro _ w3 ⟨r,r2,rfl,hC,h⟩;replace hS:=hS.pur hC.pure;clear hC;refine ⟨_,rfl,?_⟩;refine zb (zM (.tuple #[(.bool (r)),(ii r2)]) (zq (zx (.bool (r))) (zq (zx (ii r2)) (zQ (.bool (r)) (zQ (ii r2) (yaa (yac (yad (zs (zM (ii r2) (zq zN (zQ (.bool (!(decide (r2=0)))) (yaa ?_)))))))))))));by_cases hp:r2=0
  · replace h:=h.1 hp;refine ze hp (zs (zM (.bool (r)) (zq (yds rfl) (zQ (.bool (!(r))) (yaa ?_)))));by_cases hp2:r=true
    · replace h:=h.1 hp2;refine yav (zC (zB hp2)) (yaf (yae (zs (zq (yao (vs:=[(ii g),(.slice Ag lg cg)]) rfl underlying24 rfl yak ⟨Row.cell (hS.bx 1 rfl) (i:=0) rfl,Row.cell (hS.bx 1 rfl) (i:=1) rfl,trivial⟩) (zn (yai rfl (am1 rfl) enter_85 ((ygh h (yaz _) (hS.rdr 0 rfl)).mono ?_)))))));rintro _ w4 ⟨r3,r4,Ar,lr,cr,rfl,hC,h⟩;replace hS:=hS.call1 (hC.widen (ycv (yaP (fP (fI .i64) (fI .i64)) _ _ _ _ _) ycH) hS.blt) 2 0 rfl;clear hC;refine ⟨_,rfl,?_⟩;exact zb (zq (zx (.slice Ar lr cr)) (zq (zx (ii r4)) (zQ (.slice Ar lr cr) (zQ (ii r4) (yaa (ya7 rfl rfl rfl ⟨_,_,_,_,_,rfl,(hS.sel [2]),h⟩))))))
    · replace h:=h.2 hp2;refine yaq (zC (zB (zI hp2))) (zs (zQ (.slice none 0 0) (zQ (ii 13) (yaa ?_))));replace hS:=hS.nil 2 rfl c2 96;exact ya7 rfl rfl rfl ⟨_,_,_,_,_,rfl,(hS.sel [2]),h⟩
  · replace h:=h.2 hp;refine zf hp (zs (zM (ii r2) (zQ (.slice none 0 0) (zQ (ii r2) (yaa ?_)))));replace hS:=hS.nil 2 rfl c2 96;exact ya7 rfl rfl rfl ⟨_,_,_,_,_,rfl,(hS.sel [2]),h⟩
def ydQ(l:List Int)(n:Int)(R:Int→Prop):Prop :=
(((l.length:Int)=n →
ybG l (fun r =>
R r)) ∧
(¬((l.length:Int)=n) →
R 8))
theorem yhe{O:Nat→Prop}{w:World}{l n Al ll cl}{R:Int→Prop}(h:ydQ l n R)(hO:∀ k,O k→k<w.heap.size)(hA0:(FP.sl cI Al ll cl l).P O w) :
    Calls Tryz.prog 92 #[(.slice Al ll cl),(ii n)] w fun e w'=>∃ r2,e = .returned (ii r2)∧Sep w no O w' (rl [])∧R r2:=by
  unfold ydQ at h;have hS:Sep w no O w (rl [Res.ro (FP.sl cI Al ll cl l)]):=Sep.startl hO [(FP.sl cI Al ll cl l)] ⟨hA0,trivial⟩;refine yal (l:=[(.slice Al ll cl),(ii n)]) func92 rfl ntmps92 zY (zs (zQ (ii 0) (yaa (yac (zs (zM (.slice Al ll cl) (zq (yaG (n:=l.length) rfl underlying35 (yaD (hS.rdr 0 rfl))) (zM (ii n) (zq zN (yaa ?_))))))))));by_cases hp:(l.length:Int)=n
  · replace h:=h.1 hp;refine ze hp (yaf (zs (zM (.slice Al ll cl) (zn (yai rfl (am1 rfl) enter_123 ((yeD h (yaz _) (hS.rdr 0 rfl)).mono ?_))))));rintro _ w2 ⟨r,rfl,hC,h⟩;replace hS:=hS.pur hC.pure;clear hC;refine ⟨_,rfl,?_⟩;exact zb (zQ (ii r) (yaa (yah rfl rfl ⟨_,rfl,(hS.sel []),h⟩)))
  · replace h:=h.2 hp;exact zf hp (zs (zQ (ii 8) (yaa (yah rfl rfl ⟨_,rfl,(hS.sel []),h⟩))))
def ydj(l:List Int)(R:(List Int)→Int→Prop):Prop :=
ybG l (fun r =>
((r=0 →
R l 0) ∧
(¬(r=0) →
R ([]) 11)))
theorem ygs{O:Nat→Prop}{w:World}{l Al ll cl}{R:(List Int)→Int→Prop}(h:ydj l R)(hO:∀ k,O k→k<w.heap.size)(hA0:(FP.sl cI Al ll cl l).P O w) :
    Calls Tryz.prog 93 #[(.slice Al ll cl)] w fun e w'=>∃ r2 r3 Ar lr cr,e = .returned (.tuple #[(.slice Ar lr cr),(ii r3)])∧Sep w no O w' (rl [Res.ro (FP.sl cI Ar lr cr r2)])∧R r2 r3:=by
  unfold ydj at h;have hS:Sep w no O w (rl [Res.ro (FP.sl cI Al ll cl l)]):=Sep.startl hO [(FP.sl cI Al ll cl l)] ⟨hA0,trivial⟩;refine yal (l:=[(.slice Al ll cl)]) func93 rfl ntmps93 zY (zs (zQ (.slice none 0 0) (zQ (ii 0) (yaa (yac (zs (zM (.slice Al ll cl) (zn (yai rfl (am1 rfl) enter_123 ((yeD h (yaz _) (hS.rdr 0 rfl)).mono ?_))))))))));rintro _ w2 ⟨r,rfl,hC,h⟩;replace hS:=hS.pur hC.pure;clear hC;refine ⟨_,rfl,?_⟩;refine zb (zq zN (yaa ?_));by_cases hp:r=0
  · replace h:=h.1 hp;exact ze hp (yaf (zs (zM (.slice Al ll cl) (zQ (.slice Al ll cl) (zQ (ii 0) (yaa (ya7 rfl rfl rfl ⟨_,_,_,_,_,rfl,(hS.sel [0]),h⟩)))))))
  · replace h:=h.2 hp;refine zf hp (zs (zQ (.slice none 0 0) (zQ (ii 11) (yaa ?_))));replace hS:=hS.addro 1 rfl _ (yeK cI _ _);exact ya7 rfl rfl rfl ⟨_,_,_,_,_,rfl,(hS.sel [1]),h⟩
def ykr(g:Int)(g2:List E3)(x:List Int)(R:(List (Int×Int))→Int→Prop):Prop :=
yko g g2 (fun r r2 =>
((r2=0 →
ydQ x (r.length:Int) (fun r3 =>
((r3=0 →
R r 0) ∧
(¬(r3=0) →
R ([]) r3)))) ∧
(¬(r2=0) →
R ([]) r2)))
theorem ykG{O:Nat→Prop}{w:World}{g g2 x Ag lg cg Ax lx cx}{R:(List (Int×Int))→Int→Prop}(h:ykr g g2 x R)(hO:∀ k,O k→k<w.heap.size)(hA0:(FP.sl c3 Ag lg cg g2).P O w)(hA1:(FP.sl cI Ax lx cx x).P O w) :
    Calls Tryz.prog 69 #[(.agg #[(ii g),(.slice Ag lg cg)]),(.slice Ax lx cx)] w fun e w'=>∃ r4 r5 Ar2 lr2 cr2,e = .returned (.tuple #[(.slice Ar2 lr2 cr2),(ii r5)])∧Sep w no O w' (rl [Res.own c2 96 Ar2 lr2 cr2 r4])∧R r4 r5:=by
  unfold ykr at h;have hS:Sep w no O w (rl [Res.ro (FP.sl c3 Ag lg cg g2),Res.ro (FP.sl cI Ax lx cx x)]):=Sep.startl hO [(FP.sl c3 Ag lg cg g2),(FP.sl cI Ax lx cx x)] ⟨hA0,hA1,trivial⟩;refine yal (l:=[(.agg #[(ii g),(.slice Ag lg cg)]),(.slice Ax lx cx)]) func69 rfl ntmps69 zY (zs (zn (ybm (v:=(.agg #[(ii g),(.slice Ag lg cg)])) rfl ?_)));intro g3 w2 hN;replace hS:Sep w no O w2 (stl _ 2 (Res.box 24 g3 [(ii g),(.slice Ag lg cg)])):=hS.new 2 rfl hN;clear hN;refine zb (zQ (.slice none 0 0) (zQ (ii 0) (yaa (zs (zq (yao (vs:=[(ii g),(.slice Ag lg cg)]) rfl underlying24 rfl yak ⟨Row.cell (hS.bx 2 rfl) (i:=0) rfl,Row.cell (hS.bx 2 rfl) (i:=1) rfl,trivial⟩) (zn (yai rfl (am1 rfl) enter_108 ((ykB h (yaz _) (hS.rdr 0 rfl)).mono ?_))))))));rintro _ w3 ⟨r,r2,Ar,lr,cr,rfl,hC,h⟩;replace hS:=hS.call1 (hC.widen (ycv (yaP (fP (fI .i64) (fI .i64)) _ _ _ _ _) ycH) hS.blt) 3 0 rfl;clear hC;refine ⟨_,rfl,?_⟩;refine zb (zM (.tuple #[(.slice Ar lr cr),(ii r2)]) (zq (zx (.slice Ar lr cr)) (zq (zx (ii r2)) (zQ (.slice Ar lr cr) (zQ (ii r2) (yaa (yac (zs (zM (ii r2) (zq zN (yaa ?_)))))))))));by_cases hp:r2=0
  · replace h:=h.1 hp;refine ze hp (yaf (yac (zs (zM (.slice Ax lx cx) (zM (.slice Ar lr cr) (zq (yaG (n:=r.length) rfl underlying62 (yaD (hS.rdo 3 rfl))) (zn (yai rfl (am2 rfl rfl) enter_92 ((yhe h (yaz _) (hS.rdr 1 rfl)).mono ?_)))))))));rintro _ w4 ⟨r3,rfl,hC,h⟩;replace hS:=hS.pur hC.pure;clear hC;refine ⟨_,rfl,?_⟩;refine zb (zQ (ii r3) (yaa (zs (zM (ii r3) (zq zN (yaa ?_))))));by_cases hp2:r3=0
    · replace h:=h.1 hp2;exact ze hp2 (yaf (zs (zM (.slice Ar lr cr) (zQ (.slice Ar lr cr) (zQ (ii 0) (yaa (ya7 rfl rfl rfl ⟨_,_,_,_,_,rfl,(hS.sel [3]),h⟩)))))))
    · replace h:=h.2 hp2;refine zf hp2 (zs (zM (ii r3) (zQ (.slice none 0 0) (zQ (ii r3) (yaa ?_)))));replace hS:=hS.nil 4 rfl c2 96;exact ya7 rfl rfl rfl ⟨_,_,_,_,_,rfl,(hS.sel [4]),h⟩
  · replace h:=h.2 hp;refine zf hp (zs (zM (ii r2) (zQ (.slice none 0 0) (zQ (ii r2) (yaa ?_)))));replace hS:=hS.nil 4 rfl c2 96;exact ya7 rfl rfl rfl ⟨_,_,_,_,_,rfl,(hS.sel [4]),h⟩
def yki(n:Int)(ends:List (Int×Int))(in2:List Bool)(out:Int)(R:(List Int)→Prop):Prop :=
((0≤n∧n≤1000000) ∧
((0≤out∧out<(ends.length:Int)) ∧
((0≤(1:Int)∧(1:Int)<2) ∧
((0≤((gx ends out.toNat).2)∧((gx ends out.toNat).2)<(((List.replicate n.toNat (0:Int)).length:Nat):Int)) ∧
(∃ I2:Nat→Int→(List Int)→Prop,(∃ m0,I2 m0 0 ((List.replicate n.toNat (0:Int)).set ((gx ends out.toNat).2).toNat 1))∧∀ m2 v f,I2 m2 v f → 
((v<n →
(∃ I3:Nat→Int→(List Int)→Prop,(∃ m0,I3 m0 0 f)∧∀ m3 v2 f2,I3 m3 v2 f2 → 
((v2<(ends.length:Int) →
((0≤v2∧v2<(ends.length:Int)) ∧
(∃ J2:Prop,(J2→((0≤(0:Int)∧(0:Int)<2) ∧
((0≤((gx ends v2.toNat).1)∧((gx ends v2.toNat).1)<(f2.length:Int)) ∧
((0≤((gx ends v2.toNat).2)∧((gx ends v2.toNat).2)<(((f2.set ((gx ends v2.toNat).1).toNat 1).length:Nat):Int)) ∧
(In64 (v2+1) ∧
∃ m4,m4<m3∧I3 m4 (v2+1) ((f2.set ((gx ends v2.toNat).1).toNat 1).set ((gx ends v2.toNat).2).toNat 1)))))) ∧
((0≤v2∧v2<(in2.length:Int)) ∧
((gb in2 v2.toNat=true →
((v2=out →
(In64 (v2+1) ∧
∃ m5,m5<m3∧I3 m5 (v2+1) f2)) ∧
(¬(v2=out) →
((0≤(0:Int)∧(0:Int)<2) ∧
((0≤((gx ends v2.toNat).1)∧((gx ends v2.toNat).1)<(f2.length:Int)) ∧
((0≤((gx ends v2.toNat).2)∧((gx ends v2.toNat).2)<(f2.length:Int)) ∧
(((gi f2 ((gx ends v2.toNat).1).toNat)=(gi f2 ((gx ends v2.toNat).2).toNat) →
(In64 (v2+1) ∧
∃ m6,m6<m3∧I3 m6 (v2+1) f2)) ∧
(¬((gi f2 ((gx ends v2.toNat).1).toNat)=(gi f2 ((gx ends v2.toNat).2).toNat)) →
J2)))))))) ∧
(¬(gb in2 v2.toNat=true) →
(In64 (v2+1) ∧
∃ m7,m7<m3∧I3 m7 (v2+1) f2))))))) ∧
(¬(v2<(ends.length:Int)) →
(In64 (v+1) ∧
∃ m8,m8<m2∧I2 m8 (v+1) f2))))) ∧
(¬(v<n) →
R f)))))))
theorem ykN{O:Nat→Prop}{w:World}{n ends in2 out Aa Ab Ac Ad Ae Af}{R:(List Int)→Prop}(h:yki n ends in2 out R)(hO:∀ k,O k→k<w.heap.size)(hA0:(FP.sl c2 Aa Ab Ac ends).P O w)(hA1:(FP.sl cB Ad Ae Af in2).P O w) :
    Calls Tryz.prog 111 #[(ii n),(.slice Aa Ab Ac),(.slice Ad Ae Af),(ii out)] w fun e w'=>∃ r Ar lr cr,e = .returned (.slice Ar lr cr)∧Sep w no O w' (rl [Res.own cI 3 Ar lr cr r])∧R r:=by
  unfold yki at h;have hS:Sep w no O w (rl [Res.ro (FP.sl c2 Aa Ab Ac ends),Res.ro (FP.sl cB Ad Ae Af in2)]):=Sep.startl hO [(FP.sl c2 Aa Ab Ac ends),(FP.sl cB Ad Ae Af in2)] ⟨hA0,hA1,trivial⟩;refine yal (l:=[(ii n),(.slice Aa Ab Ac),(.slice Ad Ae Af),(ii out)]) func111 rfl ntmps111 zY (zs (zQ (.slice none 0 0) (yaa (zs (zM (ii n) ?_)))));obtain ⟨hx,h⟩:=h;refine zn (yeX rfl rfl underlying35 yag (by decide) rfl hx ?_);intro g w2 hN;replace hS:=hS.made 2 rfl cI (ii 0) (0:Int) (fun _ _=>rfl) hN (by omega);clear hN;refine zb (zQ (.slice (some ⟨g,0,none⟩) n.toNat n.toNat) (yaa (zs (zM (.slice (some ⟨g,0,none⟩) n.toNat n.toNat) (zM (.slice Aa Ab Ac) (zM (ii out) ?_))))));obtain ⟨hx2,h⟩:=h;refine zq (zi underlying62 ybk (yaB (hS.rdr 0 rfl) hx2)) ?_;obtain ⟨hx3,h⟩:=h;refine zq (ybE rfl rfl underlying96 yag hx3) (zq (yar (v:=(ii ((gx ends out.toNat).2))) rfl underlying3 rfl (rd_f (hS.rdr 0 rfl) hx2 (fun q=>ycO q) 1 rfl)) ?_);obtain ⟨hx4,h⟩:=h;refine zq (zi underlying35 yag (yaB (hS.rdo 2 rfl) hx4)) (zo (zt (ii 1) yag (hS.wr 2 rfl rfl hx4) ?_));intro w3 e1;replace hS:=hS.st 2 rfl rfl hx4 (x:=1) rfl e1;clear e1;refine zb (yaa (yac (zs (zM (ii n) (zM (ii 0) (yaa (yad ?_)))))));obtain ⟨I2,⟨m0,h0⟩,hr⟩:=h;refine yax (fun m E ds w'=>∃ v f,I2 m v f∧ds=[]∧E 1=(Value.slice Aa Ab Ac)∧E 2=(Value.slice Ad Ae Af)∧E 3=(ii out)∧E 9=(Value.slice (some ⟨g,0,none⟩) n.toNat n.toNat)∧E 21=(ii n)∧E 22=(ii v)∧Sep w no O w' (rl [Res.ro (FP.sl c2 Aa Ab Ac ends),Res.ro (FP.sl cB Ad Ae Af in2),Res.own cI 3 (some ⟨g,0,none⟩) n.toNat n.toNat f])) m0 ⟨_,_,h0,rfl,rfl,rfl,rfl,rfl,rfl,rfl,(hS.sel [0,1,2])⟩ ?_;clear h0 hS;rintro m2 E ds w4 ⟨v,f,h,rfl,H1,H2,H3,H9,H21,H22,hS⟩ ag;replace h:=hr m2 v f h;clear hr;refine zs (zq (ydm H22 H21) (yaa (yac ?_)));by_cases hp:v<n
  · replace h:=h.1 hp;refine zc hp (yaf (yac (yad (zs (zq (yab H1) (zq (yaG (n:=ends.length) rfl underlying62 (yaD (hS.rdr 0 rfl))) (zM (ii 0) (yaa (yad ?_)))))))));obtain ⟨I3,⟨m0,h0⟩,hr⟩:=h;refine yax (fun m E ds w'=>∃ v2 f2,I3 m v2 f2∧ds=[]∧E 1=(Value.slice Aa Ab Ac)∧E 2=(Value.slice Ad Ae Af)∧E 3=(ii out)∧E 9=(Value.slice (some ⟨g,0,none⟩) n.toNat n.toNat)∧E 21=(ii n)∧E 22=(ii v)∧E 24=(Value.slice Aa Ab Ac)∧E 25=(ii (ends.length:Int))∧E 26=(ii v2)∧Sep w no O w' (rl [Res.ro (FP.sl c2 Aa Ab Ac ends),Res.ro (FP.sl cB Ad Ae Af in2),Res.own cI 3 (some ⟨g,0,none⟩) n.toNat n.toNat f2])) m0 ⟨_,_,h0,rfl,H1,H2,H3,H9,H21,H22,rfl,rfl,rfl,(hS.sel [0,1,2])⟩ ?_;clear h0 hS;rintro m3 E ds w5 ⟨v2,f2,h,rfl,H1,H2,H3,H9,H21,H22,H24,H25,H26,hS⟩ again2;replace h:=hr m3 v2 f2 h;clear hr;refine zs (zq (ydm H26 H25) (yaa (yac ?_)));by_cases hp2:v2<(ends.length:Int)
    · replace h:=h.1 hp2;refine zc hp2 (yaf (yac (yad (zs (zq (yab H26) ?_)))));obtain ⟨hx5,h⟩:=h;refine zq (ydA H24 H26 underlying62 ybk (yaB (hS.rdr 0 rfl) hx5)) (zq (yao (vs:=[(ii ((gx ends v2.toNat).1)),(ii ((gx ends v2.toNat).2))]) rfl underlying96 rfl ybk (yhX (hS.rdr 0 rfl) hx5 (fun q=>ycO q))) ?_);refine zn (yaS ybk ?_);intro g2 w6 hN;replace hS:Sep w no O w6 (stl _ 3 (Res.box 96 g2 [(ii 0),(ii 0)])):=hS.new 3 rfl hN;clear hN;refine zb (zQ (ii v2) (zo (yaQ (b:=g2) (o:=0) (cells:=#[(ii ((gx ends v2.toNat).1)),(ii ((gx ends v2.toNat).2))]) rfl rfl ybk rfl rfl (yaL (hS.bx 3 rfl) zY) ?_)));intro w7 e1;replace hS:=hS.bstn 3 rfl 0 [(ii ((gx ends v2.toNat).1)),(ii ((gx ends v2.toNat).2))] e1;clear e1;refine zb (yaa (yac ?_));obtain ⟨J2,hJ,h⟩:=h;refine wt_cutA1 (fun E ds w'=>J2∧ds=[]∧E 1=(Value.slice Aa Ab Ac)∧E 2=(Value.slice Ad Ae Af)∧E 3=(ii out)∧E 9=(Value.slice (some ⟨g,0,none⟩) n.toNat n.toNat)∧E 11=(Value.pointer (some ⟨g2,0,none⟩))∧E 21=(ii n)∧E 22=(ii v)∧E 24=(Value.slice Aa Ab Ac)∧E 25=(ii (ends.length:Int))∧E 26=(ii v2)∧Sep w no O w' (rl [Res.ro (FP.sl c2 Aa Ab Ac ends),Res.ro (FP.sl cB Ad Ae Af in2),Res.own cI 3 (some ⟨g,0,none⟩) n.toNat n.toNat f2,Res.box 96 g2 [(ii ((gx ends v2.toNat).1)),(ii ((gx ends v2.toNat).2))]])) ?_ ?_
      · clear h hS;rintro E ds w8 ⟨h,rfl,H1,H2,H3,H9,H11,H21,H22,H24,H25,H26,hS⟩;replace h:=hJ h;refine ybq [0,1,2,3,4,5,6,7,8,9] (fun i=>match i with | 7=>[3,4,5] | _=>[]) yaC (by kernel_rfl) (by kernel_rfl) ?_;replace hS:=hS.drew;refine zp (yab H9) ?_;obtain ⟨hx6,h⟩:=h;refine zp (ybE H11 rfl underlying96 yag hx6) (zp (zl underlying3 (Row.cell (hS.bx 3 rfl) (i:=0) rfl)) (zp (yab H9) (zp (ybE H11 rfl underlying96 yag hx3) (zp (zl underlying3 (Row.cell (hS.bx 3 rfl) (i:=1) rfl)) ?_))));obtain ⟨hx7,h⟩:=h;refine zp (zi underlying35 yag (yaB (hS.rdo 2 rfl) hx7)) (rp_n0 rfl rfl rfl (zt (ii 1) yag (hS.wr 2 rfl rfl hx7) ?_));intro w9 e1;replace hS:=hS.st 2 rfl rfl hx7 (x:=1) rfl e1;clear e1;refine ⟨⟨fun hh=>zZ hh,⟨fun _=>(zl underlying3 (Row.cell (hS.bx 3 rfl) (i:=1) rfl)),⟨fun _=>(ybE H11 rfl underlying96 yag hx3),⟨fun _=>(yab H9),⟨fun hh=>zZ hh,⟨fun hh=>zZ hh,⟨fun hh=>zZ hh,trivial⟩⟩⟩⟩⟩⟩⟩,?_⟩;obtain ⟨hx8,h⟩:=h;refine zp (zi underlying35 yag (yaB (hS.rdo 2 rfl) hx8)) (rp_n0 rfl rfl rfl (zt (ii 1) yag (hS.wr 2 rfl rfl hx8) ?_));intro w10 e1;replace hS:=hS.st 2 rfl rfl hx8 (x:=1) rfl e1;clear e1;refine zb (ybH (yae (zr ?_)));obtain ⟨hi,h⟩:=h;refine zq (yb3 H26 rfl hi) (zM (ii (v2+1)) (yaa ?_));obtain ⟨mq,hlt,h⟩:=h;exact again2 mq _ _ _ ⟨_,_,h,rfl,H1,H2,H3,H9,H21,H22,H24,H25,rfl,(hS.sel [0,1,2])⟩ hlt
      clear hJ;intro j;refine ybq [0,1,2,3,4,5,6,7,8,9,10,11,12,13,14,15,16,17,18,19,20,21] st0 yaC (by kernel_rfl) (by kernel_rfl) ?_;replace hS:=hS.drew;refine zp (yab H2) (zp (zm (ii v2)) ?_);obtain ⟨hx9,h⟩:=h;refine zp (zi underlying94 ybb (yaB (hS.rdr 1 rfl) hx9)) (zp (yar (v:=(.bool (gb in2 v2.toNat))) rfl underlying4 rfl (rd_1 (hS.rdr 1 rfl) hx9 (fun q=>yfd q) rfl)) ?_);refine zp (zm (.bool (gb in2 v2.toNat))) ?_;by_cases hp3:gb in2 v2.toNat=true
      · replace h:=h.1 hp3;refine rp_q (yaA rfl (ybc rfl (zC hp3))) rfl rfl (zm (ii v2)) (rp_q (yaA rfl (ybc rfl (zC hp3))) rfl rfl (yab H3) (rp_q (yaA rfl (ybc rfl (zC hp3))) rfl rfl zN (zp (yan (v:=(.bool (!(decide (v2=out))))) (zC hp3) rfl) (zp (zm (.bool (!(decide (v2=out))))) ?_))));by_cases hp4:v2=out
        · replace h:=h.1 hp4;refine rp_p (ycq rfl (ybc rfl (zC (zB (decide_eq_true hp4)))) rfl) rfl (rp_p (ycq rfl (ybc rfl (zC (zB (decide_eq_true hp4)))) rfl) rfl (rp_p (ycq rfl (ybc rfl (zC (zB (decide_eq_true hp4)))) rfl) rfl (rp_p (ycq rfl (ybc rfl (zC (zB (decide_eq_true hp4)))) rfl) rfl (rp_p (ycq rfl (ybc rfl (zC (zB (decide_eq_true hp4)))) rfl) rfl (rp_p (ycq rfl (ybc rfl (zC (zB (decide_eq_true hp4)))) rfl) rfl (rp_p (ycq rfl (ybc rfl (zC (zB (decide_eq_true hp4)))) rfl) rfl (rp_p (ycq rfl (ybc rfl (zC (zB (decide_eq_true hp4)))) rfl) rfl (rp_p (ycq rfl (ybc rfl (zC (zB (decide_eq_true hp4)))) rfl) rfl (rp_p (ycq rfl (ybc rfl (zC (zB (decide_eq_true hp4)))) rfl) rfl (rp_p (ycq rfl (ybc rfl (zC (zB (decide_eq_true hp4)))) rfl) rfl (zp (yaj (v:=(.bool (false))) (zC (zB (decide_eq_true hp4))) rfl) (ybH (yav rfl (yaf (yae (zr ?_))))))))))))))));obtain ⟨hi2,h⟩:=h;refine zq (yb3 H26 rfl hi2) (zM (ii (v2+1)) (yaa ?_));obtain ⟨mq,hlt,h⟩:=h;exact again2 mq _ _ _ ⟨_,_,h,rfl,H1,H2,H3,H9,H21,H22,H24,H25,rfl,(hS.sel [0,1,2])⟩ hlt
        · replace h:=h.2 hp4;refine rp_q (yaA rfl (ybc rfl (zC (zB (decide_eq_false hp4))))) rfl rfl (yab H9) ?_;obtain ⟨hx10,h⟩:=h;refine rp_q (yaA rfl (ybc rfl (zC (zB (decide_eq_false hp4))))) rfl rfl (ybE rfl rfl underlying96 yag hx10) (rp_q (yaA rfl (ybc rfl (zC (zB (decide_eq_false hp4))))) rfl rfl (zl underlying3 (Row.cell (hS.bx 3 rfl) (i:=0) rfl)) ?_);obtain ⟨hx11,h⟩:=h;refine rp_q (yaA rfl (ybc rfl (zC (zB (decide_eq_false hp4))))) rfl rfl (zi underlying35 yag (yaB (hS.rdo 2 rfl) hx11)) (rp_q (yaA rfl (ybc rfl (zC (zB (decide_eq_false hp4))))) rfl rfl (yar (v:=(ii (gi f2 ((gx ends v2.toNat).1).toNat))) rfl underlying3 rfl (rd_1 (hS.rdo 2 rfl) hx11 (fun q=>yaF q) rfl)) ?_);refine rp_q (yaA rfl (ybc rfl (zC (zB (decide_eq_false hp4))))) rfl rfl (yab H9) (rp_q (yaA rfl (ybc rfl (zC (zB (decide_eq_false hp4))))) rfl rfl (ybE rfl rfl underlying96 yag hx3) (rp_q (yaA rfl (ybc rfl (zC (zB (decide_eq_false hp4))))) rfl rfl (zl underlying3 (Row.cell (hS.bx 3 rfl) (i:=1) rfl)) ?_));obtain ⟨hx12,h⟩:=h;refine rp_q (yaA rfl (ybc rfl (zC (zB (decide_eq_false hp4))))) rfl rfl (zi underlying35 yag (yaB (hS.rdo 2 rfl) hx12)) (rp_q (yaA rfl (ybc rfl (zC (zB (decide_eq_false hp4))))) rfl rfl (yar (v:=(ii (gi f2 ((gx ends v2.toNat).2).toNat))) rfl underlying3 rfl (rd_1 (hS.rdo 2 rfl) hx12 (fun q=>yaF q) rfl)) ?_);refine rp_q (yaA rfl (ybc rfl (zC (zB (decide_eq_false hp4))))) rfl rfl zN (zp (yan (v:=(.bool (!(decide ((gi f2 ((gx ends v2.toNat).1).toNat)=(gi f2 ((gx ends v2.toNat).2).toNat)))))) (zC (zB (decide_eq_false hp4))) rfl) (ybH ?_));by_cases hp5:(gi f2 ((gx ends v2.toNat).1).toNat)=(gi f2 ((gx ends v2.toNat).2).toNat)
          · replace h:=h.1 hp5;refine ze hp5 (yaf (yae (zr ?_)));obtain ⟨hi3,h⟩:=h;refine zq (yb3 H26 rfl hi3) (zM (ii (v2+1)) (yaa ?_));obtain ⟨mq,hlt,h⟩:=h;exact again2 mq _ _ _ ⟨_,_,h,rfl,H1,H2,H3,H9,H21,H22,H24,H25,rfl,(hS.sel [0,1,2])⟩ hlt
          · replace h:=h.2 hp5;exact zf hp5 (j _ _ _ ⟨h,rfl,H1,H2,H3,H9,rfl,H21,H22,H24,H25,H26,(hS.sel [0,1,2,3])⟩)
      · replace h:=h.2 hp3;refine rp_p (ycq rfl (ybc rfl (zC (zI hp3))) rfl) rfl (rp_p (ycq rfl (ybc rfl (zC (zI hp3))) rfl) rfl (rp_p (ycq rfl (ybc rfl (zC (zI hp3))) rfl) rfl (zp (yaj (v:=(.bool (false))) (zC (zI hp3)) rfl) (zp (zm (.bool (false))) (rp_p (ycq rfl (ybc rfl rfl) rfl) rfl (rp_p (ycq rfl (ybc rfl rfl) rfl) rfl (rp_p (ycq rfl (ybc rfl rfl) rfl) rfl (rp_p (ycq rfl (ybc rfl rfl) rfl) rfl (rp_p (ycq rfl (ybc rfl rfl) rfl) rfl (rp_p (ycq rfl (ybc rfl rfl) rfl) rfl (rp_p (ycq rfl (ybc rfl rfl) rfl) rfl (rp_p (ycq rfl (ybc rfl rfl) rfl) rfl (rp_p (ycq rfl (ybc rfl rfl) rfl) rfl (rp_p (ycq rfl (ybc rfl rfl) rfl) rfl (rp_p (ycq rfl (ybc rfl rfl) rfl) rfl (zp (yaj (v:=(.bool (false))) rfl rfl) (ybH (yav rfl (yaf (yae (zr ?_)))))))))))))))))))));obtain ⟨hi4,h⟩:=h;refine zq (yb3 H26 rfl hi4) (zM (ii (v2+1)) (yaa ?_));obtain ⟨mq,hlt,h⟩:=h;exact again2 mq _ _ _ ⟨_,_,h,rfl,H1,H2,H3,H9,H21,H22,H24,H25,rfl,(hS.sel [0,1,2])⟩ hlt
    · replace h:=h.2 hp2;refine zd hp2 (yas rfl (yae (zr ?_)));obtain ⟨hi5,h⟩:=h;refine zq (yb3 H22 rfl hi5) (zM (ii (v+1)) (yaa ?_));obtain ⟨mq,hlt,h⟩:=h;exact ag mq _ _ _ ⟨_,_,h,rfl,H1,H2,H3,H9,H21,rfl,(hS.sel [0,1,2])⟩ hlt
  · replace h:=h.2 hp;exact zd hp (yas rfl (zs (zq (yab H9) (zQ (.slice (some ⟨g,0,none⟩) n.toNat n.toNat) (yaa (yah rfl rfl ⟨_,_,_,_,rfl,(hS.sel [2]),h⟩))))))
def ydi(e2:Int)(e3:Int)(cap:List Int)(R:Int→Prop):Prop :=
((0≤(1:Int)∧(1:Int)<2) ∧
((0≤e3∧e3<(cap.length:Int)) ∧
((0≤(0:Int)∧(0:Int)<2) ∧
((0≤e2∧e2<(cap.length:Int)) ∧
(In64 ((gi cap e3.toNat)-(gi cap e2.toNat)) ∧
R ((gi cap e3.toNat)-(gi cap e2.toNat)))))))
theorem ygp{O:Nat→Prop}{w:World}{e2 e3 cap gc Aa Ab Ac}{R:Int→Prop}(h:ydi e2 e3 cap R)(hO:∀ k,O k→k<w.heap.size)(hA0:(FP.bx 35 gc [(Value.slice Aa Ab Ac)]).P O w)(hA1:(FP.sl cI Aa Ab Ac cap).P O w) :
    Calls Tryz.prog 125 #[(.agg #[(ii e2),(ii e3)]),(.pointer (some ⟨gc,0,none⟩))] w fun e w'=>∃ r,e = .returned (ii r)∧Sep w no O w' (rl [])∧R r:=by
  unfold ydi at h;have hS:Sep w no O w (rl [Res.ro (FP.bx 35 gc [(.slice Aa Ab Ac)]),Res.ro (FP.sl cI Aa Ab Ac cap)]):=Sep.startl hO [(FP.bx 35 gc [(.slice Aa Ab Ac)]),(FP.sl cI Aa Ab Ac cap)] ⟨hA0,hA1,trivial⟩;refine yal (l:=[(.agg #[(ii e2),(ii e3)]),(.pointer (some ⟨gc,0,none⟩))]) func125 rfl ntmps125 zY (zs (zn (ybm (v:=(.agg #[(ii e2),(ii e3)])) rfl ?_)));intro g w2 hN;replace hS:Sep w no O w2 (stl _ 2 (Res.box 96 g [(ii e2),(ii e3)])):=hS.new 2 rfl hN;clear hN;refine zb (zQ (ii 0) (yaa (yac (ybq [0,1,2,3,4,5,6,7,8,9,10,11] st0 yaC (by kernel_rfl) (by kernel_rfl) ?_))));replace hS:=hS.drew;refine zp (zl underlying35 (Row.cell (hS.bxr 0 rfl) (i:=0) rfl)) ?_;obtain ⟨hx,h⟩:=h;refine zp (ybE rfl rfl underlying96 yag hx) (zp (zl underlying3 (Row.cell (hS.bx 2 rfl) (i:=1) rfl)) ?_);obtain ⟨hx2,h⟩:=h;refine zp (zi underlying35 yag (yaB (hS.rdr 1 rfl) hx2)) (zp (yar (v:=(ii (gi cap e3.toNat))) rfl underlying3 rfl (rd_1 (hS.rdr 1 rfl) hx2 (fun q=>yaF q) rfl)) ?_);refine zp (zl underlying35 (Row.cell (hS.bxr 0 rfl) (i:=0) rfl)) ?_;obtain ⟨hx3,h⟩:=h;refine zp (ybE rfl rfl underlying96 yag hx3) (zp (zl underlying3 (Row.cell (hS.bx 2 rfl) (i:=0) rfl)) ?_);obtain ⟨hx4,h⟩:=h;refine zp (zi underlying35 yag (yaB (hS.rdr 1 rfl) hx4)) (zp (yar (v:=(ii (gi cap e2.toNat))) rfl underlying3 rfl (rd_1 (hS.rdr 1 rfl) hx4 (fun q=>yaF q) rfl)) ?_);obtain ⟨hi,h⟩:=h;exact zp (zS hi) (zp (za (ii ((gi cap e3.toNat)-(gi cap e2.toNat)))) (ybH (yah rfl rfl ⟨_,rfl,(hS.sel []),h⟩)))
def ycY(ends:List (Int×Int))(f:List Int)(R:(List Int)→Prop):Prop :=
ybK ends (fun x x2 R=>ydi x x2 f R) (fun r =>
R r)
theorem yhb{O:Nat→Prop}{w:World}{ends f Aa Ab Ac Af lf cf}{R:(List Int)→Prop}(h:ycY ends f R)(hO:∀ k,O k→k<w.heap.size)(hA0:(FP.sl c2 Aa Ab Ac ends).P O w)(hA1:(FP.sl cI Af lf cf f).P O w) :
    Calls Tryz.prog 94 #[(.slice Aa Ab Ac),(.slice Af lf cf)] w fun e w'=>∃ r2 Ar2 lr2 cr2,e = .returned (.slice Ar2 lr2 cr2)∧Sep w no O w' (rl [Res.own cI 3 Ar2 lr2 cr2 r2])∧R r2:=by
  unfold ycY at h;have hS:Sep w no O w (rl [Res.ro (FP.sl c2 Aa Ab Ac ends),Res.ro (FP.sl cI Af lf cf f)]):=Sep.startl hO [(FP.sl c2 Aa Ab Ac ends),(FP.sl cI Af lf cf f)] ⟨hA0,hA1,trivial⟩;refine yal (l:=[(.slice Aa Ab Ac),(.slice Af lf cf)]) func94 rfl ntmps94 zY (zs (zn (ybm (v:=(.slice Af lf cf)) rfl ?_)));intro g w2 hN;replace hS:Sep w no O w2 (stl _ 2 (Res.box 35 g [(.slice Af lf cf)])):=hS.new 2 rfl hN;clear hN;refine zb (zQ (.slice none 0 0) (yaa (zs (zM (.slice Aa Ab Ac) (zq (ykf (am0) (am1 rfl)) ?_)))));replace hS:=hS.frzb 2 rfl;refine zn (yai rfl (am2 rfl rfl) enter_124 ((yfb h (yaz _) (hS.rdr 0 rfl) (fun w' hk=>⟨125,#[(.pointer (some ⟨g,0,none⟩))],rfl,enter_125,fun x x2 R hF=>ya4 (by simp) (ygp hF (yaz _) (FP.sub _ (FP.keep _ (FP.sub _ (hS.ro 2 rfl) (fun _ _ h=>h.elim):FP.P _ no _) hk) fun _ _ h=>h.elim) (FP.sub _ (FP.keep _ (FP.sub _ (hS.ro 1 rfl) (fun _ _ h=>h.elim):FP.P _ no _) hk) fun _ _ h=>h.elim))⟩)).mono ?_));rintro _ w3 ⟨r,Ar,lr,cr,rfl,hC,h⟩;replace hS:=hS.call1 (hC.widen (ycv (yaP (fI .i64) _ _ _ _ _) ycH) hS.blt) 3 0 rfl;clear hC;refine ⟨_,rfl,?_⟩;exact zb (zQ (.slice Ar lr cr) (yaa (yah rfl rfl ⟨_,_,_,_,rfl,(hS.sel [3]),h⟩)))
def ybR(g:Int)(g2:List E3)(f:List Int)(R:(List Int)→Int→Prop):Prop :=
ycI g g2 (fun r r2 =>
((r2=0 →
ydQ f g (fun r3 =>
((r3=0 →
ycY r f (fun r4 =>
ydj r4 (fun r5 r6 =>
R r5 r6))) ∧
(¬(r3=0) →
R ([]) r3)))) ∧
(¬(r2=0) →
R ([]) r2)))
theorem yfw{O:Nat→Prop}{w:World}{g g2 f Ag lg cg Af lf cf}{R:(List Int)→Int→Prop}(h:ybR g g2 f R)(hO:∀ k,O k→k<w.heap.size)(hA0:(FP.sl c3 Ag lg cg g2).P O w)(hA1:(FP.sl cI Af lf cf f).P O w) :
    Calls Tryz.prog 45 #[(.agg #[(ii g),(.slice Ag lg cg)]),(.slice Af lf cf)] w fun e w'=>∃ r7 r8 Ar4 lr4 cr4,e = .returned (.tuple #[(.slice Ar4 lr4 cr4),(ii r8)])∧Sep w no O w' (rl [Res.ro (FP.sl cI Ar4 lr4 cr4 r7)])∧R r7 r8:=by
  unfold ybR at h;have hS:Sep w no O w (rl [Res.ro (FP.sl c3 Ag lg cg g2),Res.ro (FP.sl cI Af lf cf f)]):=Sep.startl hO [(FP.sl c3 Ag lg cg g2),(FP.sl cI Af lf cf f)] ⟨hA0,hA1,trivial⟩;refine yal (l:=[(.agg #[(ii g),(.slice Ag lg cg)]),(.slice Af lf cf)]) func45 rfl ntmps45 zY (zs (zn (ybm (v:=(.agg #[(ii g),(.slice Ag lg cg)])) rfl ?_)));intro g3 w2 hN;replace hS:Sep w no O w2 (stl _ 2 (Res.box 24 g3 [(ii g),(.slice Ag lg cg)])):=hS.new 2 rfl hN;clear hN;refine zb (zQ (.slice none 0 0) (zQ (ii 0) (yaa (zs (zq (yao (vs:=[(ii g),(.slice Ag lg cg)]) rfl underlying24 rfl yak ⟨Row.cell (hS.bx 2 rfl) (i:=0) rfl,Row.cell (hS.bx 2 rfl) (i:=1) rfl,trivial⟩) (zn (yai rfl (am1 rfl) enter_85 ((ygh h (yaz _) (hS.rdr 0 rfl)).mono ?_))))))));rintro _ w3 ⟨r,r2,Ar,lr,cr,rfl,hC,h⟩;replace hS:=hS.call1 (hC.widen (ycv (yaP (fP (fI .i64) (fI .i64)) _ _ _ _ _) ycH) hS.blt) 3 0 rfl;clear hC;refine ⟨_,rfl,?_⟩;refine zb (zM (.tuple #[(.slice Ar lr cr),(ii r2)]) (zq (zx (.slice Ar lr cr)) (zq (zx (ii r2)) (zQ (.slice Ar lr cr) (zQ (ii r2) (yaa (yac (zs (zM (ii r2) (zq zN (yaa ?_)))))))))));by_cases hp:r2=0
  · replace h:=h.1 hp;refine ze hp (yaf (yac (zs (zM (.slice Af lf cf) (zq (yam rfl underlying24 rfl yag) (zq (zl underlying3 (Row.cell (hS.bx 2 rfl) (i:=0) rfl)) (zn (yai rfl (am2 rfl rfl) enter_92 ((yhe h (yaz _) (hS.rdr 1 rfl)).mono ?_)))))))));rintro _ w4 ⟨r3,rfl,hC,h⟩;replace hS:=hS.pur hC.pure;clear hC;refine ⟨_,rfl,?_⟩;refine zb (zQ (ii r3) (yaa (zs (zM (ii r3) (zq zN (yaa ?_))))));by_cases hp2:r3=0
    · replace h:=h.1 hp2;refine ze hp2 (yaf (zs (zM (.slice Ar lr cr) (zM (.slice Af lf cf) (zn (yai rfl (am2 rfl rfl) enter_94 ((yhb h (yaz _) (hS.rdo 3 rfl) (hS.rdr 1 rfl)).mono ?_)))))));rintro _ w5 ⟨r4,Ar2,lr2,cr2,rfl,hC,h⟩;replace hS:=hS.call1 (hC.widen (ycv (yaP (fI .i64) _ _ _ _ _) ycH) hS.blt) 4 0 rfl;clear hC;refine ⟨_,rfl,?_⟩;refine zb ?_;replace hS:=hS.frz 4 rfl;refine zn (yai rfl (am1 rfl) enter_93 ((ygs h hS.blt (hS.ro 4 rfl)).mono ?_));rintro _ w6 ⟨r5,r6,Ar3,lr3,cr3,rfl,hC,h⟩;replace hS:=hS.call1 hC 5 0 rfl;clear hC;refine ⟨_,rfl,?_⟩;exact zb (zq (zx (.slice Ar3 lr3 cr3)) (zq (zx (ii r6)) (zQ (.slice Ar3 lr3 cr3) (zQ (ii r6) (yaa (ya7 rfl rfl rfl ⟨_,_,_,_,_,rfl,(hS.sel [5]),h⟩))))))
    · replace h:=h.2 hp2;refine zf hp2 (zs (zM (ii r3) (zQ (.slice none 0 0) (zQ (ii r3) (yaa ?_)))));replace hS:=hS.addro 4 rfl _ (yeK cI _ _);exact ya7 rfl rfl rfl ⟨_,_,_,_,_,rfl,(hS.sel [4]),h⟩
  · replace h:=h.2 hp;refine zf hp (zs (zM (ii r2) (zQ (.slice none 0 0) (zQ (ii r2) (yaa ?_)))));replace hS:=hS.addro 4 rfl _ (yeK cI _ _);exact ya7 rfl rfl rfl ⟨_,_,_,_,_,rfl,(hS.sel [4]),h⟩
def ybj(d:Int)(d2:List E3)(R:(List (List Int))→Int→Prop):Prop :=
yb5 d d2 (fun r r2 =>
((r2=0 →
(∃ I2:Nat→(List (List Int))→Int→Prop,(∃ m0,I2 m0 ([]) 1)∧∀ m2 v v2,I2 m2 v v2 → 
((0≤d∧d<64) ∧
In64 (1*2^d.toNat) ∧
(In64 ((1*2^d.toNat)-1) ∧
((v2<((1*2^d.toNat)-1) →
((0≤d∧d≤1000000) ∧
(∃ I3:Nat→(List Int)→Int→(List Int)→Prop,(∃ m0,I3 m0 ([]) 0 (List.replicate d.toNat (0:Int)))∧∀ m3 v3 v4 v5,I3 m3 v3 v4 v5 → 
((v4<d →
((0≤v4∧v4<64) ∧
((0≤(v2 / 2^v4.toNat)∧(v2 / 2^v4.toNat)<9223372036854775808∧0≤(1:Int)∧(1:Int)<9223372036854775808) ∧
(((((v2 / 2^v4.toNat).toNat &&& (1:Int).toNat:Nat):Int)=1 →
(v3.length+1≤1000000000 ∧
((0≤v4∧v4<(v5.length:Int)) ∧
(In64 (v4+1) ∧
∃ m4,m4<m3∧I3 m4 (v3++[v4]) (v4+1) (v5.set v4.toNat 1))))) ∧
(¬((((v2 / 2^v4.toNat).toNat &&& (1:Int).toNat:Nat):Int)=1) →
(In64 (v4+1) ∧
∃ m5,m5<m3∧I3 m5 v3 (v4+1) v5)))))) ∧
(¬(v4<d) →
ycy d d2 v3 (fun r3 r4 =>
((r4=0 →
((r3=true →
ybR d d2 v5 (fun r5 r6 =>
((r6=0 →
(v.length+1≤1000000000 ∧
(In64 (v2+1) ∧
∃ m6,m6<m2∧I2 m6 (v++[r5]) (v2+1)))) ∧
(¬(r6=0) →
R ([]) r6)))) ∧
(¬(r3=true) →
(In64 (v2+1) ∧
∃ m7,m7<m2∧I2 m7 v (v2+1))))) ∧
(¬(r4=0) →
R ([]) r4)))))))) ∧
(¬(v2<((1*2^d.toNat)-1)) →
ydr v (fun y =>
R y 0))))))) ∧
(¬(r2=0) →
R ([]) r2)))
theorem yeU{O:Nat→Prop}{w:World}{d d2 Ad ld cd}{R:(List (List Int))→Int→Prop}(h:ybj d d2 R)(hO:∀ k,O k→k<w.heap.size)(hA0:(FP.sl c3 Ad ld cd d2).P O w) :
    Calls Tryz.prog 12 #[(.agg #[(ii d),(.slice Ad ld cd)])] w fun e w'=>∃ r7 r8 Ar3 lr3 cr3,e = .returned (.tuple #[(.slice Ar3 lr3 cr3),(ii r8)])∧Sep w no O w' (rl [Res.own (cL cI) 35 Ar3 lr3 cr3 r7])∧R r7 r8:=by
  unfold ybj at h;have hS:Sep w no O w (rl [Res.ro (FP.sl c3 Ad ld cd d2)]):=Sep.startl hO [(FP.sl c3 Ad ld cd d2)] ⟨hA0,trivial⟩;refine yal (l:=[(.agg #[(ii d),(.slice Ad ld cd)])]) func12 rfl ntmps12 zY (zs (zn (ybm (v:=(.agg #[(ii d),(.slice Ad ld cd)])) rfl ?_)));intro g w2 hN;replace hS:Sep w no O w2 (stl _ 1 (Res.box 24 g [(ii d),(.slice Ad ld cd)])):=hS.new 1 rfl hN;clear hN;refine zb (zQ (.slice none 0 0) (zQ (ii 0) (yaa (yac (zs (zq (yao (vs:=[(ii d),(.slice Ad ld cd)]) rfl underlying24 rfl yak ⟨Row.cell (hS.bx 1 rfl) (i:=0) rfl,Row.cell (hS.bx 1 rfl) (i:=1) rfl,trivial⟩) (zn (yai rfl (am1 rfl) enter_43 ((yey h (yaz _) (hS.rdr 0 rfl)).mono ?_)))))))));rintro _ w3 ⟨r,r2,Ar,lr,cr,rfl,hC,h⟩;replace hS:=hS.call1 (hC.widen (ycv (yaP (fP (fI .i64) (fI .i64)) _ _ _ _ _) ycH) hS.blt) 2 0 rfl;clear hC;refine ⟨_,rfl,?_⟩;refine zb (zM (.tuple #[(.slice Ar lr cr),(ii r2)]) (zq (zx (.slice Ar lr cr)) (zq (zx (ii r2)) (zQ (.slice Ar lr cr) (zQ (ii r2) (yaa (zs (zM (ii r2) (zq zN (yaa ?_))))))))));by_cases hp:r2=0
  · replace h:=h.1 hp;refine ze hp (yaf (zs (zQ (.slice none 0 0) (yaa (yac (zs (zQ (ii 1) (yaa (yad ?_)))))))));replace hS:=hS.nil 3 rfl (cL cI) 35;obtain ⟨I2,⟨m0,h0⟩,hr⟩:=h;refine yax (fun m E ds w'=>∃ v v2 Av lv cv,I2 m v v2∧ds=[]∧E 1=(Value.pointer (some ⟨g,0,none⟩))∧E 6=(Value.slice Av lv cv)∧E 7=(ii v2)∧Sep w no O w' (rl [Res.own (cL cI) 35 Av lv cv v,Res.box 24 g [(ii d),(.slice Ad ld cd)],Res.ro (FP.sl c3 Ad ld cd d2)])) m0 ⟨_,_,_,_,_,h0,rfl,rfl,rfl,rfl,(hS.sel [3,1,0])⟩ ?_;clear h0 hS;rintro m2 E ds w4 ⟨v,v2,Av,lv,cv,h,rfl,H1,H6,H7,hS⟩ ag;replace h:=hr m2 v v2 h;clear hr;refine yac (zs (zq (yab H7) (zq (yam H1 underlying24 rfl yag) (zq (zl underlying3 (Row.cell (hS.bx 1 rfl) (i:=0) rfl)) ?_))));obtain ⟨hz,h⟩:=h;obtain ⟨hi,h⟩:=h;refine zq (v_shl rfl rfl hz hi) ?_;obtain ⟨hi2,h⟩:=h;refine zq (zS hi2) (zq zL (yaa ?_));by_cases hp2:v2<((1*2^d.toNat)-1)
    · replace h:=h.1 hp2;refine zc hp2 (yaf (yac (yad (zs (zQ (.slice none 0 0) (yaa (zs (zq (yam H1 underlying24 rfl yag) (zq (zl underlying3 (Row.cell (hS.bx 1 rfl) (i:=0) rfl)) ?_)))))))));obtain ⟨hx,h⟩:=h;refine zn (yeX rfl rfl underlying35 yag (by decide) rfl hx ?_);intro g2 w5 hN;replace hS:=hS.made 3 rfl cI (ii 0) (0:Int) (fun _ _=>rfl) hN (by omega);clear hN;refine zb (zQ (.slice (some ⟨g2,0,none⟩) d.toNat d.toNat) (yaa (yac (zs (zq (yam H1 underlying24 rfl yag) (zq (zl underlying3 (Row.cell (hS.bx 1 rfl) (i:=0) rfl)) (zM (ii 0) (yaa (yad ?_)))))))));replace hS:=hS.nil 4 rfl cI 3;obtain ⟨I3,⟨m0,h0⟩,hr⟩:=h;refine yax (fun m E ds w'=>∃ v3 v4 v5 Av2 lv2 cv2,I3 m v3 v4 v5∧ds=[]∧E 1=(Value.pointer (some ⟨g,0,none⟩))∧E 6=(Value.slice Av lv cv)∧E 7=(ii v2)∧E 8=(Value.slice Av2 lv2 cv2)∧E 9=(Value.slice (some ⟨g2,0,none⟩) d.toNat d.toNat)∧E 34=(ii d)∧E 35=(ii v4)∧Sep w no O w' (rl [Res.own cI 3 Av2 lv2 cv2 v3,Res.box 24 g [(ii d),(.slice Ad ld cd)],Res.ro (FP.sl c3 Ad ld cd d2),Res.own (cL cI) 35 Av lv cv v,Res.own cI 3 (some ⟨g2,0,none⟩) d.toNat d.toNat v5])) m0 ⟨_,_,_,_,_,_,h0,rfl,H1,H6,H7,rfl,rfl,rfl,rfl,(hS.sel [4,1,2,0,3])⟩ ?_;clear h0 hS;rintro m3 E ds w6 ⟨v3,v4,v5,Av2,lv2,cv2,h,rfl,H1,H6,H7,H8,H9,H34,H35,hS⟩ again2;replace h:=hr m3 v3 v4 v5 h;clear hr;refine zs (zq (ydm H35 H34) (yaa (yac ?_)));by_cases hp3:v4<d
      · replace h:=h.1 hp3;refine zc hp3 (yaf (yac (yad (zs (zq (yab H35) (zQ (ii v4) (yaa (zs (zq (yab H7) (zM (ii v4) ?_))))))))));obtain ⟨hz2,h⟩:=h;refine zq (v_shr rfl rfl hz2) ?_;obtain ⟨hz3,h⟩:=h;refine zq (v_andb rfl rfl hz3) (zq zE (yaa ?_));by_cases hp4:(((v2 / 2^v4.toNat).toNat &&& (1:Int).toNat:Nat):Int)=1
        · replace h:=h.1 hp4;refine zc hp4 (zs (zq (yab H8) (zM (ii v4) (zn (yaK (l:=[(0,(ii v4))]) (cells:=[(ii v4)]) (bp1 rfl) underlying35 yag rfl rfl ?_)))));intro g3 w7 hN;replace hS:=hS.litf (n:=1) 5 rfl (fI .i64) hN ([v4]:List Int) rfl (by decide) rfl;clear hN;refine zb ?_;obtain ⟨hx2,h⟩:=h;refine zn (yfv (c:=cI) rfl rfl underlying35 underlying35 yag rfl rfl (by decide) hS 0 rfl (hS.yo 5 rfl) hx2 ?_);clear hS;intro A c w8 hS;refine zb (zQ (.slice A (lv2+1) c) (yaa (zr (zq (yab H9) (zM (ii v4) ?_)))));obtain ⟨hx3,h⟩:=h;refine zq (zi underlying35 yag (yaB (hS.rdo 4 rfl) hx3)) (zo (zt (ii 1) yag (hS.wr 4 rfl rfl hx3) ?_));intro w9 e1;replace hS:=hS.st 4 rfl rfl hx3 (x:=1) rfl e1;clear e1;refine zb (yaa (yae (zr ?_)));obtain ⟨hi3,h⟩:=h;refine zq (yb3 H35 rfl hi3) (zM (ii (v4+1)) (yaa ?_));obtain ⟨mq,hlt,h⟩:=h;exact again2 mq _ _ _ ⟨_,_,_,_,_,_,h,rfl,H1,H6,H7,rfl,H9,H34,rfl,(hS.sel [0,1,2,3,4])⟩ hlt
        · replace h:=h.2 hp4;refine zd hp4 (yaf (yae (zr ?_)));obtain ⟨hi4,h⟩:=h;refine zq (yb3 H35 rfl hi4) (zM (ii (v4+1)) (yaa ?_));obtain ⟨mq,hlt,h⟩:=h;exact again2 mq _ _ _ ⟨_,_,_,_,_,_,h,rfl,H1,H6,H7,H8,H9,H34,rfl,(hS.sel [0,1,2,3,4])⟩ hlt
      · replace h:=h.2 hp3;refine zd hp3 (yas rfl (zs (zq (yao (vs:=[(ii d),(.slice Ad ld cd)]) H1 underlying24 rfl yak ⟨Row.cell (hS.bx 1 rfl) (i:=0) rfl,Row.cell (hS.bx 1 rfl) (i:=1) rfl,trivial⟩) (zq (yab H8) (zn (yai rfl (am2 rfl rfl) enter_44 ((yhw h (yaz _) (hS.rdr 2 rfl) (hS.rdo 0 rfl)).mono ?_)))))));rintro _ w10 ⟨r3,r4,rfl,hC,h⟩;replace hS:=hS.pur hC.pure;clear hC;refine ⟨_,rfl,?_⟩;refine zb (zM (.tuple #[(.bool (r3)),(ii r4)]) (zq (zx (.bool (r3))) (zq (zx (ii r4)) (zQ (.bool (r3)) (zQ (ii r4) (yaa (yac (zs (zM (ii r4) (zq zN (yaa ?_)))))))))));by_cases hp5:r4=0
        · replace h:=h.1 hp5;refine ze hp5 (yaf (yac (zs (zM (.bool (r3)) (zq (yds rfl) (yaa ?_))))));by_cases hp6:r3=true
          · replace h:=h.1 hp6;refine yav (zC (zB hp6)) (yaf (zs (zq (yao (vs:=[(ii d),(.slice Ad ld cd)]) H1 underlying24 rfl yak ⟨Row.cell (hS.bx 1 rfl) (i:=0) rfl,Row.cell (hS.bx 1 rfl) (i:=1) rfl,trivial⟩) (zq (yab H9) ?_))));replace hS:=hS.frz 4 rfl;refine zn (yai rfl (am2 rfl rfl) enter_45 ((yfw h hS.blt (hS.ro 2 rfl) (hS.ro 4 rfl)).mono ?_));rintro _ w11 ⟨r5,r6,Ar2,lr2,cr2,rfl,hC,h⟩;replace hS:=hS.call1 hC 5 0 rfl;clear hC;refine ⟨_,rfl,?_⟩;refine zb (zM (.tuple #[(.slice Ar2 lr2 cr2),(ii r6)]) (zq (zx (.slice Ar2 lr2 cr2)) (zq (zx (ii r6)) (zQ (.slice Ar2 lr2 cr2) (zQ (ii r6) (yaa (yac (zs (zM (ii r6) (zq zN (yaa ?_)))))))))));by_cases hp7:r6=0
            · replace h:=h.1 hp7;refine ze hp7 (yaf (zr (zq (yab H6) (zM (.slice Ar2 lr2 cr2) (zn (yaK (l:=[(0,(.slice Ar2 lr2 cr2))]) (cells:=[(.slice Ar2 lr2 cr2)]) (bp1 rfl) underlying27 yaJ rfl rfl ?_))))));intro g4 w12 hN;replace hS:=hS.lit (n:=1) (c:=(cL cI)) 6 rfl hN ([r5]:List (List Int)) rfl (by decide) ⟨[(.slice Ar2 lr2 cr2)],_,rfl,(ro_R (hS.ro 5 rfl)),rfl⟩;clear hN;refine zb ?_;obtain ⟨hx4,h⟩:=h;refine zn (yfv (c:=(cL cI)) rfl rfl underlying27 underlying27 yaJ rfl rfl (by decide) hS 3 rfl (hS.yo 6 rfl) hx4 ?_);clear hS;intro A2 c4 w13 hS;refine zb (zQ (.slice A2 (lv+1) c4) (yaa (yae (zr (zq (yab H7) ?_)))));obtain ⟨hi5,h⟩:=h;refine zq (zA hi5) (zQ (ii (v2+1)) (yaa ?_));obtain ⟨mq,hlt,h⟩:=h;exact ag mq _ _ _ ⟨_,_,_,_,_,h,rfl,H1,rfl,rfl,(hS.sel [3,1,2])⟩ hlt
            · replace h:=h.2 hp7;refine zf hp7 (zs (zM (ii r6) (zQ (.slice none 0 0) (zQ (ii r6) (yaa ?_)))));replace hS:=hS.nil 6 rfl (cL cI) 35;exact ya7 rfl rfl rfl ⟨_,_,_,_,_,rfl,(hS.sel [6]),h⟩
          · replace h:=h.2 hp6;refine yaq (zC (zB (zI hp6))) (yas rfl (zr (zq (yab H7) ?_)));obtain ⟨hi6,h⟩:=h;refine zq (zA hi6) (zQ (ii (v2+1)) (yaa ?_));obtain ⟨mq,hlt,h⟩:=h;exact ag mq _ _ _ ⟨_,_,_,_,_,h,rfl,H1,H6,rfl,(hS.sel [3,1,2])⟩ hlt
        · replace h:=h.2 hp5;refine zf hp5 (zs (zM (ii r4) (zQ (.slice none 0 0) (zQ (ii r4) (yaa ?_)))));replace hS:=hS.nil 5 rfl (cL cI) 35;exact ya7 rfl rfl rfl ⟨_,_,_,_,_,rfl,(hS.sel [5]),h⟩
    · replace h:=h.2 hp2;refine zd hp2 (yas rfl (zs (zq (yab H6) ?_)));have hB:=hS.lend (asc [(0,0)]) [0] (by decide) ⟨.inl (ya5 rfl),trivial⟩;refine zn (ydt (vs:=#[(.slice Av lv cv),(.func (Fn.func 47) #[] #[])]) (us:=#[]) rfl (am2 rfl rfl) enter_46 ((ya4 (by simp) (yeH h hB)).mono ?_));rintro _ w14 ⟨y,rfl,hC,h⟩;replace hS:=hS.back (asc [(0,0)]) (ydl (by decide)) hC;clear hC hB;refine ⟨_,rfl,?_⟩;exact zb (yaa (zs (zq (yab H6) (zQ (.slice Av lv cv) (zQ (ii 0) (yaa (ya7 rfl rfl rfl ⟨_,_,_,_,_,rfl,(hS.sel [0]),h⟩)))))))
  · replace h:=h.2 hp;refine zf hp (zs (zM (ii r2) (zQ (.slice none 0 0) (zQ (ii r2) (yaa ?_)))));replace hS:=hS.nil 3 rfl (cL cI) 35;exact ya7 rfl rfl rfl ⟨_,_,_,_,_,rfl,(hS.sel [3]),h⟩
def ya2(x:List Int)(y:List Int)(R:Int→Prop):Prop :=
(∃ I2:Nat→Int→Int→Prop,(∃ m0,I2 m0 0 0)∧∀ m2 sum v,I2 m2 sum v → 
((v<(x.length:Int) →
((0≤v∧v<(x.length:Int)) ∧
((0≤v∧v<(y.length:Int)) ∧
(In64 ((gi x v.toNat)*(gi y v.toNat)) ∧
(In64 (sum+((gi x v.toNat)*(gi y v.toNat))) ∧
(In64 (v+1) ∧
∃ m3,m3<m2∧I2 m3 (sum+((gi x v.toNat)*(gi y v.toNat))) (v+1))))))) ∧
(¬(v<(x.length:Int)) →
R sum)))
theorem yck{O:Nat→Prop}{w:World}{x y Ax lx cx Ay ly cy}{R:Int→Prop}(h:ya2 x y R)(hO:∀ k,O k→k<w.heap.size)(hA0:(FP.sl cI Ax lx cx x).P O w)(hA1:(FP.sl cI Ay ly cy y).P O w) :
    Calls Tryz.prog 59 #[(.slice Ax lx cx),(.slice Ay ly cy)] w fun e w'=>∃ r,e = .returned (ii r)∧Sep w no O w' (rl [])∧R r:=by
  unfold ya2 at h;have hS:Sep w no O w (rl [Res.ro (FP.sl cI Ax lx cx x),Res.ro (FP.sl cI Ay ly cy y)]):=Sep.startl hO [(FP.sl cI Ax lx cx x),(FP.sl cI Ay ly cy y)] ⟨hA0,hA1,trivial⟩;refine yal (l:=[(.slice Ax lx cx),(.slice Ay ly cy)]) func59 rfl ntmps59 zY (zs (zQ (ii 0) (yaa (zs (zQ (ii 0) (yaa (yac (zs (zM (.slice Ax lx cx) (zq (yaG (n:=x.length) rfl underlying35 (yaD (hS.rdr 0 rfl))) (zM (ii 0) (yaa (yad ?_)))))))))))));obtain ⟨I2,⟨m0,h0⟩,hr⟩:=h;refine yax (fun m E ds w'=>∃ sum v,I2 m sum v∧ds=[]∧E 0=(Value.slice Ax lx cx)∧E 1=(Value.slice Ay ly cy)∧E 5=(ii sum)∧E 8=(ii (x.length:Int))∧E 9=(ii v)∧Sep w no O w' (rl [Res.ro (FP.sl cI Ax lx cx x),Res.ro (FP.sl cI Ay ly cy y)])) m0 ⟨_,_,h0,rfl,rfl,rfl,rfl,rfl,rfl,(hS.sel [0,1])⟩ ?_;clear h0 hS;rintro m2 E ds w2 ⟨sum,v,h,rfl,H0,H1,H5,H8,H9,hS⟩ ag;replace h:=hr m2 sum v h;clear hr;refine zs (zq (ydm H9 H8) (yaa (yac ?_)));by_cases hp:v<(x.length:Int)
  · replace h:=h.1 hp;refine zc hp (yaf (yac (yad (zs (zq (yab H9) (zQ (ii v) (yaa (ybq [0,1,2,3,4,5,6,7,8,9,10,11] st0 yaC (by kernel_rfl) (by kernel_rfl) ?_))))))));replace hS:=hS.drew;refine zp (yab H5) (zp (yab H0) (zp (zm (ii v)) ?_));obtain ⟨hx,h⟩:=h;refine zp (zi underlying35 yag (yaB (hS.rdr 0 rfl) hx)) (zp (yar (v:=(ii (gi x v.toNat))) rfl underlying3 rfl (rd_1 (hS.rdr 0 rfl) hx (fun q=>yaF q) rfl)) ?_);refine zp (yab H1) (zp (zm (ii v)) ?_);obtain ⟨hx2,h⟩:=h;refine zp (zi underlying35 yag (yaB (hS.rdr 1 rfl) hx2)) (zp (yar (v:=(ii (gi y v.toNat))) rfl underlying3 rfl (rd_1 (hS.rdr 1 rfl) hx2 (fun q=>yaF q) rfl)) ?_);obtain ⟨hi,h⟩:=h;refine zp (v_mul rfl rfl hi) ?_;obtain ⟨hi2,h⟩:=h;refine zp (zA hi2) (zp (za (ii (sum+((gi x v.toNat)*(gi y v.toNat))))) (ybH (yae (zr ?_))));obtain ⟨hi3,h⟩:=h;refine zq (yb3 H9 rfl hi3) (zM (ii (v+1)) (yaa ?_));obtain ⟨mq,hlt,h⟩:=h;exact ag mq _ _ _ ⟨_,_,h,rfl,H0,H1,rfl,H8,rfl,(hS.sel [0,1])⟩ hlt
  · replace h:=h.2 hp;exact zd hp (yas rfl (zs (zq (yab H5) (zQ (ii sum) (yaa (yah rfl rfl ⟨_,rfl,(hS.sel []),h⟩))))))
end Go.Proofs.YtencmgolklfmkaaGreat
