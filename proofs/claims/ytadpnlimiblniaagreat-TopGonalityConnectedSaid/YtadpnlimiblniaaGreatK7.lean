/- Texts laid together: Srt, SrtK, Pcm, LayE, SrtE, PGa, TabT, PGb, PFe, Mk, Gnm, Ind, Go. -/
import Derived.Shelf.SlSortCmp.NoneTotal
import Derived.Shelf.SlLaysF0
import Derived.Test.YtadpnlimiblniaaGreatChecked
import Derived.Test.YtadpnlimiblniaaGreatK6
set_option linter.unusedVariables false
set_option linter.unusedSimpArgs false
set_option linter.unusedSectionVars false
/- slices.SortFunc at slices of one's own: the kit's contract, said of what is owned. Elements of one cell. No program in sight. -/
namespace Go.Proofs.YtadpnlimiblniaaGreat
open Go Go.RowKit Go.Shelf Go.Lib Go.Sort Go.Proofs.Tryz
theorem yjs{α:Type} [Inhabited α](enc:α→Value)(w:World)(blk off m:Nat)(d:Array α)(os:Array Obj):Keeps (fun k=>k=blk) w (sortWorld enc w blk off m d os):=by
  refine ⟨rfl,rfl,rfl,?_,fun k hk hn=>?_⟩
  · show w.heap.size≤((w.heap.modify blk (onCells (putCells enc off d)))++os).size
    simp
  · show ((w.heap.modify blk (onCells (putCells enc off d)))++os)[k]? = _
    rw [Array.getElem?_append_left (by simpa using hk),Array.getElem?_modify,if_neg (fun q=>hn q.symm)]
theorem sortWorld_at{α:Type} [Inhabited α](enc:α→Value)(w:World)(blk off m:Nat)(d:Array α)(os:Array Obj){cur:Array Value}{e:TypeId}{fr:Nat×Nat}(h:w.heap[blk]? = some (.cells cur e fr)):(sortWorld enc w blk off m d os).heap[blk]? = some (.cells (putCells enc off d cur) e fr):=by
  show ((w.heap.modify blk (onCells (putCells enc off d)))++os)[blk]? = _
  have hb:=(Array.getElem?_eq_some_iff.1 h).1
  rw [Array.getElem?_append_left (by simpa using hb),Array.getElem?_modify,if_pos rfl,h]
  rfl
section
variable {P : Program} {ρ : Ren} {τ : Type} {c : Cod τ} {cf : τ → τ → Int} {g : Nat}
end
end Go.Proofs.YtadpnlimiblniaaGreat

/- slices.SortFunc at slices of one's own whose elements are structs of numbers: the kit's contract, said of what is owned. No program in sight. -/
namespace Go.Proofs.YtadpnlimiblniaaGreat
open Go Go.RowKit Go.Shelf Go.Lib Go.Sort Go.Proofs.Tryz
theorem flatK_at{τ:Type} [Inhabited τ]{f:Fl τ}{d:Array τ}{k j:Nat}{x:τ}{u:Value}(hx:d[k]? = some x)(hu:(f.enc x)[j]? = some u):k*f.sz+j<d.size*f.sz∧(flatK f.enc f.sz d)[k*f.sz+j]? = some u:=by
  have hk:=(Array.getElem?_eq_some_iff.1 hx).1
  have hj:=(List.getElem?_eq_some_iff.1 hu).1
  rw [f.len] at hj
  have hlt:k*f.sz+j<d.size*f.sz:=by
    have:(k+1)*f.sz≤d.size*f.sz:=Nat.mul_le_mul_right _ hk
    rw [Nat.add_mul] at this;omega
  refine ⟨hlt,?_⟩
  have h1:=get_flatK f.enc f.sz d (k*f.sz+j) hlt
  have e1:(k*f.sz+j) / f.sz=k:=by
    rw [Nat.mul_comm,Nat.mul_add_div (by omega),Nat.div_eq_of_lt hj];omega
  have e2:(k*f.sz+j) % f.sz=j:=by
    rw [Nat.mul_comm,Nat.mul_add_mod,Nat.mod_eq_of_lt hj]
  rw [e1,e2] at h1
  have e3:d[k]! = x:=by rw [getElem!_pos d k hk];rw [Array.getElem?_eq_getElem hk] at hx;exact Option.some.inj hx
  rw [e3,getElem!_pos _ _ (by simpa using hlt),getElem!_pos _ _ (by rw [f.len];exact hj)] at h1
  rw [Array.getElem?_eq_getElem (by simpa using hlt),h1]
  rw [List.getElem?_eq_getElem (by rw [f.len];exact hj)] at hu
  exact hu
section
variable {P : Program} {ρ : Ren} {τ : Type} [Inhabited τ] {f : Fl τ} {cf : τ → τ → Int} {g : Nat}
theorem srt_ownK(L:SlLaysF0.n6 P ρ)(aE:∀ w,(isAgg (ρ.t 24)).run P w = .ok true w)(zE:∀ w,(Go.sizeOf (ρ.t 24)).run P w = .ok f.sz w)(hO:SWO (ltOf cf))(eg:Enters P g)
    {w:World} {S O:Nat→Prop} {e:TypeId} {A:Option Addr} {l cap:Nat} {xs:List τ} {R:List τ→Prop}
    (hcmp:∀ W x y,Calls P g #[.agg (f.enc x).toArray, .agg (f.enc y).toArray] W fun e w'=>e = .returned (.int .i64 (cf x y))∧∃ q os',w'=grow (W.drewN q) os')
    (hlen:xs.length≤1000000000) (h:∀ zs,zs.Perm xs→zs.Pairwise (fun a b=>¬cf b a<0)→R zs)
    (hS:Sep w S O w (rl [Res.own f.cod e A l cap xs])):Calls P (ρ.f 6) #[.slice A l cap, .func (.func g) #[] #[]] w fun e' w'=>∃ zs,e' = .returned (.tuple #[])∧Sep w S O w' (rl [Res.own f.cod e A l cap zs])∧R zs:=by
  obtain ⟨hl,cells,ho,hc⟩:=hS.own 0 rfl
  by_cases h0:xs=[]
  · subst h0
    simp at hl
    subst hl
    refine (AnyF.slices_SortFunc_none { L with } A cap _ w).mono ?_
    rintro _ w' ⟨rfl,rfl⟩
    exact ⟨[],rfl,hS,h [] (List.Perm.refl _) List.Pairwise.nil⟩
  · have hlp:0<xs.length:=List.length_pos_iff.2 h0
    rcases ho.2 with ⟨_,q,_⟩ | ⟨gb,o,cur,rfl,hb,hg,hlc,hcm,hsz,hcur⟩
    · omega
    · have hsz2:o+cap*f.sz≤cur.size:=hsz
      have hlt:gb<w.heap.size:=(Array.getElem?_eq_some_iff.1 hg).1
      have hll:l=xs.toArray.size:=by rw [hl];simp
      have hcm2:xs.toArray.size<4611686018427387904:=by rw [←hll,hl];exact Nat.lt_of_le_of_lt hlen (by decide)
      have hmain:=AnyQ.slices_SortFunc L f.sz aE zE f.enc f.len f.one cf hO g #[] gb o cap xs.toArray w eg
        (fun m os dk _ x y=>by rw [Array.append_empty];exact hcmp _ x y)
        (fun t ht=>by
          have ht:t<xs.toArray.size*f.sz:=by simpa using ht
          have hz : 0 < f.sz := by rcases Nat.eq_zero_or_pos f.sz with q | q; · rw [q] at ht; simp at ht
                                   · exact q
          have hk:t / f.sz<xs.length:=by have:=Nat.div_lt_of_lt_mul (by rw [Nat.mul_comm] at ht;exact ht:t<f.sz*xs.toArray.size);simpa using this
          have hj:t % f.sz<f.sz:=Nat.mod_lt _ hz
          obtain ⟨vs,hR,hv⟩:=hc (t / f.sz) xs[t / f.sz] (List.getElem?_eq_getElem hk)
          have hR:vs=f.enc xs[t / f.sz]:=hR
          subst hR
          have hu:(f.enc xs[t / f.sz])[t % f.sz]? = some ((f.enc xs[t / f.sz])[t % f.sz]'(by rw [f.len];exact hj)):=List.getElem?_eq_getElem _
          have hcell:=hv _ _ hu
          have e1:t / f.cod.sz*f.cod.sz+t % f.sz=t:=by
            show t / f.sz*f.sz+t % f.sz=t
            rw [Nat.mul_comm];exact Nat.div_add_mod t f.sz
          have e1':t / f.sz*f.cod.sz+t % f.sz=t:=e1
          rw [e1'] at hcell
          obtain ⟨g',o',e',_,h1,h2⟩:=ho.cellAt hcell
          cases e'
          have hfl:=(flatK_at (f:=f) (d:=xs.toArray) (k:=t / f.sz) (by simp [List.getElem?_eq_getElem hk]) hu).2
          have e2:t / f.sz*f.sz+t % f.sz=t:=e1
          rw [e2] at hfl
          refine ⟨?_,h2⟩
          rw [h1,getElem!_pos _ t (by simpa using ht)]
          rw [Array.getElem?_eq_getElem (by simpa using ht)] at hfl
          rw [Option.some.inj hfl];rfl) hlt hcm2
      rw [←hll] at hmain
      refine hmain.mono ?_
      rintro _ w' ⟨rfl,d',n,os,⟨p1,p2,p3⟩,hs,rfl⟩
      have hd'l:d'.size=l:=by rw [p1,hll]
      have hp:d'.toList.Perm xs:=by
        have e1:d'.extract 0 l=d':=by rw [←hd'l];exact Array.extract_size
        have e2:xs.toArray.extract 0 l=xs.toArray:=by rw [hll];exact Array.extract_size
        rwa [e1,e2] at p3
      refine ⟨d'.toList,rfl,?_,h _ hp ?_⟩
      · have hK:=yjs (id:Value→Value) w gb o n (flatK f.enc f.sz d') os
        have hfs:(flatK f.enc f.sz d').size=l*f.sz:=by rw [size_flatK,hd'l]
        refine (hS.upd 0 (Res.own f.cod e (some ⟨gb,o,none⟩) l cap d'.toList) hK (fun k _ hk=>by rw [hk];rfl) (fun k hk => .inl hk) ?_).sel [0] (by decide)
        have hlm:l*f.sz≤cap*f.sz:=Nat.mul_le_mul_right _ hlc
        refine ⟨by simp [hd'l],(flatK f.enc f.sz d').toList,⟨by rw [Array.length_toList,hfs];rfl, .inr ⟨gb,o,_,rfl,Nat.zero_le _,sortWorld_at _ w gb o n (flatK f.enc f.sz d') os hg,hlc,hcm,by show o+cap*f.sz≤_;simpa [putCells] using hsz2,?_⟩⟩,fun k x hx=>?_⟩
        · show List.take (l*f.sz) _=_
          apply List.ext_getElem?
          intro i
          rw [List.getElem?_take]
          by_cases hi:i<l*f.sz
          · rw [if_pos hi,List.getElem?_drop,Array.getElem?_toList]
            have hic:o+i<cur.size:=by omega
            rw [putCells,Array.getElem?_mapIdx,Array.getElem?_eq_getElem hic,Option.map_some,if_pos ⟨by omega,by omega⟩,show o+i-o=i by omega,Array.getElem?_toList,Array.getElem?_eq_getElem (by omega),getElem!_pos _ _ (by omega)]
            rfl
          · rw [if_neg hi,List.getElem?_eq_none (by rw [Array.length_toList];omega)]
        · refine ⟨f.enc x,rfl,fun j u hj=>?_⟩
          rw [Array.getElem?_toList] at hx ⊢
          exact (flatK_at hx hj).2
      · rw [List.pairwise_iff_getElem]
        intro i j hi hj hij
        have hj':j<d'.size:=by simpa using hj
        have:=hs i j (Nat.zero_le _) hij (by omega)
        rw [getElem!_pos d' j hj',getElem!_pos d' i (by omega)] at this
        simpa [ltOf] using this
end
end Go.Proofs.YtadpnlimiblniaaGreat

/- The order of edges, and what it does to the world, to the letter. -/
namespace Go.Proofs.YtadpnlimiblniaaGreat
open Go Go.RowKit Go.Sort Go.Proofs.Tryz
set_option maxRecDepth 100000
set_option maxHeartbeats 400000
def Gr(w w':World):Prop:=∃ (q:Nat) (os':Array Obj),w'=grow (w.drewN q) os'
theorem Gr.refl(w:World):Gr w w:=⟨0,#[],by rw [grow_empty];rfl⟩
theorem Gr.drewN{a w:World}(h:Gr a w)(n:Nat):Gr a (w.drewN n):=by
  obtain ⟨q,os',rfl⟩:=h
  exact ⟨q+n,os',by unfold grow World.drewN;simp [Nat.add_assoc]⟩
theorem Gr.drew{a w:World}(h:Gr a w):Gr a w.drew:=h.drewN 1
theorem Gr.alloc{a w:World}(h:Gr a w)(o:Obj):Gr a (w.alloc o):=by
  obtain ⟨q,os',rfl⟩:=h
  exact ⟨q,os' ++ #[o],by rw [alloc_eq_grow,grow_grow]⟩
theorem Gr.trans{a b c:World}(h:Gr a b)(k:Gr b c):Gr a c:=by
  obtain ⟨q,os',rfl⟩:=h
  obtain ⟨q2,os2,rfl⟩:=k
  refine ⟨q+q2,os'++os2,?_⟩
  rw [←grow_grow]
  unfold grow World.drewN
  simp [Nat.add_assoc]
theorem pcompareG(a b c d:Int)(w:World):Calls Tryz.prog 133 #[.agg #[.int .i64 a, .int .i64 b], .agg #[.int .i64 c, .int .i64 d]] w fun e w' =>
    e = .returned (.int .i64 (ydR a b c d))∧Gr w w':=by
  go_enter func133,ntmps133
  go_wp2
  go_region_held3 (fun w'=>w'.cell? ⟨w.heap.size,0,none⟩=some (.int .i64 a)∧w'.cell? ⟨w.heap.size,1,none⟩=some (.int .i64 b)∧w'.cell? ⟨w.heap.size+1,0,none⟩=some (.int .i64 c)∧w'.cell? ⟨w.heap.size+1,1,none⟩=some (.int .i64 d)) (simp [go_sem,World.cell?_alloc_past])
    (first
      | (go_at_call 134;refine (yjc _ _ _).mono ?_;rintro e w' ⟨rfl,rfl⟩)
      | (go_at_call 156;refine (or_two _ _ (cmpF a c) (cmpF b d) _ (by simp [go_sem]) (by simp [go_sem])).mono ?_;rintro e w' ⟨rfl,rfl⟩))
  go_wp2
  go_ret
  exact ⟨rfl,by repeat (first | exact Gr.refl _ | assumption | refine Gr.drew ?_ | refine Gr.drewN ?_ _ | refine Gr.alloc ?_ _)⟩
theorem edge_order(x y:E3)(w:World):Calls Tryz.prog 161 #[.agg #[.int .i64 x.1, .int .i64 x.2.1, .int .i64 x.2.2], .agg #[.int .i64 y.1, .int .i64 y.2.1, .int .i64 y.2.2]] w fun e w' =>
    e = .returned (.int .i64 (ydR x.1 x.2.1 y.1 y.2.1))∧Gr w w':=by
  go_enter func161,ntmps161
  go_wp2_with (first | (go_at_call 133;refine (pcompareG _ _ _ _ _).mono ?_;rintro e w' ⟨rfl,hG⟩))
  go_ret
  exact ⟨rfl,by first | (refine Gr.trans ?_ hG;repeat (first | exact Gr.refl _ | assumption | refine Gr.drew ?_ | refine Gr.drewN ?_ _ | refine Gr.alloc ?_ _)) | (repeat (first | exact Gr.refl _ | assumption | refine Gr.drew ?_ | refine Gr.drewN ?_ _ | refine Gr.alloc ?_ _))⟩
end Go.Proofs.YtadpnlimiblniaaGreat

/- slices.SortFunc lies in this program. -/
namespace Go.Proofs.YtadpnlimiblniaaGreat
open Go Go.Shelf Go.Proofs.Tryz
def sortE_ren:Go.Shelf.Ren:=⟨fun | 6=>160 | 15=>173 | 14=>172 | 28=>189 | 29=>190 | 20=>181 | 21=>182 | 22=>183 | 23=>184 | 24=>185 | 25=>186 | 26=>187 | 27=>188 | 46=>194 | 47=>195 | 48=>196 | 49=>197 | 50=>198 | 57=>201 | n=>n,fun | 22=>22 | 24=>79 | 25=>187 | 3=>3 | 39=>201 | 0=>0 | 53=>217 | 55=>219 | 4=>4 | 46=>211 | 45=>210 | 50=>123 | 5=>5 | 9=>9 | 66=>224 | 70=>228 | 76=>232 | 77=>37 | n=>n,fun | n=>n⟩
theorem sortE:Go.Proofs.SlLaysF0.n6 Tryz.prog sortE_ren:={
  mixed:=by kernel_rfl
  f6:=⟨Tryz.f160.name,by decide,func160.trans (congrArg some (by kernel_rfl))⟩
  f14:=⟨Tryz.f172.name,by decide,func172.trans (congrArg some (by kernel_rfl))⟩
  f15:=func173.trans (congrArg some (by kernel_rfl))
  f20:=⟨Tryz.f181.name,by decide,func181.trans (congrArg some (by kernel_rfl))⟩
  f21:=⟨Tryz.f182.name,by decide,func182.trans (congrArg some (by kernel_rfl))⟩
  f22:=⟨Tryz.f183.name,by decide,func183.trans (congrArg some (by kernel_rfl))⟩
  f23:=⟨Tryz.f184.name,by decide,func184.trans (congrArg some (by kernel_rfl))⟩
  f24:=⟨Tryz.f185.name,by decide,func185.trans (congrArg some (by kernel_rfl))⟩
  f25:=⟨Tryz.f186.name,by decide,func186.trans (congrArg some (by kernel_rfl))⟩
  f26:=⟨Tryz.f187.name,by decide,func187.trans (congrArg some (by kernel_rfl))⟩
  f27:=⟨Tryz.f188.name,by decide,func188.trans (congrArg some (by kernel_rfl))⟩
  f28:=func189.trans (congrArg some (by kernel_rfl))
  f29:=func190.trans (congrArg some (by kernel_rfl))
  f46:=⟨Tryz.f194.name,by decide,func194.trans (congrArg some (by kernel_rfl))⟩
  f47:=func195.trans (congrArg some (by kernel_rfl))
  f48:=func196.trans (congrArg some (by kernel_rfl))
  f49:=⟨Tryz.f197.name,by decide,func197.trans (congrArg some (by kernel_rfl))⟩
  f50:=⟨Tryz.f198.name,by decide,func198.trans (congrArg some (by kernel_rfl))⟩
  f57:=⟨Tryz.f201.name,by decide,func201.trans (congrArg some (by kernel_rfl))⟩
  t0:=underlying0
  a0:=Tryz.isAgg0
  z0:=Tryz.sizeOf0
  v0:=Tryz.zeroValue0
  t3:=underlying3
  a3:=Tryz.isAgg3
  z3:=Tryz.sizeOf3
  v3:=Tryz.zeroValue3
  t4:=underlying4
  a4:=Tryz.isAgg4
  z4:=Tryz.sizeOf4
  v4:=Tryz.zeroValue4
  t5:=underlying5
  a5:=Tryz.isAgg5
  z5:=Tryz.sizeOf5
  v5:=Tryz.zeroValue5
  t9:=underlying9
  a9:=Tryz.isAgg9
  z9:=Tryz.sizeOf9
  v9:=Tryz.zeroValue9
  t22:=underlying22
  a22:=Tryz.isAgg22
  z22:=Tryz.sizeOf22
  v22:=Tryz.zeroValue22
  t25:=underlying187
  a25:=Tryz.isAgg187
  z25:=Tryz.sizeOf187
  v25:=Tryz.zeroValue187
  t39:=underlying201
  a39:=Tryz.isAgg201
  z39:=Tryz.sizeOf201
  v39:=Tryz.zeroValue201
  t45:=underlying210
  a45:=Tryz.isAgg210
  z45:=Tryz.sizeOf210
  v45:=Tryz.zeroValue210
  t46:=underlying211
  a46:=Tryz.isAgg211
  z46:=Tryz.sizeOf211
  v46:=Tryz.zeroValue211
  t50:=underlying123
  a50:=Tryz.isAgg123
  z50:=Tryz.sizeOf123
  v50:=Tryz.zeroValue123
  t53:=underlying217
  a53:=Tryz.isAgg217
  z53:=Tryz.sizeOf217
  v53:=Tryz.zeroValue217
  t55:=underlying219
  a55:=Tryz.isAgg219
  z55:=Tryz.sizeOf219
  v55:=Tryz.zeroValue219
  t66:=underlying224
  a66:=Tryz.isAgg224
  z66:=Tryz.sizeOf224
  v66:=Tryz.zeroValue224
  t70:=underlying228
  a70:=Tryz.isAgg228
  z70:=Tryz.sizeOf228
  v70:=Tryz.zeroValue228
  t76:=underlying232
  a76:=Tryz.isAgg232
  z76:=Tryz.sizeOf232
  v76:=Tryz.zeroValue232
  t77:=underlying37
  a77:=Tryz.isAgg37
  z77:=Tryz.sizeOf37
  v77:=Tryz.zeroValue37 }
end Go.Proofs.YtadpnlimiblniaaGreat

/- The sort of edges: slices.SortFunc at structs. -/
namespace Go.Proofs.YtadpnlimiblniaaGreat
open Go Go.RowKit Go.Shelf Go.Sort Go.Proofs.Tryz
set_option maxRecDepth 100000
set_option maxHeartbeats 400000
theorem yf4{a b c d:Int} : ydR a b c d<0↔a<c∨(a=c∧b<d):=by
  unfold ydR orF cmpF
  by_cases h1:a<c <;> by_cases h2:c<a <;> by_cases h3:b<d <;> by_cases h4:d<b <;> simp [h1,h2,h3,h4] <;> omega
theorem swo_edges:SWO (ltOf fun x y:E3=>ydR x.1 x.2.1 y.1 y.2.1):=by
  refine ⟨fun a=>?_,fun a b d h1 h2=>?_,fun a b d h1 h2=>?_⟩
  · simp only [ltOf,decide_eq_false_iff_not,yf4];omega
  · simp only [ltOf,decide_eq_true_iff,yf4] at *;omega
  · simp only [ltOf,decide_eq_false_iff_not,yf4] at *;omega
def yhR(xs:List E3)(R:List E3→Prop):Prop:=xs.length≤1000000000∧∀ zs:List E3,zs.Perm xs→zs.Pairwise (fun a b=>¬ydR b.1 b.2.1 a.1 a.2.1<0)→R zs
theorem pok_sort_edges{S O:Nat→Prop}{w:World}{xs:List E3}{A:Option Addr}{l c:Nat}{t:TypeId}{R:List E3→Prop}(h:yhR xs R)(hS:Sep w S O w (rl [Res.own c3 t A l c xs])) :
    Calls Tryz.prog 160 #[.slice A l c, .func (.func 161) #[] #[]] w fun e w'=>∃ z:List E3,e = .returned (.tuple #[])∧Sep w S O w' (rl [Res.own c3 t A l c z])∧R z :=
  (srt_ownK (f:=fP (fI .i64) (fP (fI .i64) (fI .i64))) (cf:=fun x y:E3=>ydR x.1 x.2.1 y.1 y.2.1) sortE (fun w=>yf6 (t:=79) underlying79 rfl w) (fun w=>ybB (t:=79) yaK w) swo_edges enter_161 (fun W x y=>(edge_order x y W).mono fun e w' ⟨h1,h2⟩=>⟨h1,h2⟩) h.1 h.2 hS).mono fun e w' ⟨z,h1,h2,h3⟩=>⟨z,h1,h2,h3⟩
end Go.Proofs.YtadpnlimiblniaaGreat

/- Pure forms of functions, made by program (pf.py), each with the proof that the code does so. -/
namespace Go.Proofs.YtadpnlimiblniaaGreat
open Go Go.RowKit Go.Shelf Go.Proofs.Tryz
set_option maxRecDepth 100000
set_option maxHeartbeats 8000000
def ybd(g:Int)(g2:List E3)(R:Int→Prop):Prop :=
ydf g g2 (fun r r2 =>
((r2=0 →
((r=true →
R 0) ∧
(¬(r=true) →
R 13))) ∧
(¬(r2=0) →
R r2)))
theorem ybP{O:Nat→Prop}{w:World}{g g2 Ag lg cg}{R:Int→Prop}(h:ybd g g2 R)(hO:∀ k,O k→k<w.heap.size)(hA0:(FP.sl c3 Ag lg cg g2).P O w) :
    Calls Tryz.prog 69 #[(.agg #[(ii g),(.slice Ag lg cg)])] w fun e w'=>∃ r3,e = .returned (ii r3)∧Sep w no O w' (rl [])∧R r3:=by
  unfold ybd at h;have hS:Sep w no O w (rl [Res.ro (FP.sl c3 Ag lg cg g2)]):=Sep.startl hO [(FP.sl c3 Ag lg cg g2)] ⟨hA0,trivial⟩;refine yap (l:=[(.agg #[(ii g),(.slice Ag lg cg)])]) func69 rfl ntmps69 zY (zs (zn (ya8 (v:=(.agg #[(ii g),(.slice Ag lg cg)])) rfl ?_)));intro g3 w2 hN;replace hS:Sep w no O w2 (stl _ 1 (Res.box 24 g3 [(ii g),(.slice Ag lg cg)])):=hS.new 1 rfl hN;clear hN;refine zb (zQ (ii 0) (yaa (zs (zq (yaq (vs:=[(ii g),(.slice Ag lg cg)]) rfl underlying24 rfl yao ⟨Row.cell (hS.bx 1 rfl) (i:=0) rfl,Row.cell (hS.bx 1 rfl) (i:=1) rfl,trivial⟩) (zn (yam rfl (am1 rfl) enter_112 ((yem h (yaB _) (hS.rdr 0 rfl)).mono ?_)))))));rintro _ w3 ⟨r,r2,rfl,hC,h⟩;replace hS:=hS.pur hC.pure;clear hC;refine ⟨_,rfl,?_⟩;refine zb (zM (.tuple #[(.bool (r)),(ii r2)]) (zq (zx (.bool (r))) (zq (zx (ii r2)) (zQ (.bool (r)) (zQ (ii r2) (yaa (yaf (yai (zs (zM (ii r2) (zq zN (zQ (.bool (!(decide (r2=0)))) (yaa ?_)))))))))))));by_cases hp:r2=0
  · replace h:=h.1 hp;refine ze hp (zs (zM (.bool (r)) (zq (ycX rfl) (zQ (.bool (!(r))) (yaa ?_)))));by_cases hp2:r=true
    · replace h:=h.1 hp2;exact yat (zC (zB hp2)) (yag (yah (zs (zQ (ii 0) (yaa (yak rfl rfl ⟨_,rfl,(hS.sel []),h⟩))))))
    · replace h:=h.2 hp2;exact yar (zC (zB (zI hp2))) (zs (zQ (ii 13) (yaa (yak rfl rfl ⟨_,rfl,(hS.sel []),h⟩))))
  · replace h:=h.2 hp;exact zf hp (zs (zM (ii r2) (zQ (ii r2) (yaa (yak rfl rfl ⟨_,rfl,(hS.sel []),h⟩)))))
def ydP(a:Int)(b:Int)(R:Int→Int→Prop):Prop :=
R (mnF a b) (mxF a b)
theorem yiE{O:Nat→Prop}{w:World}{a b}{R:Int→Int→Prop}(h:ydP a b R)(hO:∀ k,O k→k<w.heap.size) :
    Calls Tryz.prog 142 #[(ii a),(ii b)] w fun e w'=>∃ r r2,e = .returned (.agg #[(ii r),(ii r2)])∧Sep w no O w' (rl [])∧R r r2:=by
  unfold ydP at h;have hS:Sep w no O w (rl []):=Sep.start w hO;refine yap (l:=[(ii a),(ii b)]) func142 rfl ntmps142 zY (zs (zn (yaO ybl ?_)));intro g w2 hN;replace hS:Sep w no O w2 (stl _ 0 (Res.box 133 g [(ii 0),(ii 0)])):=hS.new 0 rfl hN;clear hN;refine zb (yaa (zs (zM (ii a) (zM (ii b) (zq (yja rfl rfl) (zM (ii a) (zM (ii b) (zq (v_max2 rfl rfl) (zn (yck (l:=[(0,(ii (mnF a b))),(1,(ii (mxF a b)))]) (cells:=[(ii (mnF a b)),(ii (mxF a b))]) (places:=[(0,1),(1,1)]) (bp2 rfl rfl) underlying133 ybl (by kernel_rfl) rfl ?_))))))))));refine zb (zo (yaV (b:=g) (o:=0) (cells:=#[(ii (mnF a b)),(ii (mxF a b))]) rfl rfl ybl rfl rfl (yaI (hS.bx 0 rfl) zY) ?_));intro w3 e1;replace hS:=hS.bstn 0 rfl 0 [(ii (mnF a b)),(ii (mxF a b))] e1;clear e1;exact zb (yaa (yg1 rfl (rv_n (vs:=[(ii (mnF a b)),(ii (mxF a b))]) rfl underlying133 rfl ybl ⟨Row.cell (hS.bx 0 rfl) (i:=0) rfl,Row.cell (hS.bx 0 rfl) (i:=1) rfl,trivial⟩) ⟨_,_,rfl,(hS.sel []),h⟩))
def ycK(m2:List (List Int×Int))(n:Int)(R:Int→(List E3)→Prop):Prop :=
(∃ I2:Nat→(List E3)→(List Nat)→Prop,(∃ m0,I2 m0 ([]) ([]))∧∀ m3 g4 seen,I2 m3 g4 seen → 
(KOk 2 m2 ∧
((∀ (j:Nat) (ka kb:Int) (kv:Int),m2[j]? = some ([ka,kb],kv)→j∉seen →
(g4.length+1≤1000000000 ∧
∃ m4,m4<m3∧I2 m4 (g4++[(ka,kb,kv)]) (seen++[j]))) ∧
((∀ j:Nat,j<m2.length→j∈seen) →
yhR g4 (fun y =>
R n y)))))
theorem yhr{S O:Nat→Prop}{w:World}{m2 n gm}{R:Int→(List E3)→Prop}(h:ycK m2 n R)(hS:Sep w S O w (rl [Res.obj gm (mapO (Value.int .i64) m2)])) :
    Calls Tryz.prog 143 #[(Value.map (some gm)),(ii n)] w fun e w'=>∃ r r2 Ar lr cr,e = .returned (.agg #[(ii r),(.slice Ar lr cr)])∧Sep w S O w' (rl [Res.obj gm (mapO (Value.int .i64) m2),Res.own c3 79 Ar lr cr r2])∧R r r2:=by
  unfold ycK at h;refine yap (l:=[(Value.map (some gm)),(ii n)]) func143 rfl ntmps143 zY (zs (zn (yaO yao ?_)));intro g w2 hN;replace hS:Sep w S O w2 (stl _ 1 (Res.box 24 g [(ii 0),(.slice none 0 0)])):=hS.new 1 rfl hN;clear hN;refine zb (yaa (zs (zM (ii n) (zn (yck (l:=[(0,(ii n))]) (cells:=[(ii n),(.slice none 0 0)]) (places:=[(0,1),(1,1)]) (bp1 rfl) underlying24 yao (by kernel_rfl) rfl ?_)))));refine zb (zn (yaO yao ?_));intro g2 w3 hN;replace hS:Sep w S O w3 (stl _ 2 (Res.box 24 g2 [(ii 0),(.slice none 0 0)])):=hS.new 2 rfl hN;clear hN;refine zb (zo (yaV (b:=g2) (o:=0) (cells:=#[(ii n),(.slice none 0 0)]) rfl rfl yao rfl rfl (yaI (hS.bx 2 rfl) zY) ?_));intro w4 e1;replace hS:=hS.bstn 2 rfl 0 [(ii n),(.slice none 0 0)] e1;clear e1;refine zb (yaa (yaf (zs (zM (Value.map (some gm)) (zn (n_range rfl underlying170 (hS.mp 0 rfl) ?_))))));intro g3 w5 e1 e2;replace hS:Sep w S O w5 (stl _ 3 (Res.obj g3 (mitO gm m2.length ([])))):=hS.newm 3 rfl e1 e2;clear e1 e2;refine zb (yaa (yai ?_));replace hS:=hS.nil 4 rfl c3 79;obtain ⟨I2,⟨m0,h0⟩,hr⟩:=h;refine yaz (fun m E ds w'=>∃ g4 seen Ag lg cg,I2 m g4 seen∧ds=[]∧E 0=(Value.map (some gm))∧E 4=(Value.pointer (some ⟨g,0,none⟩))∧E 5=(Value.pointer (some ⟨g2,0,none⟩))∧E 11=(Value.pointer (some ⟨g3,0,none⟩))∧Sep w S O w' (rl [Res.obj gm (mapO (Value.int .i64) m2),Res.box 24 g [(ii 0),(.slice none 0 0)],Res.box 24 g2 [(ii n),(.slice Ag lg cg)],Res.own c3 79 Ag lg cg g4,Res.obj g3 (mitO gm m2.length seen)])) m0 ⟨_,_,_,_,_,h0,rfl,rfl,rfl,rfl,rfl,(hS.sel [0,1,2,4,3])⟩ ?_;clear h0 hS;rintro m3 E ds w6 ⟨g4,seen,Ag,lg,cg,h,rfl,H0,H4,H5,H11,hS⟩ ag;replace h:=hr m3 g4 seen h;clear hr;refine zs ?_;obtain ⟨hx,h⟩:=h;refine zn (n_next2 (vE:=(Value.int .i64)) (seen:=seen) hx H11 (hS.mp 4 rfl) (hS.mp 0 rfl) ?_ ?_)
  · intro hall;replace h:=h.2 hall;clear hall;refine zb (zq (zx (.bool (false))) (yaa (yaf (yat rfl (yax rfl (zs (zq (yan H5 underlying24 rfl ybv) (zq (zl underlying22 (Row.cell (hS.bx 2 rfl) (i:=1) rfl)) ?_))))))));have hB:=hS.lend (asc [(3,0)]) [3] (by decide) ⟨.inl (ybE rfl),trivial⟩;refine zn (ydx (vs:=#[(.slice Ag lg cg),(.func (Fn.func 161) #[] #[])]) (us:=#[]) rfl (am2 rfl rfl) enter_160 ((ya4 (by simp) (pok_sort_edges h hB)).mono ?_));rintro _ w13 ⟨y,rfl,hC,h⟩;replace hS:=hS.back (asc [(3,0)]) (yey (by decide)) hC;clear hC hB;refine ⟨_,rfl,?_⟩;refine zb (yaa (zs (zq (yaq (vs:=[(ii n),(.slice Ag lg cg)]) H5 underlying24 rfl yao ⟨Row.cell (hS.bx 2 rfl) (i:=0) rfl,Row.cell (hS.bx 2 rfl) (i:=1) rfl,trivial⟩) (zo (yaV (b:=g) (o:=0) (cells:=#[(ii n),(.slice Ag lg cg)]) H4 rfl yao rfl rfl (yaI (hS.bx 1 rfl) zY) ?_)))));intro w14 e1;replace hS:=hS.bstn 1 rfl 0 [(ii n),(.slice Ag lg cg)] e1;clear e1;exact zb (yaa (yg1 rfl (rv_n (vs:=[(ii n),(.slice Ag lg cg)]) H4 underlying24 rfl yao ⟨Row.cell (hS.bx 1 rfl) (i:=0) rfl,Row.cell (hS.bx 1 rfl) (i:=1) rfl,trivial⟩) ⟨_,_,_,_,_,rfl,(hS.sel [0,3]),h⟩))
  · intro j ka kb kv w7 hj hns e1 e2;replace h:=h.1 j ka kb kv hj hns;replace hS:=hS.mst 4 rfl e1 e2;clear e1 e2;refine zb (zq (zx (.bool (true))) (yaa (yaf (yar rfl (yag (yai (zs (zq (v_entry (vE:=(Value.int .i64)) hj H11 (hS.mp 4 rfl) (hS.mp 0 rfl)) (zq (zx (.agg #[(ii ka),(ii kb)])) (zq (zx (ii kv)) (zn (yaO ybl ?_))))))))))));intro g5 w8 hN;replace hS:Sep w S O w8 (stl _ 5 (Res.box 133 g5 [(ii 0),(ii 0)])):=hS.new 5 rfl hN;clear hN;refine zb (zo (yaV (b:=g5) (o:=0) (cells:=#[(ii ka),(ii kb)]) rfl rfl ybl rfl rfl (yaI (hS.bx 5 rfl) zY) ?_));intro w9 e1;replace hS:=hS.bstn 5 rfl 0 [(ii ka),(ii kb)] e1;clear e1;refine zb (zQ (ii kv) (yaa (zr (zq (yan H5 underlying24 rfl ybv) (zq (zl underlying22 (Row.cell (hS.bx 2 rfl) (i:=1) rfl)) (zq (yan rfl underlying133 rfl yaj) (zq (zl underlying3 (Row.cell (hS.bx 5 rfl) (i:=0) rfl)) (zq (yan rfl underlying133 rfl yaj) (zq (zl underlying3 (Row.cell (hS.bx 5 rfl) (i:=1) rfl)) (zM (ii kv) (zn (yck (l:=[(0,(ii ka)),(1,(ii kb)),(2,(ii kv))]) (cells:=[(ii ka),(ii kb),(ii kv)]) (places:=[(0,1),(1,1),(2,1)]) (bp3 rfl rfl rfl) underlying79 yaK (by kernel_rfl) rfl ?_))))))))))));refine zb (zn (yaX (l:=[(0,(.agg #[(ii ka),(ii kb),(ii kv)]))]) (cells:=[(ii ka),(ii kb),(ii kv)]) (bp1 rfl) underlying22 yaK rfl rfl ?_));intro g6 w10 hN;replace hS:=hS.litf (n:=1) 6 rfl (fP (fI .i64) (fP (fI .i64) (fI .i64))) hN ([(ka,kb,kv)]:List E3) rfl (by decide) rfl;clear hN;refine zb ?_;obtain ⟨hx2,h⟩:=h;refine zn (ygp (c:=c3) rfl rfl underlying22 underlying22 yaK rfl rfl (by decide) hS 3 rfl (hS.yo 6 rfl) hx2 ?_);clear hS;intro A c w11 hS;refine zb (zq (yan H5 underlying24 rfl ybv) (zo (zt (.slice A (lg+1) c) ybv (hS.bwr 2 rfl (j:=1) rfl) ?_)));intro w12 e1;replace hS:=hS.bst 2 rfl 1 (.slice A (lg+1) c) e1;clear e1;refine zb (yaa (yah ?_));obtain ⟨mq,hlt,h⟩:=h;exact ag mq _ _ _ ⟨_,_,_,_,_,h,rfl,H0,H4,H5,H11,(hS.sel [0,1,2,3,4])⟩ hlt
def yd7(g:Int)(g2:List E3)(n:Int)(Fto:Int→(Int→Prop)→Prop)(R:Int→(List E3)→Prop):Prop :=
(∃ I2:Nat→Int→(List (List Int×Int))→Prop,(∃ m0,I2 m0 0 ([]:List (List Int×Int)))∧∀ m2 v m3,I2 m2 v m3 → 
((v<(g2.length:Int) →
((0≤v∧v<(g2.length:Int)) ∧
Fto ((ge g2 v.toNat).1) (fun (r:Int) =>
Fto ((ge g2 v.toNat).2.1) (fun (r2:Int) =>
(∃ J2:Prop,(J2→ydP r r2 (fun r3 r4 =>
(KOk 2 m3 ∧
yia 2 ([r3,r4]) ∧
(In64 (v+1) ∧
∃ m4,m4<m2∧I2 m4 (v+1) (mput m3 ([r3,r4]) ((ge g2 v.toNat).2.2)))))) ∧
((0≤r →
((0≤r2 →
J2) ∧
(¬(0≤r2) →
(In64 (v+1) ∧
∃ m5,m5<m2∧I2 m5 (v+1) m3)))) ∧
(¬(0≤r) →
(In64 (v+1) ∧
∃ m6,m6<m2∧I2 m6 (v+1) m3)))))))) ∧
(¬(v<(g2.length:Int)) →
ycK m3 n (fun r5 r6 =>
R r5 r6))))
theorem yjL{O:Nat→Prop}{w:World}{g:Int}{g2:List (Int×Int×Int)}{n:Int}{Fto:Int→(Int→Prop)→Prop}{Ag:Option Addr}{lg:Nat}{cg:Nat}{to:Value}{R:Int→(List (Int×Int×Int))→Prop}(h:yd7 g g2 n Fto R)(hO:∀ k,O k→k<w.heap.size)(hA0:(FP.sl c3 Ag lg cg g2).P O w)(hA1:(FP.st fun w'=>∃ (fid:Nat) (us:Array Value),to=Value.func (.func fid) #[] us∧Enters Tryz.prog fid∧∀ (x0:Int) (R:Int→Prop),Fto x0 R→Calls Tryz.prog fid (#[(Value.int .i64 x0)]++us) w' fun e w''=>∃ r0:Int,e = .returned (Value.int .i64 r0)∧Sep w' no no w'' (rl [])∧R r0).P O w) :
    Calls Tryz.prog 114 #[(.agg #[(ii g),(.slice Ag lg cg)]),(ii n),to] w fun e w'=>∃ r7 r8 Ar2 lr2 cr2,e = .returned (.agg #[(ii r7),(.slice Ar2 lr2 cr2)])∧Sep w no O w' (rl [Res.own c3 79 Ar2 lr2 cr2 r8])∧R r7 r8:=by
  unfold yd7 at h;have hS:Sep w no O w (rl [Res.ro (FP.sl c3 Ag lg cg g2),Res.ro (FP.st fun w'=>∃ (fid:Nat) (us:Array Value),to=Value.func (.func fid) #[] us∧Enters Tryz.prog fid∧∀ (x0:Int) (R:Int→Prop),Fto x0 R→Calls Tryz.prog fid (#[(Value.int .i64 x0)]++us) w' fun e w''=>∃ r0:Int,e = .returned (Value.int .i64 r0)∧Sep w' no no w'' (rl [])∧R r0)]):=Sep.startl hO [(FP.sl c3 Ag lg cg g2),(FP.st fun w'=>∃ (fid:Nat) (us:Array Value),to=Value.func (.func fid) #[] us∧Enters Tryz.prog fid∧∀ (x0:Int) (R:Int→Prop),Fto x0 R→Calls Tryz.prog fid (#[(Value.int .i64 x0)]++us) w' fun e w''=>∃ r0:Int,e = .returned (Value.int .i64 r0)∧Sep w' no no w'' (rl [])∧R r0)] ⟨hA0,hA1,trivial⟩;refine yap (l:=[(Value.agg #[(Value.int .i64 g),(Value.slice Ag lg cg)]),(Value.int .i64 n),to]) func114 rfl ntmps114 (Nat.le_of_ble_eq_true rfl) ?_;refine yaf ?_;refine yay yaD ?_;refine rl_n rfl rfl rfl rfl (ya8 (v:=(.agg #[(.int .i64 g),(.slice Ag lg cg)])) rfl ?_);intro g3 w2 hN;replace hS:Sep w no O w2 (stl _ 2 (Res.box 24 g3 [(Value.int .i64 g),(Value.slice Ag lg cg)])):=hS.new 2 rfl hN;clear hN;refine ⟨Stb.none _,?_⟩;refine rl_n rfl rfl rfl rfl (yaO yao ?_);intro g4 w3 hN;replace hS:Sep w no O w3 (stl _ 3 (Res.box 24 g4 [(Value.int .i64 0),(Value.slice none 0 0)])):=hS.new 3 rfl hN;clear hN;refine ⟨Stb.none _,?_⟩;refine yaa ?_;refine yaf ?_;refine yay yaD ?_;refine rl_n rfl rfl rfl rfl (n_mkmap (vE:=(Value.int .i64)) rfl ?_);intro g5 w4 e1 e2;replace hS:Sep w no O w4 (stl _ 4 (Res.obj g5 (mapO (Value.int .i64) ([]:List (List Int×Int))))):=hS.newm 4 rfl e1 e2;clear e1 e2;refine ⟨Stb.none _,?_⟩;refine rl_q rfl rfl rfl (ybI (v:=(Value.map (some g5))) rfl) ?_;refine yaa ?_;refine yaf ?_;refine yaf ?_;refine yay yaD ?_;refine rl_q rfl rfl rfl (yan rfl underlying24 rfl ybv) ?_;refine rl_q rfl rfl rfl (yau rfl underlying22 rfl (Row.cell (hS.bx 2 rfl) (i:=1) rfl)) ?_;refine rl_q rfl rfl rfl (yaF (n:=g2.length) rfl underlying22 (yaE (hS.rdr 0 rfl))) ?_;refine rl_q rfl rfl rfl (yad (v:=(.int .i64 0)) rfl) ?_;refine yaa ?_;refine yai ?_;obtain ⟨I2,⟨m0,h0⟩,hr⟩:=h;refine yaz (fun m E ds w'=>∃ v:Int,∃ m3:List (List Int×Int),I2 m v m3∧ds=[]∧E 1=(Value.int .i64 n)∧E 2=to∧E 6=(Value.pointer (some (⟨g4,0,none⟩:Addr)))∧E 7=(Value.map (some g5))∧E 14=(Value.slice Ag lg cg)∧E 15=(Value.int .i64 ((g2.length:Nat):Int))∧E 16=(Value.int .i64 v)∧Sep w no O w' (rl [Res.ro (FP.st fun w'=>∃ (fid:Nat) (us:Array Value),to=Value.func (.func fid) #[] us∧Enters Tryz.prog fid∧∀ (x0:Int) (R:Int→Prop),Fto x0 R→Calls Tryz.prog fid (#[(Value.int .i64 x0)]++us) w' fun e w''=>∃ r0:Int,e = .returned (Value.int .i64 r0)∧Sep w' no no w'' (rl [])∧R r0),Res.box 24 g4 [(Value.int .i64 0),(Value.slice none 0 0)],Res.obj g5 (mapO (Value.int .i64) m3),Res.ro (FP.sl c3 Ag lg cg g2)])) m0 ⟨_,_,h0,rfl,rfl,rfl,rfl,rfl,rfl,rfl,rfl,(hS.sel [1,3,4,0] (by decide))⟩ ?_;clear h0 hS;rintro m2 E ds w5 ⟨v,m3,h,rfl,H1,H2,H6,H7,H14,H15,H16,hS⟩ ag;replace h:=hr m2 v m3 h;clear hr;refine yaf ?_;refine yay yaD ?_;refine rl_q rfl rfl rfl (ydj H16 H15) ?_;refine yaa ?_;refine yaf ?_;by_cases hp:v<((g2.length:Nat):Int)
  · replace h:=h.1 hp;refine yar (congrArg Value.bool (decide_eq_true hp)) ?_;refine yag ?_;refine yaf ?_;refine yai ?_;refine yaf ?_;refine yay yaD ?_;obtain ⟨hx,h⟩:=h;refine rl_q rfl rfl rfl (ycI H14 H16 underlying22 yaK (yaP (hS.rdr 3 rfl) hx)) ?_;refine rl_q rfl rfl rfl (yaq (vs:=[(.int .i64 ((ge g2 v.toNat).1)),(.int .i64 ((ge g2 v.toNat).2.1)),(.int .i64 ((ge g2 v.toNat).2.2))]) rfl underlying79 rfl yaK (rd_fs (hS.rdr 3 rfl) hx (fun q=>ydu q))) ?_;refine rl_n rfl rfl rfl rfl (yaO yaK ?_);intro g6 w6 hN;replace hS:Sep w no O w6 (stl _ 4 (Res.box 79 g6 [(Value.int .i64 0),(Value.int .i64 0),(Value.int .i64 0)])):=hS.new 4 rfl hN;clear hN;refine ⟨Stb.none _,?_⟩;refine rl_n0 rfl rfl rfl (yaV (b:=g6) (o:=0) (cells:=#[(.int .i64 ((ge g2 v.toNat).1)),(.int .i64 ((ge g2 v.toNat).2.1)),(.int .i64 ((ge g2 v.toNat).2.2))]) rfl rfl yaK rfl rfl (yaI (hS.bx 4 rfl) (Nat.le_of_ble_eq_true rfl)) ?_);intro w7 e1;replace hS:=hS.bstn 4 rfl 0 [(Value.int .i64 ((ge g2 v.toNat).1)),(Value.int .i64 ((ge g2 v.toNat).2.1)),(Value.int .i64 ((ge g2 v.toNat).2.2))] e1;clear e1;refine ⟨Stb.none _,?_⟩;refine yaa ?_;refine yaf ?_;refine yaT [0,1,2,4,5,6,3,7,8,9] (fun i=>match i with | 3=>[4,5,6] | _=>[]) yaD (by kernel_rfl) (by kernel_rfl) ?_;replace hS:=hS.drew;refine rp_q rfl rfl rfl (yad (v:=to) H2) ?_;refine rp_q rfl rfl rfl (yan rfl underlying79 rfl yaj) ?_;refine rp_q rfl rfl rfl (yau rfl underlying3 rfl (Row.cell (hS.bx 4 rfl) (i:=0) rfl)) ?_;refine rp_q rfl rfl rfl (yad (v:=to) H2) ?_;refine rp_q rfl rfl rfl (yan rfl underlying79 rfl yaj) ?_;refine rp_q rfl rfl rfl (yau rfl underlying3 rfl (Row.cell (hS.bx 4 rfl) (i:=1) rfl)) ?_;obtain ⟨fid,us,hf,he,hcl⟩:=hS.ro 0 rfl _ (Keeps.refl _ _);replace h:=hcl _ _ h;clear hcl;refine rp_n rfl rfl rfl rfl (ydx (hf) (am1 rfl) he (h.mono ?_));clear hf he;rintro _ w8 ⟨r,rfl,hC,h⟩;replace hS:=hS.pur hC.pure;clear hC;refine ⟨_,rfl,?_⟩;refine ⟨⟨fun _=>(yau rfl underlying3 rfl (Row.cell (hS.bx 4 rfl) (i:=1) rfl)),⟨fun _=>(yan rfl underlying79 rfl yaj),⟨fun _=>(yad (v:=to) H2),⟨fun hh=>Bool.noConfusion (show false=true from hh),⟨fun hh=>Bool.noConfusion (show false=true from hh),⟨fun hh=>Bool.noConfusion (show false=true from hh),trivial⟩⟩⟩⟩⟩⟩,?_⟩;obtain ⟨fid,us,hf,he,hcl⟩:=hS.ro 0 rfl _ (Keeps.refl _ _);replace h:=hcl _ _ h;clear hcl;refine rp_n rfl rfl rfl rfl (ydx (hf) (am1 rfl) he (h.mono ?_));clear hf he;rintro _ w9 ⟨r2,rfl,hC,h⟩;replace hS:=hS.pur hC.pure;clear hC;refine ⟨_,rfl,?_⟩;refine ⟨Stb.none _,?_⟩;refine rp_q rfl rfl rfl (ybI (v:=(.int .i64 r)) rfl) ?_;refine rp_q rfl rfl rfl (ybI (v:=(.int .i64 r2)) rfl) ?_;refine yaZ ?_;refine yaf ?_;obtain ⟨J2,hJ,h⟩:=h;refine wt_cutA1 (fun E ds w'=>J2∧ds=[]∧E 1=(Value.int .i64 n)∧E 2=to∧E 6=(Value.pointer (some (⟨g4,0,none⟩:Addr)))∧E 7=(Value.map (some g5))∧E 9=(Value.pointer (some (⟨g6,0,none⟩:Addr)))∧E 10=(Value.int .i64 r)∧E 11=(Value.int .i64 r2)∧E 14=(Value.slice Ag lg cg)∧E 15=(Value.int .i64 ((g2.length:Nat):Int))∧E 16=(Value.int .i64 v)∧Sep w no O w' (rl [Res.ro (FP.st fun w'=>∃ (fid:Nat) (us:Array Value),to=Value.func (.func fid) #[] us∧Enters Tryz.prog fid∧∀ (x0:Int) (R:Int→Prop),Fto x0 R→Calls Tryz.prog fid (#[(Value.int .i64 x0)]++us) w' fun e w''=>∃ r0:Int,e = .returned (Value.int .i64 r0)∧Sep w' no no w'' (rl [])∧R r0),Res.box 24 g4 [(Value.int .i64 0),(Value.slice none 0 0)],Res.obj g5 (mapO (Value.int .i64) m3),Res.box 79 g6 [(Value.int .i64 ((ge g2 v.toNat).1)),(Value.int .i64 ((ge g2 v.toNat).2.1)),(Value.int .i64 ((ge g2 v.toNat).2.2))],Res.ro (FP.sl c3 Ag lg cg g2)])) ?_ ?_
    · clear h hS;rintro E ds w10 ⟨h,rfl,H1,H2,H6,H7,H9,H10,H11,H14,H15,H16,hS⟩;replace h:=hJ h;refine yaT [0,1,2,4,5,3,6] (fun i=>match i with | 3=>[0,4,5] | _=>[]) yaD (by kernel_rfl) (by kernel_rfl) ?_;replace hS:=hS.drew;refine zp (yad H7) (zp (yad H10) (zp (yad H11) (zp (yan H9 underlying79 rfl yaj) (zp (zl underlying3 (Row.cell (hS.bx 3 rfl) (i:=2) rfl)) (rp_n rfl rfl rfl rfl (yam rfl (am2 rfl rfl) enter_142 ((yiE h (yaB _)).mono ?_)))))));rintro _ w11 ⟨r3,r4,rfl,hC,h⟩;replace hS:=hS.pur hC.pure;clear hC;refine ⟨_,rfl,?_⟩;refine ⟨⟨fun _=>(zl underlying3 (Row.cell (hS.bx 3 rfl) (i:=2) rfl)),⟨fun _=>(yan H9 underlying79 rfl yaj),⟨fun hh=>zZ hh,⟨fun hh=>zZ hh,⟨fun _=>(yad H7),trivial⟩⟩⟩⟩⟩,?_⟩;obtain ⟨hx2,h⟩:=h;obtain ⟨hx3,h⟩:=h;refine yjg rfl rfl rfl (n_mput (vE:=(Value.int .i64)) (keyt_133) hx2 hx3 (v:=((ge g2 v.toNat).2.2)) rfl rfl rfl underlying170 (hS.mp 2 rfl) ?_);intro w12 e1 e2;replace hS:=hS.mst 2 rfl e1 e2;clear e1 e2;refine zb (yaZ (yah (zr ?_)));obtain ⟨hi,h⟩:=h;refine zq (ybS H16 rfl hi) (zM (ii (v+1)) (yaa ?_));obtain ⟨mq,hlt,h⟩:=h;exact ag mq _ _ _ ⟨_,_,h,rfl,H1,H2,H6,H7,H14,H15,rfl,(hS.sel [0,1,2,4])⟩ hlt
    clear hJ;intro j;refine zr (zM (ii r) (zq (yiF rfl rfl) (zM (.bool (decide (0≤r))) ?_)));by_cases hp2:0≤r
    · replace h:=h.1 hp2;refine zW rfl rfl (zT hp2) (zm (ii r2)) (zW rfl rfl (zT hp2) (yiF rfl rfl) (zq (yas (v:=(.bool (decide (0≤r2)))) (zT hp2) rfl) (yaa ?_)));by_cases hp3:0≤r2
      · replace h:=h.1 hp3;exact zc hp3 (j _ _ _ ⟨h,rfl,H1,H2,H6,H7,rfl,rfl,rfl,H14,H15,H16,(hS.sel [0,1,2,4,3])⟩)
      · replace h:=h.2 hp3;refine zd hp3 (yag (yah (zr ?_)));obtain ⟨hi2,h⟩:=h;refine zq (ybS H16 rfl hi2) (zM (ii (v+1)) (yaa ?_));obtain ⟨mq,hlt,h⟩:=h;exact ag mq _ _ _ ⟨_,_,h,rfl,H1,H2,H6,H7,H14,H15,rfl,(hS.sel [0,1,2,3])⟩ hlt
    · replace h:=h.2 hp2;refine zV rfl rfl (zF hp2) (zV rfl rfl (zF hp2) (zq (yal (v:=(.bool (false))) (zF hp2) rfl) (yaa (yat rfl (yag (yah (zr ?_)))))));obtain ⟨hi3,h⟩:=h;refine zq (ybS H16 rfl hi3) (zM (ii (v+1)) (yaa ?_));obtain ⟨mq,hlt,h⟩:=h;exact ag mq _ _ _ ⟨_,_,h,rfl,H1,H2,H6,H7,H14,H15,rfl,(hS.sel [0,1,2,3])⟩ hlt
  · replace h:=h.2 hp;refine zd hp (yax rfl (zs (zq (yad H7) (zq (yad H1) ?_))));have hB:=hS.lend (asc [(2,0),(4,1)]) [2] (by decide) ⟨.inl (ybE rfl),trivial⟩;refine zn (ydx (vs:=#[(Value.map (some g5)),(ii n)]) (us:=#[]) rfl (am2 rfl rfl) enter_143 ((ya4 (by simp) (yhr h hB)).mono ?_));rintro _ w13 ⟨r5,r6,Ar,lr,cr,rfl,hC,h⟩;replace hS:=hS.back (asc [(2,0),(4,1)]) (yey (by decide)) hC;clear hC hB;refine ⟨_,rfl,?_⟩;refine zb (zo (yaV (b:=g4) (o:=0) (cells:=#[(ii r5),(.slice Ar lr cr)]) H6 rfl yao rfl rfl (yaI (hS.bx 1 rfl) zY) ?_));intro w14 e1;replace hS:=hS.bstn 1 rfl 0 [(ii r5),(.slice Ar lr cr)] e1;clear e1;exact zb (yaa (yg1 rfl (rv_n (vs:=[(ii r5),(.slice Ar lr cr)]) H6 underlying24 rfl yao ⟨Row.cell (hS.bx 1 rfl) (i:=0) rfl,Row.cell (hS.bx 1 rfl) (i:=1) rfl,trivial⟩) ⟨_,_,_,_,_,rfl,(hS.sel [4]),h⟩))
def ybY(v:Int)(cap:List Int)(R:Int→Prop):Prop :=
ybq cap v (fun r =>
R r)
theorem yhu{O:Nat→Prop}{w:World}{v cap gc Aa Ab Ac}{R:Int→Prop}(h:ybY v cap R)(hO:∀ k,O k→k<w.heap.size)(hA0:(FP.bx 29 gc [(Value.slice Aa Ab Ac)]).P O w)(hA1:(FP.sl cI Aa Ab Ac cap).P O w) :
    Calls Tryz.prog 115 #[(ii v),(.pointer (some ⟨gc,0,none⟩))] w fun e w'=>∃ r2,e = .returned (ii r2)∧Sep w no O w' (rl [])∧R r2:=by
  unfold ybY at h;have hS:Sep w no O w (rl [Res.ro (FP.bx 29 gc [(.slice Aa Ab Ac)]),Res.ro (FP.sl cI Aa Ab Ac cap)]):=Sep.startl hO [(FP.bx 29 gc [(.slice Aa Ab Ac)]),(FP.sl cI Aa Ab Ac cap)] ⟨hA0,hA1,trivial⟩;refine yap (l:=[(ii v),(.pointer (some ⟨gc,0,none⟩))]) func115 rfl ntmps115 zY (zs (zQ (ii 0) (yaa (zs (zq (zl underlying29 (Row.cell (hS.bxr 0 rfl) (i:=0) rfl)) (zM (ii v) (zn (yam rfl (am2 rfl rfl) enter_116 ((yep h (yaB _) (hS.rdr 1 rfl)).mono ?_)))))))));rintro _ w2 ⟨r,rfl,hC,h⟩;replace hS:=hS.pur hC.pure;clear hC;refine ⟨_,rfl,?_⟩;exact zb (zQ (ii r) (yaa (yak rfl rfl ⟨_,rfl,(hS.sel []),h⟩)))
def ydp(g:Int)(g2:List E3)(set2:List Int)(R:Int→(List E3)→Int→Prop):Prop :=
ybz g g2 set2 (fun r =>
((r=0 →
(((set2.length:Int)=0 →
R 0 ([]) 14) ∧
(¬((set2.length:Int)=0) →
yd7 g g2 (set2.length:Int) (fun x R=>ybY x set2 R) (fun r2 r3 =>
R r2 r3 0)))) ∧
(¬(r=0) →
R 0 ([]) r)))
theorem yh4{O:Nat→Prop}{w:World}{g g2 set2 Ag lg cg Aa Ab Ac}{R:Int→(List E3)→Int→Prop}(h:ydp g g2 set2 R)(hO:∀ k,O k→k<w.heap.size)(hA0:(FP.sl c3 Ag lg cg g2).P O w)(hA1:(FP.sl cI Aa Ab Ac set2).P O w) :
    Calls Tryz.prog 71 #[(.agg #[(ii g),(.slice Ag lg cg)]),(.slice Aa Ab Ac)] w fun e w'=>∃ r4 r5 r6 Ar2 lr2 cr2,e = .returned (.tuple #[(.agg #[(ii r4),(.slice Ar2 lr2 cr2)]),(ii r6)])∧Sep w no O w' (rl [Res.own c3 79 Ar2 lr2 cr2 r5])∧R r4 r5 r6:=by
  unfold ydp at h;have hS:Sep w no O w (rl [Res.ro (FP.sl c3 Ag lg cg g2),Res.ro (FP.sl cI Aa Ab Ac set2)]):=Sep.startl hO [(FP.sl c3 Ag lg cg g2),(FP.sl cI Aa Ab Ac set2)] ⟨hA0,hA1,trivial⟩;refine yap (l:=[(.agg #[(ii g),(.slice Ag lg cg)]),(.slice Aa Ab Ac)]) func71 rfl ntmps71 zY (zs (zn (ya8 (v:=(.agg #[(ii g),(.slice Ag lg cg)])) rfl ?_)));intro g3 w2 hN;replace hS:Sep w no O w2 (stl _ 2 (Res.box 24 g3 [(ii g),(.slice Ag lg cg)])):=hS.new 2 rfl hN;clear hN;refine zb (zn (ya8 (v:=(.slice Aa Ab Ac)) rfl ?_));intro g4 w3 hN;replace hS:Sep w no O w3 (stl _ 3 (Res.box 29 g4 [(.slice Aa Ab Ac)])):=hS.new 3 rfl hN;clear hN;refine zb (zn (yaO yao ?_));intro g5 w4 hN;replace hS:Sep w no O w4 (stl _ 4 (Res.box 24 g5 [(ii 0),(.slice none 0 0)])):=hS.new 4 rfl hN;clear hN;refine zb (zQ (ii 0) (yaa (yaf (zs (zq (yaq (vs:=[(ii g),(.slice Ag lg cg)]) rfl underlying24 rfl yao ⟨Row.cell (hS.bx 2 rfl) (i:=0) rfl,Row.cell (hS.bx 2 rfl) (i:=1) rfl,trivial⟩) (zq (zl underlying29 (Row.cell (hS.bx 3 rfl) (i:=0) rfl)) (zn (yam rfl (am2 rfl rfl) enter_70 ((yes h (yaB _) (hS.rdr 0 rfl) (hS.rdr 1 rfl)).mono ?_)))))))));rintro _ w5 ⟨r,rfl,hC,h⟩;replace hS:=hS.pur hC.pure;clear hC;refine ⟨_,rfl,?_⟩;refine zb (zQ (ii r) (yaa (zs (zM (ii r) (zq zN (yaa ?_))))));by_cases hp:r=0
  · replace h:=h.1 hp;refine ze hp (yag (yaf (zs (zq (zl underlying29 (Row.cell (hS.bx 3 rfl) (i:=0) rfl)) (zq (yaF (n:=set2.length) rfl underlying29 (yaE (hS.rdr 1 rfl))) (zq zE (yaa ?_)))))));by_cases hp2:(set2.length:Int)=0
    · replace h:=h.1 hp2;refine zc hp2 (zs (zn (yck (l:=[]) (cells:=[(ii 0),(.slice none 0 0)]) (places:=[(0,1),(1,1)]) (bp0) underlying24 yao (by kernel_rfl) rfl ?_)));refine zb (zo (yaV (b:=g5) (o:=0) (cells:=#[(ii 0),(.slice none 0 0)]) rfl rfl yao rfl rfl (yaI (hS.bx 4 rfl) zY) ?_));intro w6 e1;replace hS:=hS.bstn 4 rfl 0 [(ii 0),(.slice none 0 0)] e1;clear e1;refine zb (zQ (ii 14) (yaa ?_));replace hS:=hS.nil 5 rfl c3 79;exact yg3 rfl (rv_n (vs:=[(ii 0),(.slice none 0 0)]) rfl underlying24 rfl yao ⟨Row.cell (hS.bx 4 rfl) (i:=0) rfl,Row.cell (hS.bx 4 rfl) (i:=1) rfl,trivial⟩) (rv_t rfl) ⟨_,_,_,_,_,_,rfl,(hS.sel [5]),h⟩
    · replace h:=h.2 hp2;refine zd hp2 (yag (zs (zq (yaq (vs:=[(ii g),(.slice Ag lg cg)]) rfl underlying24 rfl yao ⟨Row.cell (hS.bx 2 rfl) (i:=0) rfl,Row.cell (hS.bx 2 rfl) (i:=1) rfl,trivial⟩) (zq (zl underlying29 (Row.cell (hS.bx 3 rfl) (i:=0) rfl)) (zq (yaF (n:=set2.length) rfl underlying29 (yaE (hS.rdr 1 rfl))) (zq (yeZ (am0) (am1 rfl)) ?_))))));replace hS:=hS.frzb 3 rfl;refine zn (yam rfl (am3 rfl rfl rfl) enter_114 ((yjL h (yaB _) (hS.rdr 0 rfl) (fun w' hk=>⟨115,#[(.pointer (some ⟨g4,0,none⟩))],rfl,enter_115,fun x R hF=>ya4 (by simp) (yhu hF (yaB _) (FP.sub _ (FP.keep _ (FP.sub _ (hS.ro 3 rfl) (fun _ _ h=>h.elim):FP.P _ no _) hk) fun _ _ h=>h.elim) (FP.sub _ (FP.keep _ (FP.sub _ (hS.ro 1 rfl) (fun _ _ h=>h.elim):FP.P _ no _) hk) fun _ _ h=>h.elim))⟩)).mono ?_));rintro _ w7 ⟨r2,r3,Ar,lr,cr,rfl,hC,h⟩;replace hS:=hS.call1 (hC.widen (yde (ya0 (fP (fI .i64) (fP (fI .i64) (fI .i64))) _ _ _ _ _) ydA) hS.blt) 5 0 rfl;clear hC;refine ⟨_,rfl,?_⟩;refine zb (zo (yaV (b:=g5) (o:=0) (cells:=#[(ii r2),(.slice Ar lr cr)]) rfl rfl yao rfl rfl (yaI (hS.bx 4 rfl) zY) ?_));intro w8 e1;replace hS:=hS.bstn 4 rfl 0 [(ii r2),(.slice Ar lr cr)] e1;clear e1;exact zb (zQ (ii 0) (yaa (yg3 rfl (rv_n (vs:=[(ii r2),(.slice Ar lr cr)]) rfl underlying24 rfl yao ⟨Row.cell (hS.bx 4 rfl) (i:=0) rfl,Row.cell (hS.bx 4 rfl) (i:=1) rfl,trivial⟩) (rv_t rfl) ⟨_,_,_,_,_,_,rfl,(hS.sel [5]),h⟩)))
  · replace h:=h.2 hp;refine zf hp (zs (zn (yck (l:=[]) (cells:=[(ii 0),(.slice none 0 0)]) (places:=[(0,1),(1,1)]) (bp0) underlying24 yao (by kernel_rfl) rfl ?_)));refine zb (zM (ii r) (zo (yaV (b:=g5) (o:=0) (cells:=#[(ii 0),(.slice none 0 0)]) rfl rfl yao rfl rfl (yaI (hS.bx 4 rfl) zY) ?_)));intro w9 e1;replace hS:=hS.bstn 4 rfl 0 [(ii 0),(.slice none 0 0)] e1;clear e1;refine zb (zQ (ii r) (yaa ?_));replace hS:=hS.nil 5 rfl c3 79;exact yg3 rfl (rv_n (vs:=[(ii 0),(.slice none 0 0)]) rfl underlying24 rfl yao ⟨Row.cell (hS.bx 4 rfl) (i:=0) rfl,Row.cell (hS.bx 4 rfl) (i:=1) rfl,trivial⟩) (rv_t rfl) ⟨_,_,_,_,_,_,rfl,(hS.sel [5]),h⟩
def ybN(g:Int)(g2:List E3)(s:List (List Int))(R:Int→Prop):Prop :=
ybd g g2 (fun r =>
((r=0 →
((256<(s.length:Int) →
R 5) ∧
(¬(256<(s.length:Int)) →
(∃ I2:Nat→Int→Prop,(∃ m0,I2 m0 0)∧∀ m2 v,I2 m2 v → 
((v<(s.length:Int) →
((0≤v∧v<(s.length:Int)) ∧
ybz g g2 (gx s v.toNat) (fun r2 =>
((r2=0 →
ydp g g2 (gx s v.toNat) (fun r3 r4 r5 =>
((r5=0 →
ybd r3 r4 (fun r6 =>
((r6=0 →
(In64 (v+1) ∧
∃ m3,m3<m2∧I2 m3 (v+1))) ∧
(¬(r6=0) →
R r6)))) ∧
(¬(r5=0) →
R r5)))) ∧
(¬(r2=0) →
R r2))))) ∧
(¬(v<(s.length:Int)) →
R 0)))))) ∧
(¬(r=0) →
R r)))
theorem ydL{O:Nat→Prop}{w:World}{g g2 s Ag lg cg As ls cs}{R:Int→Prop}(h:ybN g g2 s R)(hO:∀ k,O k→k<w.heap.size)(hA0:(FP.sl c3 Ag lg cg g2).P O w)(hA1:(FP.sl (cL cI) As ls cs s).P O w) :
    Calls Tryz.prog 20 #[(.agg #[(ii g),(.slice Ag lg cg)]),(.slice As ls cs)] w fun e w'=>∃ r7,e = .returned (ii r7)∧Sep w no O w' (rl [])∧R r7:=by
  unfold ybN at h;have hS:Sep w no O w (rl [Res.ro (FP.sl c3 Ag lg cg g2),Res.ro (FP.sl (cL cI) As ls cs s)]):=Sep.startl hO [(FP.sl c3 Ag lg cg g2),(FP.sl (cL cI) As ls cs s)] ⟨hA0,hA1,trivial⟩;refine yap (l:=[(.agg #[(ii g),(.slice Ag lg cg)]),(.slice As ls cs)]) func20 rfl ntmps20 zY (zs (zn (ya8 (v:=(.agg #[(ii g),(.slice Ag lg cg)])) rfl ?_)));intro g3 w2 hN;replace hS:Sep w no O w2 (stl _ 2 (Res.box 24 g3 [(ii g),(.slice Ag lg cg)])):=hS.new 2 rfl hN;clear hN;refine zb (zQ (ii 0) (yaa (yaf (zs (zq (yaq (vs:=[(ii g),(.slice Ag lg cg)]) rfl underlying24 rfl yao ⟨Row.cell (hS.bx 2 rfl) (i:=0) rfl,Row.cell (hS.bx 2 rfl) (i:=1) rfl,trivial⟩) (zn (yam rfl (am1 rfl) yhH ((ybP h (yaB _) (hS.rdr 0 rfl)).mono ?_))))))));rintro _ w3 ⟨r,rfl,hC,h⟩;replace hS:=hS.pur hC.pure;clear hC;refine ⟨_,rfl,?_⟩;refine zb (zQ (ii r) (yaa (zs (zM (ii r) (zq zN (yaa ?_))))));by_cases hp:r=0
  · replace h:=h.1 hp;refine ze hp (yag (yaf (zs (zM (.slice As ls cs) (zq (yaF (n:=s.length) rfl underlying25 (yaE (hS.rdr 1 rfl))) (zq zG (yaa ?_)))))));by_cases hp2:256<(s.length:Int)
    · replace h:=h.1 hp2;exact zc hp2 (zs (zQ (ii 5) (yaa (yak rfl rfl ⟨_,rfl,(hS.sel []),h⟩))))
    · replace h:=h.2 hp2;refine zd hp2 (yag (yaf (zs (zM (.slice As ls cs) (zq (yaF (n:=s.length) rfl underlying25 (yaE (hS.rdr 1 rfl))) (zM (ii 0) (yaa (yai ?_))))))));obtain ⟨I2,⟨m0,h0⟩,hr⟩:=h;refine yaz (fun m E ds w'=>∃ v,I2 m v∧ds=[]∧E 2=(Value.pointer (some ⟨g3,0,none⟩))∧E 20=(Value.slice As ls cs)∧E 21=(ii (s.length:Int))∧E 22=(ii v)∧Sep w no O w' (rl [Res.box 24 g3 [(ii g),(.slice Ag lg cg)],Res.ro (FP.sl c3 Ag lg cg g2),Res.ro (FP.sl (cL cI) As ls cs s)])) m0 ⟨_,h0,rfl,rfl,rfl,rfl,rfl,(hS.sel [2,0,1])⟩ ?_;clear h0 hS;rintro m2 E ds w4 ⟨v,h,rfl,H2,H20,H21,H22,hS⟩ ag;replace h:=hr m2 v h;clear hr;refine zs (zq (ydj H22 H21) (yaa (yaf ?_)));by_cases hp3:v<(s.length:Int)
      · replace h:=h.1 hp3;refine zc hp3 (yag (yaf (yai (zs ?_))));obtain ⟨hx,h⟩:=h;refine zq (ycI H20 H22 underlying25 yaL (yaP (hS.rdr 2 rfl) hx)) ?_;obtain ⟨A,l,c,hc,hq⟩:=hS.el 2 rfl hx 3 4 rfl rfl (by decide);replace hS:=hq;clear hq;refine zq (yau (v:=(.slice A l c)) rfl underlying29 rfl (hS.clr 4 rfl)) (zQ (.slice A l c) (yaa (yaf (zs (zq (yaq (vs:=[(ii g),(.slice Ag lg cg)]) H2 underlying24 rfl yao ⟨Row.cell (hS.bx 0 rfl) (i:=0) rfl,Row.cell (hS.bx 0 rfl) (i:=1) rfl,trivial⟩) (zM (.slice A l c) (zn (yam rfl (am2 rfl rfl) enter_70 ((yes h (yaB _) (hS.rdr 1 rfl) (hS.rdr 3 rfl)).mono ?_)))))))));rintro _ w5 ⟨r2,rfl,hC,h⟩;replace hS:=hS.pur hC.pure;clear hC;refine ⟨_,rfl,?_⟩;refine zb (zQ (ii r2) (yaa (zs (zM (ii r2) (zq zN (yaa ?_))))));by_cases hp4:r2=0
        · replace h:=h.1 hp4;refine ze hp4 (yag (zs (zq (yaq (vs:=[(ii g),(.slice Ag lg cg)]) H2 underlying24 rfl yao ⟨Row.cell (hS.bx 0 rfl) (i:=0) rfl,Row.cell (hS.bx 0 rfl) (i:=1) rfl,trivial⟩) (zM (.slice A l c) (zn (yam rfl (am2 rfl rfl) enter_71 ((yh4 h (yaB _) (hS.rdr 1 rfl) (hS.rdr 3 rfl)).mono ?_)))))));rintro _ w6 ⟨r3,r4,r5,Ar,lr,cr,rfl,hC,h⟩;replace hS:=hS.call1 (hC.widen (yde (ya0 (fP (fI .i64) (fP (fI .i64) (fI .i64))) _ _ _ _ _) ydA) hS.blt) 5 0 rfl;clear hC;refine ⟨_,rfl,?_⟩;refine zb (zM (.tuple #[(.agg #[(ii r3),(.slice Ar lr cr)]),(ii r5)]) (zq (zx (.agg #[(ii r3),(.slice Ar lr cr)])) (zq (zx (ii r5)) (zn (yaO yao ?_)))));intro g4 w7 hN;replace hS:Sep w no O w7 (stl _ 6 (Res.box 24 g4 [(ii 0),(.slice none 0 0)])):=hS.new 6 rfl hN;clear hN;refine zb (zo (yaV (b:=g4) (o:=0) (cells:=#[(ii r3),(.slice Ar lr cr)]) rfl rfl yao rfl rfl (yaI (hS.bx 6 rfl) zY) ?_));intro w8 e1;replace hS:=hS.bstn 6 rfl 0 [(ii r3),(.slice Ar lr cr)] e1;clear e1;refine zb (zQ (ii r5) (yaa (yaf (zs (zM (ii r5) (zq zN (yaa ?_)))))));by_cases hp5:r5=0
          · replace h:=h.1 hp5;refine ze hp5 (yag (zs (zq (yaq (vs:=[(ii r3),(.slice Ar lr cr)]) rfl underlying24 rfl yao ⟨Row.cell (hS.bx 6 rfl) (i:=0) rfl,Row.cell (hS.bx 6 rfl) (i:=1) rfl,trivial⟩) (zn (yam rfl (am1 rfl) yhH ((ybP h (yaB _) (hS.rdo 5 rfl)).mono ?_))))));rintro _ w9 ⟨r6,rfl,hC,h⟩;replace hS:=hS.pur hC.pure;clear hC;refine ⟨_,rfl,?_⟩;refine zb (zQ (ii r6) (yaa (zs (zM (ii r6) (zq zN (yaa ?_))))));by_cases hp6:r6=0
            · replace h:=h.1 hp6;refine ze hp6 (yag (yah (zr ?_)));obtain ⟨hi,h⟩:=h;refine zq (ybS H22 rfl hi) (zM (ii (v+1)) (yaa ?_));obtain ⟨mq,hlt,h⟩:=h;exact ag mq _ _ _ ⟨_,h,rfl,H2,H20,H21,rfl,(hS.sel [0,1,2])⟩ hlt
            · replace h:=h.2 hp6;exact zf hp6 (zs (zM (ii r6) (zQ (ii r6) (yaa (yak rfl rfl ⟨_,rfl,(hS.sel []),h⟩)))))
          · replace h:=h.2 hp5;exact zf hp5 (zs (zM (ii r5) (zQ (ii r5) (yaa (yak rfl rfl ⟨_,rfl,(hS.sel []),h⟩)))))
        · replace h:=h.2 hp4;exact zf hp4 (zs (zM (ii r2) (zQ (ii r2) (yaa (yak rfl rfl ⟨_,rfl,(hS.sel []),h⟩)))))
      · replace h:=h.2 hp3;exact zd hp3 (yax rfl (zs (zQ (ii 0) (yaa (yak rfl rfl ⟨_,rfl,(hS.sel []),h⟩)))))
  · replace h:=h.2 hp;exact zf hp (zs (zM (ii r) (zQ (ii r) (yaa (yak rfl rfl ⟨_,rfl,(hS.sel []),h⟩)))))
def ydo(n:Int)(R:Prop):Prop :=
R
theorem yfJ{O:Nat→Prop}{w:World}{n}{R:Prop}(h:ydo n R)(hO:∀ k,O k→k<w.heap.size) :
    Calls Tryz.prog 102 #[(ii n)] w fun e w'=>∃ gr,e = .returned (.func (Fn.func 135) #[] #[(.pointer (some ⟨gr,0,none⟩))])∧Sep w no O w' (rl [Res.box 3 gr [(ii n)]])∧R:=by
  unfold ydo at h;have hS:Sep w no O w (rl []):=Sep.start w hO;refine yap (l:=[(ii n)]) func102 rfl ntmps102 zY (zs (zn (ya8 (v:=(ii n)) rfl ?_)));intro g w2 hN;replace hS:Sep w no O w2 (stl _ 0 (Res.box 3 g [(ii n)])):=hS.new 0 rfl hN;clear hN;exact zb (zQ Value.nilFunc (yaa (zs (zq (yeZ (am0) (am1 rfl)) (zQ (.func (Fn.func 135) #[] #[(.pointer (some ⟨g,0,none⟩))]) (yaa (yak rfl rfl ⟨_,rfl,(hS.sel [0]),h⟩)))))))
def ybc(s:List Int)(R:(List Int)→Prop):Prop :=
(∀ nil:Bool,(nil=true→s=[]) →
((nil=true →
R ([])) ∧
(¬(nil=true) →
(0+s.length≤1000000000 ∧
R ([]++s)))))
theorem yb6{O:Nat→Prop}{w:World}{s As ls cs}{R:(List Int)→Prop}(h:ybc s R)(hO:∀ k,O k→k<w.heap.size)(hA0:(FP.sl cI As ls cs s).P O w) :
    Calls Tryz.prog 103 #[(.slice As ls cs)] w fun e w'=>∃ r Ar lr cr,e = .returned (.slice Ar lr cr)∧Sep w no O w' (rl [Res.own cI 3 Ar lr cr r])∧R r:=by
  unfold ybc at h;have hS:Sep w no O w (rl [Res.ro (FP.sl cI As ls cs s)]):=Sep.startl hO [(FP.sl cI As ls cs s)] ⟨hA0,trivial⟩;refine yap (l:=[(.slice As ls cs)]) func103 rfl ntmps103 zY (zs (zQ (.slice none 0 0) (yaa (yaf (zs (zM (.slice As ls cs) ?_))))));obtain ⟨nil,hn⟩:∃ b,Option.isNone As=b:=⟨_,rfl⟩;replace h:=h nil (by rw [←hn];exact rd_nil (hS.rdr 0 rfl));refine zq (v_seqlx rfl rfl underlying29 hn) (yaa ?_);by_cases hp:nil=true
  · replace h:=h.1 hp;refine yar (zC hp) (zs (zQ (.slice none 0 0) (yaa ?_)));replace hS:=hS.nil 1 rfl cI 3;exact yak rfl rfl ⟨_,_,_,_,rfl,(hS.sel [1]),h⟩
  · replace h:=h.2 hp;refine yat (zC (zI hp)) (yag (zs (zn (yaX (l:=[]) (cells:=[]) (bp0) underlying29 yaj rfl rfl ?_))));intro g w2 hN;replace hS:=hS.litf (n:=0) 1 rfl (fI .i64) hN ([]:List Int) rfl (by decide) rfl;clear hN;refine zb (zM (.slice As ls cs) ?_);obtain ⟨hx,h⟩:=h;refine zn (ygp (c:=cI) rfl rfl underlying29 underlying29 yaj rfl rfl (by decide) hS 1 rfl (hS.yr 0 rfl) hx ?_);clear hS;intro A c w3 hS;exact zb (zQ (.slice A (0+ls) c) (yaa (yak rfl rfl ⟨_,_,_,_,rfl,(hS.sel [1]),h⟩)))
def yb4(Pr:List (List Int)→Prop)(Rec:Int→(List Int)→Int→List (List Int)→(List (List Int)→Bool→(List Int)→Prop)→Prop)(v:Int)(cap:List Int)(cap2:Int)(pre:List (List Int))(R:List (List Int)→Bool→(List Int)→Prop):Prop :=
(Pr (pre++[cap]) ∧
((∃ I2:Nat→(List (List Int))→Int→(List Int)→Prop,(∃ m0,I2 m0 (pre++[cap]) v cap)∧∀ m2 pre2 v2 v3,I2 m2 pre2 v2 v3 → 
((v2<cap2 →
(v3.length+1≤1000000000 ∧
(In64 (v2+1) ∧
Rec (v2+1) (v3++[v2]) cap2 pre2 (fun pre3 r y =>
((r=true →
(In64 ((y.length:Int)-1) ∧
((0≤((y.length:Int)-1)∧((y.length:Int)-1)≤(y.length:Int)) ∧
∃ m3,m3<m2∧I2 m3 pre3 (v2+1) (y.take ((y.length:Int)-1).toNat)))) ∧
(¬(r=true) →
R pre3 false y)))))) ∧
(¬(v2<cap2) →
R pre2 true v3))) ∧
True))
def ybs(Pr:List (List Int)→Prop):Nat→Int→(List Int)→Int→List (List Int)→(List (List Int)→Bool→(List Int)→Prop)→Prop
  | 0=>fun _ _ _ _ _=>False
  | nf+1=>fun v cap cap2 pre R=>yb4 Pr (ybs Pr nf) v cap cap2 pre R
theorem ygj{l}{J Jx:BS→BS→List (List Int)→World→Prop}{Pr:List (List Int)→Prop}(hs:SessHP Tryz.prog l (fun (x:List Int) (b:(Option Addr×Nat×Nat×Hd))=>#[(Value.slice b.1 b.2.1 b.2.2.1)]) (PsI cI) Pr J Jx){Rec:Int→(List Int)→Int→List (List Int)→(List (List Int)→Bool→(List Int)→Prop)→Prop}(hrec:∀ {T G:BS} {wb w:World} {v cap cap2 pre gc gc2 Aa Ab Ac gc3 gc4} {R:List (List Int)→Bool→(List Int)→Prop} (h:Rec v cap cap2 pre R) (hJ:J T G pre wb) (hS:Sep wb G T w (rl [Res.box 83 gc [(Value.func (.yield l) #[] #[])],Res.box 29 gc2 [(Value.slice Aa Ab Ac)],Res.own cI 3 Aa Ab Ac cap,Res.box 3 gc3 [(Value.int .i64 cap2)],Res.box 105 gc4 [(Value.func (Fn.func 136) #[] #[(Value.pointer (some ⟨gc,0,none⟩)),(Value.pointer (some ⟨gc2,0,none⟩)),(Value.pointer (some ⟨gc3,0,none⟩)),(Value.pointer (some ⟨gc4,0,none⟩))])]])),Calls Tryz.prog 136 #[(Value.int .i64 v),(Value.pointer (some ⟨gc,0,none⟩)),(Value.pointer (some ⟨gc2,0,none⟩)),(Value.pointer (some ⟨gc3,0,none⟩)),(Value.pointer (some ⟨gc4,0,none⟩))] w fun e w'=>(∃ (T' G':BS) (wb':World) (pre':List (List Int)) (r2:Bool) (z:List Int) (Az:Option Addr) (lz:Nat) (cz:Nat),e = .returned (Value.bool (r2))∧J T' G' pre' wb'∧Sep wb' G' T' w' (rl [Res.box 83 gc [(Value.func (.yield l) #[] #[])],Res.box 29 gc2 [(Value.slice Az lz cz)],Res.own cI 3 Az lz cz z,Res.box 3 gc3 [(Value.int .i64 cap2)],Res.box 105 gc4 [(Value.func (Fn.func 136) #[] #[(Value.pointer (some ⟨gc,0,none⟩)),(Value.pointer (some ⟨gc2,0,none⟩)),(Value.pointer (some ⟨gc3,0,none⟩)),(Value.pointer (some ⟨gc4,0,none⟩))])]])∧R pre' r2 z)∨∃ (T' G':BS) (wb':World) (pre':List (List Int)),e = .returned (.bool false)∧Jx T' G' pre' wb'∧Sep wb' G' T' w' (rl [])){T G:BS}{wb w:World}{v cap cap2 pre gc gc2 Aa Ab Ac gc3 gc4}{R:List (List Int)→Bool→(List Int)→Prop}(h:yb4 Pr Rec v cap cap2 pre R)(hJ:J T G pre wb)(hS:Sep wb G T w (rl [Res.box 83 gc [(Value.func (.yield l) #[] #[])],Res.box 29 gc2 [(Value.slice Aa Ab Ac)],Res.own cI 3 Aa Ab Ac cap,Res.box 3 gc3 [(Value.int .i64 cap2)],Res.box 105 gc4 [(Value.func (Fn.func 136) #[] #[(Value.pointer (some ⟨gc,0,none⟩)),(Value.pointer (some ⟨gc2,0,none⟩)),(Value.pointer (some ⟨gc3,0,none⟩)),(Value.pointer (some ⟨gc4,0,none⟩))])]])) :
    Calls Tryz.prog 136 #[(ii v),(.pointer (some ⟨gc,0,none⟩)),(.pointer (some ⟨gc2,0,none⟩)),(.pointer (some ⟨gc3,0,none⟩)),(.pointer (some ⟨gc4,0,none⟩))] w fun e w'=>(∃ (T' G':BS) (wb':World) (pre':List (List Int)) (r2:Bool) (z:List Int) (Az:Option Addr) (lz:Nat) (cz:Nat),e = .returned (.bool (r2))∧J T' G' pre' wb'∧Sep wb' G' T' w' (rl [Res.box 83 gc [(.func (.yield l) #[] #[])],Res.box 29 gc2 [(.slice Az lz cz)],Res.own cI 3 Az lz cz z,Res.box 3 gc3 [(ii cap2)],Res.box 105 gc4 [(.func (Fn.func 136) #[] #[(.pointer (some ⟨gc,0,none⟩)),(.pointer (some ⟨gc2,0,none⟩)),(.pointer (some ⟨gc3,0,none⟩)),(.pointer (some ⟨gc4,0,none⟩))])]])∧R pre' r2 z)∨∃ (T' G':BS) (wb':World) (pre':List (List Int)),e = .returned (.bool false)∧Jx T' G' pre' wb'∧Sep wb' G' T' w' (rl []):=by
  unfold yb4 at h;refine yap (l:=[(ii v),(.pointer (some ⟨gc,0,none⟩)),(.pointer (some ⟨gc2,0,none⟩)),(.pointer (some ⟨gc3,0,none⟩)),(.pointer (some ⟨gc4,0,none⟩))]) func136 rfl ntmps136 zY (zs (zQ (.bool (false)) (yaa (yaf (zs (zq (zl underlying83 (Row.cell (hS.bx 0 rfl) (i:=0) rfl)) (zq (zl underlying29 (Row.cell (hS.bx 1 rfl) (i:=0) rfl)) ?_)))))));obtain ⟨hd,hat,hrd⟩:=hS.handed 2 rfl;obtain ⟨hPr,hyes,hno⟩:=h;refine zn (n_yield (m:=1) rfl (am1 rfl) (gen_yieldHP (x:=cap) (b:=(Aa,Ab,Ac,hd)) hs hJ hS hPr ⟨hat,hrd⟩ ?_ ?_))
  · clear hno hJ hS;have h:=hyes;clear hyes;intro T2 w2 hJ hS;generalize OwnB _=G2 at hJ hS;refine ⟨_,rfl,?_⟩;refine zb (zq (ycX rfl) (yaa (yat (zC (zB rfl)) (yag (yaf (yai ?_))))));obtain ⟨I2,⟨m0,h0⟩,hr⟩:=h;refine yaz (fun m E ds w'=>∃ pre2 v2 v3,∃ T3:BS,∃ G3:BS,∃ wb2:World,∃ Av lv cv,I2 m pre2 v2 v3∧ds=[]∧E 0=(ii v2)∧E 1=(Value.pointer (some ⟨gc,0,none⟩))∧E 2=(Value.pointer (some ⟨gc2,0,none⟩))∧E 3=(Value.pointer (some ⟨gc3,0,none⟩))∧E 4=(Value.pointer (some ⟨gc4,0,none⟩))∧J T3 G3 pre2 wb2∧Sep wb2 G3 T3 w' (rl [Res.box 83 gc [(.func (.yield l) #[] #[])],Res.box 29 gc2 [(.slice Av lv cv)],Res.own cI 3 Av lv cv v3,Res.box 3 gc3 [(ii cap2)],Res.box 105 gc4 [(.func (Fn.func 136) #[] #[(.pointer (some ⟨gc,0,none⟩)),(.pointer (some ⟨gc2,0,none⟩)),(.pointer (some ⟨gc3,0,none⟩)),(.pointer (some ⟨gc4,0,none⟩))])]])) m0 ⟨_,_,_,_,_,_,_,_,_,h0,rfl,rfl,rfl,rfl,rfl,rfl,hJ,(hS.sel [0,1,2,3,4])⟩ ?_;clear h0 hS hJ;rintro m2 E ds w3 ⟨pre2,v2,v3,T3,G3,wb2,Av,lv,cv,h,rfl,H0,H1,H2,H3,H4,hJ,hS⟩ ag;replace h:=hr m2 pre2 v2 v3 h;clear hr;refine yaf (zs (zq (yad H0) (zq (yau H3 underlying3 rfl (Row.cell (hS.bx 3 rfl) (i:=0) rfl)) (zq zL (yaa ?_)))));by_cases hp:v2<cap2
    · replace h:=h.1 hp;refine zc hp (yag (yaf (yai (zs (zq (yau H2 underlying29 rfl (Row.cell (hS.bx 1 rfl) (i:=0) rfl)) (zq (yad H0) (zn (yaX (l:=[(0,(ii v2))]) (cells:=[(ii v2)]) (bp1 rfl) underlying29 yaj rfl rfl ?_))))))));intro g w4 hN;replace hS:=hS.litf (n:=1) 5 rfl (fI .i64) hN ([v2]:List Int) rfl (by decide) rfl;clear hN;refine zb ?_;obtain ⟨hx,h⟩:=h;refine zn (ygp (c:=cI) rfl rfl underlying29 underlying29 yaj rfl rfl (by decide) hS 2 rfl (hS.yo 5 rfl) hx ?_);clear hS;intro A c w5 hS;refine zb (zo (yhn (v:=(.slice A (lv+1) c)) H2 rfl rfl yaL (hS.bwr 1 rfl (j:=0) rfl) ?_));intro w6 e1;replace hS:=hS.bst 1 rfl 0 (.slice A (lv+1) c) e1;clear e1;refine zb (yaa (yaf (zs (zq (yau H4 underlying105 rfl (Row.cell (hS.bx 4 rfl) (i:=0) rfl)) (zq (yad H0) ?_)))));obtain ⟨hi,h⟩:=h;refine zq (zA hi) ?_;have hB:=hS.sel [0,1,2,3,4];clear hS;refine zn (ydx (vs:=#[(ii (v2+1))]) (us:=#[(.pointer (some ⟨gc,0,none⟩)),(.pointer (some ⟨gc2,0,none⟩)),(.pointer (some ⟨gc3,0,none⟩)),(.pointer (some ⟨gc4,0,none⟩))]) rfl (am1 rfl) enter_136 ((ya4 (by simp) (hrec h hJ hB)).mono ?_));clear hJ hB h;rintro _ w7 (⟨T4,G4,wb3,pre3,r,y,A2,l2,c4,rfl,hJ,hS,h⟩ | ⟨T4,G4,wb3,pre3,rfl,hJ,hS⟩)
      · refine ⟨_,rfl,?_⟩;refine zb (zq (ycX rfl) (yaa ?_));by_cases hp2:r=true
        · replace h:=h.1 hp2;refine yat (zC (zB hp2)) (yag (zr (zq (yau H2 underlying29 rfl (Row.cell (hS.bx 1 rfl) (i:=0) rfl)) (zq (yau H2 underlying29 rfl (Row.cell (hS.bx 1 rfl) (i:=0) rfl)) (zq (yaF (n:=y.length) rfl underlying29 (yaE (hS.rdo 2 rfl))) ?_)))));obtain ⟨hi2,h⟩:=h;refine zq (zS hi2) ?_;obtain ⟨hx2,h⟩:=h;have hc:=le_cap (hS.rdo 2 rfl) hx2;replace hS:=hS.cuti 2 rfl hx2;refine zq (ykR rfl rfl underlying29 yaj hc) (zo (yhn (v:=(.slice A2 (((y.length:Int)-1).toNat) c4)) H2 rfl rfl yaL (hS.bwr 1 rfl (j:=0) rfl) ?_));intro w8 e1;replace hS:=hS.bst 1 rfl 0 (.slice A2 (((y.length:Int)-1).toNat) c4) e1;clear e1;refine zb (yaa (yah (zr (zq (yad H0) (zq (zA hi) (zQ (ii (v2+1)) (yaa ?_)))))));obtain ⟨mq,hlt,h⟩:=h;exact ag mq _ _ _ ⟨_,_,_,_,_,_,_,_,_,h,rfl,rfl,H1,H2,H3,H4,hJ,(hS.sel [0,1,2,3,4])⟩ hlt
        · replace h:=h.2 hp2;exact yar (zC (zB (zI hp2))) (zs (zQ (.bool (false)) (yaa (yak rfl rfl (.inl ⟨_,_,_,_,_,_,_,_,_,rfl,hJ,(hS.sel [0,1,2,3,4]),h⟩)))))
      · refine ⟨_,rfl,?_⟩;exact zb (zq (ycX rfl) (yaa (yar (zC (zB rfl)) (zs (zQ (.bool (false)) (yaa (yak rfl rfl (.inr ⟨_,_,_,_,rfl,hJ,(hS.sel [])⟩))))))))
    · replace h:=h.2 hp;exact zd hp (yax rfl (zs (zQ (.bool (true)) (yaa (yak rfl rfl (.inl ⟨_,_,_,_,_,_,_,_,_,rfl,hJ,(hS.sel [0,1,2,3,4]),h⟩))))))
  · clear hyes hJ hS;have h:=hno;clear hno;intro T5 w9 hJ hS;generalize OwnB _=G5 at hJ hS;refine ⟨_,rfl,?_⟩;exact zb (zq (ycX rfl) (yaa (yar (zC (zB rfl)) (zs (zQ (.bool (false)) (yaa (yak rfl rfl (.inr ⟨_,_,_,_,rfl,hJ,(hS.sel [])⟩))))))))
theorem ygR{l}{J Jx:BS→BS→List (List Int)→World→Prop}{Pr:List (List Int)→Prop}(hs:SessHP Tryz.prog l (fun (x:List Int) (b:(Option Addr×Nat×Nat×Hd))=>#[(Value.slice b.1 b.2.1 b.2.2.1)]) (PsI cI) Pr J Jx){nf} : ∀ {T G:BS} {wb w:World} {v cap cap2 pre gc gc2 Aa Ab Ac gc3 gc4} {R:List (List Int)→Bool→(List Int)→Prop} (h:ybs Pr nf v cap cap2 pre R) (hJ:J T G pre wb) (hS:Sep wb G T w (rl [Res.box 83 gc [(Value.func (.yield l) #[] #[])],Res.box 29 gc2 [(Value.slice Aa Ab Ac)],Res.own cI 3 Aa Ab Ac cap,Res.box 3 gc3 [(Value.int .i64 cap2)],Res.box 105 gc4 [(Value.func (Fn.func 136) #[] #[(Value.pointer (some ⟨gc,0,none⟩)),(Value.pointer (some ⟨gc2,0,none⟩)),(Value.pointer (some ⟨gc3,0,none⟩)),(Value.pointer (some ⟨gc4,0,none⟩))])]])),Calls Tryz.prog 136 #[(Value.int .i64 v),(Value.pointer (some ⟨gc,0,none⟩)),(Value.pointer (some ⟨gc2,0,none⟩)),(Value.pointer (some ⟨gc3,0,none⟩)),(Value.pointer (some ⟨gc4,0,none⟩))] w fun e w'=>(∃ (T' G':BS) (wb':World) (pre':List (List Int)) (r2:Bool) (z:List Int) (Az:Option Addr) (lz:Nat) (cz:Nat),e = .returned (Value.bool (r2))∧J T' G' pre' wb'∧Sep wb' G' T' w' (rl [Res.box 83 gc [(Value.func (.yield l) #[] #[])],Res.box 29 gc2 [(Value.slice Az lz cz)],Res.own cI 3 Az lz cz z,Res.box 3 gc3 [(Value.int .i64 cap2)],Res.box 105 gc4 [(Value.func (Fn.func 136) #[] #[(Value.pointer (some ⟨gc,0,none⟩)),(Value.pointer (some ⟨gc2,0,none⟩)),(Value.pointer (some ⟨gc3,0,none⟩)),(Value.pointer (some ⟨gc4,0,none⟩))])]])∧R pre' r2 z)∨∃ (T' G':BS) (wb':World) (pre':List (List Int)),e = .returned (.bool false)∧Jx T' G' pre' wb'∧Sep wb' G' T' w' (rl []):=by
  induction nf with
  | zero=>intros;rename_i h _ _;exact h.elim
  | succ nf ih=>intro T G wb w v cap cap2 pre gc gc2 Aa Ab Ac gc3 gc4 R h hJ hS;exact ygj hs ih h hJ hS
def yb0(cap:Int)(Pr R:List (List Int)→Prop):Prop :=
(∃ fu,ybs Pr fu 0 ([]) cap ([]) (fun pre2 r y =>
R pre2))
theorem yeX{w:World}{T0 G0:BS}{cap gc}{Pr R:List (List Int)→Prop}(h:yb0 cap Pr R)(hS0:Sep w G0 T0 w (rl [Res.box 3 gc [(Value.int .i64 cap)]])) :
    yhG Tryz.prog 135 #[(.pointer (some ⟨gc,0,none⟩))] (fun (x:List Int) (b:(Option Addr×Nat×Nat×Hd))=>#[(.slice b.1 b.2.1 b.2.2.1)]) (PsI cI) Pr R T0 G0 w:=by
  unfold yb0 at h;intro l J Jx T1 w1 hs hJ hp hT;obtain ⟨G,hJ,hS⟩:=gen_startHP hS0 hs hJ hp hT;clear hS0 hp hT;refine yhi (l:=[(.func (.yield l) #[] #[]),(.pointer (some ⟨gc,0,none⟩))]) func135 rfl ntmps135 zY rfl (zs (zn (ya8 (v:=(Value.func (.yield l) #[] #[])) rfl ?_)));intro g w2 hN;replace hS:Sep w1 G T1 w2 (stl _ 1 (Res.box 83 g [(.func (.yield l) #[] #[])])):=hS.new 1 rfl hN;clear hN;refine zb (yaa (zs (zn (yaO yaL ?_))));intro g2 w3 hN;replace hS:Sep w1 G T1 w3 (stl _ 2 (Res.box 29 g2 [(.slice none 0 0)])):=hS.new 2 rfl hN;clear hN;refine zb (yaa (zs (zn (yaO info_105 ?_))));intro g3 w4 hN;replace hS:Sep w1 G T1 w4 (stl _ 3 (Res.box 105 g3 [Value.nilFunc])):=hS.new 3 rfl hN;clear hN;refine zb (yaa (zs (zq (yeZ (am0) (am4 rfl rfl rfl rfl)) (zo (zt (.func (Fn.func 136) #[] #[(.pointer (some ⟨g,0,none⟩)),(.pointer (some ⟨g2,0,none⟩)),(.pointer (some ⟨gc,0,none⟩)),(.pointer (some ⟨g3,0,none⟩))]) info_105 (hS.bwr 3 rfl (j:=0) rfl) ?_)))));intro w5 e1;replace hS:=hS.bst 3 rfl 0 (.func (Fn.func 136) #[] #[(.pointer (some ⟨g,0,none⟩)),(.pointer (some ⟨g2,0,none⟩)),(.pointer (some ⟨gc,0,none⟩)),(.pointer (some ⟨g3,0,none⟩))]) e1;clear e1;refine zb (yaa (zr (zq (zl underlying105 (Row.cell (hS.bx 3 rfl) (i:=0) rfl)) ?_)));replace hS:=hS.nil 4 rfl cI 3;obtain ⟨fu,h⟩:=h;have hB:=hS.sel [1,2,4,0,3];clear hS;refine zn (ydx (vs:=#[(ii 0)]) (us:=#[(.pointer (some ⟨g,0,none⟩)),(.pointer (some ⟨g2,0,none⟩)),(.pointer (some ⟨gc,0,none⟩)),(.pointer (some ⟨g3,0,none⟩))]) rfl (am1 rfl) enter_136 ((ya4 (by simp) (ygR hs h hJ hB)).mono ?_));clear hJ hB h;rintro _ w6 (⟨T2,G2,wb2,pre2,r,y,A,l2,c,rfl,hJ,hS,h⟩ | ⟨T2,G2,wb2,pre2,rfl,hJ,hS⟩)
  · refine ⟨_,rfl,?_⟩;exact zb (yaa (yhj rfl ⟨⟨_,rfl⟩,gen_endHP hs hJ hS h⟩))
  · refine ⟨_,rfl,?_⟩;exact zb (yaa (yhj rfl ⟨⟨_,rfl⟩,gen_endxHP hs hJ hS⟩))
def yc2(n:Int)(Fvalue:(List Int)→(Int→Bool→Prop)→Prop)(R:Int→(List Int)→Prop):Prop :=
ydo n ((∃ Pr Rr:List (List Int)→Prop,yb0 n Pr Rr ∧
(∃ I2:List (List Int)→Int→(List Int)→Prop,I2 [] (-1) ([]) ∧
(∀ pre y best first,I2 pre best first→Pr (pre++[y]) →
Fvalue y (fun (r:Int) (r2:Bool) =>
((r2=true →
((best<0 →
ybc y (fun r3 =>
I2 (pre++[y]) r r3)) ∧
(¬(best<0) →
((r<best →
ybc y (fun r4 =>
I2 (pre++[y]) r r4)) ∧
(¬(r<best) →
I2 (pre++[y]) best first))))) ∧
(¬(r2=true) →
I2 (pre++[y]) best first)))) ∧
(∀ ys best first,I2 ys best first→Rr ys →
R best first))))
theorem yhW{O:Nat→Prop}{w:World}{n:Int}{Fvalue:(List Int)→(Int→Bool→Prop)→Prop}{value:Value}{R:Int→(List Int)→Prop}(h:yc2 n Fvalue R)(hO:∀ k,O k→k<w.heap.size)(hA0:(FP.st fun w'=>∃ (fid:Nat) (us:Array Value),value=Value.func (.func fid) #[] us∧Enters Tryz.prog fid∧∀ (x0:List Int) (Ax0:Option Addr) (lx0:Nat) (cx0:Nat) (R:Int→Bool→Prop),Fvalue x0 R→(FP.sl cI Ax0 lx0 cx0 x0).P no w'→Calls Tryz.prog fid (#[(Value.slice Ax0 lx0 cx0)]++us) w' fun e w''=>∃ r0:Int,∃ r1:Bool,e = .returned (Value.tuple #[(Value.int .i64 r0),(Value.bool (r1))])∧Sep w' no no w'' (rl [])∧R r0 r1).P O w) :
    Calls Tryz.prog 56 #[(ii n),value] w fun e w'=>∃ r5 r6 Ar3 lr3 cr3,e = .returned (.tuple #[(ii r5),(.slice Ar3 lr3 cr3)])∧Sep w no O w' (rl [Res.own cI 3 Ar3 lr3 cr3 r6])∧R r5 r6:=by
  unfold yc2 at h;have hS:Sep w no O w (rl [Res.ro (FP.st fun w'=>∃ (fid:Nat) (us:Array Value),value=Value.func (.func fid) #[] us∧Enters Tryz.prog fid∧∀ (x0:List Int) (Ax0:Option Addr) (lx0:Nat) (cx0:Nat) (R:Int→Bool→Prop),Fvalue x0 R→(FP.sl cI Ax0 lx0 cx0 x0).P no w'→Calls Tryz.prog fid (#[(Value.slice Ax0 lx0 cx0)]++us) w' fun e w''=>∃ r0:Int,∃ r1:Bool,e = .returned (Value.tuple #[(Value.int .i64 r0),(Value.bool (r1))])∧Sep w' no no w'' (rl [])∧R r0 r1)]):=Sep.startl hO [(FP.st fun w'=>∃ (fid:Nat) (us:Array Value),value=Value.func (.func fid) #[] us∧Enters Tryz.prog fid∧∀ (x0:List Int) (Ax0:Option Addr) (lx0:Nat) (cx0:Nat) (R:Int→Bool→Prop),Fvalue x0 R→(FP.sl cI Ax0 lx0 cx0 x0).P no w'→Calls Tryz.prog fid (#[(Value.slice Ax0 lx0 cx0)]++us) w' fun e w''=>∃ r0:Int,∃ r1:Bool,e = .returned (Value.tuple #[(Value.int .i64 r0),(Value.bool (r1))])∧Sep w' no no w'' (rl [])∧R r0 r1)] ⟨hA0,trivial⟩;refine yei (l:=[(Value.int .i64 n),value]) func56 rfl ntmps56 (Nat.le_of_ble_eq_true rfl) ?_;refine yaf ?_;refine yay yaD ?_;refine rl_n rfl rfl rfl rfl (ya8 (v:=value) rfl ?_);intro g w2 hN;obtain ⟨_,_,hf_,_⟩:=hS.ro 0 rfl _ (Keeps.refl _ _);rw [show value.cells = #[value] by rw [hf_];rfl] at hN;clear hf_;replace hS:Sep w no O w2 (stl _ 1 (Res.box 84 g [value])):=hS.new 1 rfl hN;clear hN;refine ⟨Stb.none _,?_⟩;refine rl_q rfl rfl rfl (ybI (v:=(.int .i64 0)) rfl) ?_;refine rl_q rfl rfl rfl (ybI (v:=(.slice none 0 0)) rfl) ?_;refine yaa ?_;refine yaf ?_;refine yay yaD ?_;refine rl_n rfl rfl rfl rfl (yaO yaj ?_);intro g2 w3 hN;replace hS:Sep w no O w3 (stl _ 2 (Res.box 3 g2 [(Value.int .i64 0)])):=hS.new 2 rfl hN;clear hN;refine ⟨Stb.none _,?_⟩;refine rl_n0 rfl rfl rfl (yhn (v:=(.int .i64 (-1))) rfl rfl rfl yaj (hS.bwr 2 rfl (j:=0) rfl) ?_);intro w4 e1;replace hS:=hS.bst 2 rfl 0 (Value.int .i64 (-1)) e1;clear e1;refine ⟨Stb.none _,?_⟩;refine yaa ?_;refine yaf ?_;refine yay yaD ?_;refine rl_n rfl rfl rfl rfl (yaO yaL ?_);intro g3 w5 hN;replace hS:Sep w no O w5 (stl _ 3 (Res.box 29 g3 [(Value.slice none 0 0)])):=hS.new 3 rfl hN;clear hN;refine ⟨Stb.none _,?_⟩;refine yaa ?_;refine yaf ?_;refine yaf ?_;refine yay yaD ?_;refine rl_q rfl rfl rfl (yad (v:=(.int .i64 n)) rfl) ?_;refine rl_n rfl rfl rfl rfl (yam rfl (am1 rfl) enter_102 ((yfJ h hS.blt).mono ?_));rintro _ w6 ⟨gc,rfl,hC,h⟩;replace hS:=hS.call1 hC 4 0 rfl;clear hC;refine ⟨_,rfl,?_⟩;refine ⟨Stb.none _,?_⟩;refine yaa ?_;refine yai ?_;replace hS:=hS.nil 5 rfl cI 3;obtain ⟨Pr,Rr,hgp,I2,h0,hb,h⟩:=h;refine wt_iterSHP hS [1,0,2,3,5] [4] (by decide) (by decide) ⟨.inl (by decide),trivial⟩ rfl enter_135 (val:=(fun (x:List Int) (b:(Option Addr×Nat×Nat×Hd))=>#[(Value.slice b.1 b.2.1 b.2.2.1)])) (hd:=fun x b=>b.2.2.2) (rd:=fun x b=>FP.sl cI b.1 b.2.1 b.2.2.1 x) (Pr:=Pr) (R:=Rr) (fun _ _=>rfl) rfl (fun pr LL=>∃ best:Int,∃ first:List Int,∃ Aa:Option Addr,∃ Ab:Nat,∃ Ac:Nat,I2 pr best first∧LL=[Res.box 84 g [value],Res.ro (FP.st fun w'=>∃ (fid:Nat) (us:Array Value),value=Value.func (.func fid) #[] us∧Enters Tryz.prog fid∧∀ (x0:List Int) (Ax0:Option Addr) (lx0:Nat) (cx0:Nat) (R:Int→Bool→Prop),Fvalue x0 R→(FP.sl cI Ax0 lx0 cx0 x0).P no w'→Calls Tryz.prog fid (#[(Value.slice Ax0 lx0 cx0)]++us) w' fun e w''=>∃ r0:Int,∃ r1:Bool,e = .returned (Value.tuple #[(Value.int .i64 r0),(Value.bool (r1))])∧Sep w' no no w'' (rl [])∧R r0 r1),Res.box 3 g2 [(Value.int .i64 best)],Res.box 29 g3 [(Value.slice Aa Ab Ac)],Res.own cI 3 Aa Ab Ac first]) (fun _ _ _=>False) ⟨_,_,_,_,_,h0,rfl⟩ (fun T G hG=>yeX hgp hG) ?_ ?_ (fun _ _ _ _ _ hx=>hx.elim)
  · clear h h0 hS hgp;rintro ll rdy busy S O2 pre y ⟨A,l,c,hd⟩ w7 _ ⟨best,first,Aa,Ab,Ac,hI,rfl⟩ hPr hrd_ hS;have h:=hb pre y best first hI hPr;clear hb hI hPr;refine yay (ya7 ll) (zQ (.slice A l c) (yaa (ycO fun a ra=>⟨rfl,_,_,ra,hS,⟨5,rfl⟩,?_⟩)));intro w9 hw;replace hS:=hS.flip 5 rfl busy hw;clear hw ra a;refine yai (yaf (yay (ya7 ll) (zq (zl underlying84 (Row.cell (hS.bx 0 rfl) (i:=0) rfl)) (zM (.slice A l c) ?_))));obtain ⟨fid,us,hf,he,hcl⟩:=hS.ro 1 rfl _ (Keeps.refl _ _);replace h:=hcl _ _ _ _ _ h (hS.rdh 6 rfl hrd_);clear hcl;refine zn (ydx (hf) (am1 rfl) he (h.mono ?_));clear hf he;rintro _ w10 ⟨r,r2,rfl,hC,h⟩;replace hS:=hS.pur hC.pure;clear hC;refine ⟨_,rfl,?_⟩;refine zb (zM (.tuple #[(ii r),(.bool (r2))]) (zq (zx (ii r)) (zq (zx (.bool (r2))) (zQ (ii r) (zQ (.bool (r2)) (yaa (yaf (yay (ya7 ll) (zM (.bool (r2)) (zM (.bool (r2)) ?_))))))))));by_cases hp:r2=true
    · replace h:=h.1 hp;refine zW rfl rfl (zC hp) (zl underlying3 (Row.cell (hS.bx 2 rfl) (i:=0) rfl)) (zW rfl rfl (zC hp) zL (zW rfl rfl (zC hp) (zm (.bool (decide (best<0)))) ?_));by_cases hp2:best<0
      · replace h:=h.1 hp2;refine zV rfl rfl (zT hp2) (zV rfl rfl (zT hp2) (zV rfl rfl (zT hp2) (zW rfl rfl (zC hp) (yas (v:=(.bool (true))) (zT hp2) rfl) (zq (yas (v:=(.bool (true))) (zC hp) rfl) (yaa (yar rfl (yay (ya7 ll) (zM (ii r) (zM (.slice A l c) (zn (yam rfl (am1 rfl) yhQ ((yb6 h (yaB _) (hS.rdh 6 rfl hrd_)).mono ?_))))))))))));rintro _ w11 ⟨r3,Ar,lr,cr,rfl,hC,h⟩;replace hS:=hS.call1 (hC.widen (yde (ya0 (fI .i64) _ _ _ _ _) ydA) hS.blt) 7 0 rfl;clear hC;refine ⟨_,rfl,?_⟩;refine zb (zo (zt (ii r) yaj (hS.bwr 2 rfl (j:=0) rfl) ?_));intro w12 e1;replace hS:=hS.bst 2 rfl 0 (ii r) e1;clear e1;refine zb (zo (zt (.slice Ar lr cr) yaL (hS.bwr 3 rfl (j:=0) rfl) ?_));intro w13 e1;replace hS:=hS.bst 3 rfl 0 (.slice Ar lr cr) e1;clear e1;exact zb (yaa (yah (ycO fun a r=>⟨_,⟨_,_,_,_,_,h,rfl⟩,(hS.sel [0,1,2,3,7,5,6])⟩)))
      · replace h:=h.2 hp2;refine zW rfl rfl (zF hp2) (zm (ii r)) (zW rfl rfl (zF hp2) (zl underlying3 (Row.cell (hS.bx 2 rfl) (i:=0) rfl)) (zW rfl rfl (zF hp2) zL (zW rfl rfl (zC hp) (yal (v:=(.bool (decide (r<best)))) (zF hp2) rfl) (zq (yas (v:=(.bool (decide (r<best)))) (zC hp) rfl) (yaa ?_)))));by_cases hp3:r<best
        · replace h:=h.1 hp3;refine zc hp3 (yay (ya7 ll) (zM (ii r) (zM (.slice A l c) (zn (yam rfl (am1 rfl) yhQ ((yb6 h (yaB _) (hS.rdh 6 rfl hrd_)).mono ?_))))));rintro _ w14 ⟨r4,Ar2,lr2,cr2,rfl,hC,h⟩;replace hS:=hS.call1 (hC.widen (yde (ya0 (fI .i64) _ _ _ _ _) ydA) hS.blt) 7 0 rfl;clear hC;refine ⟨_,rfl,?_⟩;refine zb (zo (zt (ii r) yaj (hS.bwr 2 rfl (j:=0) rfl) ?_));intro w15 e1;replace hS:=hS.bst 2 rfl 0 (ii r) e1;clear e1;refine zb (zo (zt (.slice Ar2 lr2 cr2) yaL (hS.bwr 3 rfl (j:=0) rfl) ?_));intro w16 e1;replace hS:=hS.bst 3 rfl 0 (.slice Ar2 lr2 cr2) e1;clear e1;exact zb (yaa (yah (ycO fun a r=>⟨_,⟨_,_,_,_,_,h,rfl⟩,(hS.sel [0,1,2,3,7,5,6])⟩)))
        · replace h:=h.2 hp3;exact zd hp3 (yag (yah (ycO fun a r=>⟨_,⟨_,_,_,_,_,h,rfl⟩,(hS.sel [0,1,2,3,4,5,6])⟩)))
    · replace h:=h.2 hp;exact zV rfl rfl (zC (zI hp)) (zV rfl rfl (zC (zI hp)) (zV rfl rfl (zC (zI hp)) (zX (zX (zX (zV rfl rfl (zC (zI hp)) (zq (yal (v:=(.bool (false))) (zC (zI hp)) rfl) (yaa (yat rfl (yag (yah (ycO fun a r=>⟨_,⟨_,_,_,_,_,h,rfl⟩,(hS.sel [0,1,2,3,4,5,6])⟩))))))))))))
  · clear hb h0 hS hgp;rintro D ys w8 _ hRr ⟨best,first,Aa,Ab,Ac,hI,rfl⟩ hS;replace h:=h ys best first hI hRr;clear hI hRr;refine yah (yaf (yaT [0,1,2,3] st0 yaD (by kernel_rfl) (by kernel_rfl) ?_));replace hS:=hS.drew;exact zp (zl underlying3 (Row.cell (hS.bx 2 rfl) (i:=0) rfl)) (zp (zl underlying29 (Row.cell (hS.bx 3 rfl) (i:=0) rfl)) (zp (za (ii best)) (zp (za (.slice Aa Ab Ac)) (yaZ (yfd (rs:=[D]) (by simp) (hS.marked 5 rfl) rfl rfl rfl (fun w9 hk=>⟨_,_,_,_,_,rfl,(hS.unmark [5] [4] (by decide) (by decide) (yh8 5 rfl) hk),h⟩))))))
def yb9(s:List (List Int))(Ff:(List Int)→(Bool→Prop)→Prop)(R:Int→Prop):Prop :=
(∃ I2:Nat→Int→Prop,(∃ m0,I2 m0 0)∧∀ m2 v,I2 m2 v → 
((v<(s.length:Int) →
((0≤v∧v<(s.length:Int)) ∧
Ff (gx s v.toNat) (fun (r:Bool) =>
((r=true →
R v) ∧
(¬(r=true) →
(In64 (v+1) ∧
∃ m3,m3<m2∧I2 m3 (v+1))))))) ∧
(¬(v<(s.length:Int)) →
R (-1))))
theorem ye4{O:Nat→Prop}{w:World}{s:List (List Int)}{Ff:(List Int)→(Bool→Prop)→Prop}{As:Option Addr}{ls:Nat}{cs:Nat}{f:Value}{R:Int→Prop}(h:yb9 s Ff R)(hO:∀ k,O k→k<w.heap.size)(hA0:(FP.sl (cL cI) As ls cs s).P O w)(hA1:(FP.st fun w'=>∃ (fid:Nat) (us:Array Value),f=Value.func (.func fid) #[] us∧Enters Tryz.prog fid∧∀ (x0:List Int) (Ax0:Option Addr) (lx0:Nat) (cx0:Nat) (R:Bool→Prop),Ff x0 R→(FP.sl cI Ax0 lx0 cx0 x0).P no w'→Calls Tryz.prog fid (#[(Value.slice Ax0 lx0 cx0)]++us) w' fun e w''=>∃ r0:Bool,e = .returned (Value.bool (r0))∧Sep w' no no w'' (rl [])∧R r0).P O w) :
    Calls Tryz.prog 104 #[(.slice As ls cs),f] w fun e w'=>∃ r2,e = .returned (ii r2)∧Sep w no O w' (rl [])∧R r2:=by
  unfold yb9 at h;have hS:Sep w no O w (rl [Res.ro (FP.sl (cL cI) As ls cs s),Res.ro (FP.st fun w'=>∃ (fid:Nat) (us:Array Value),f=Value.func (.func fid) #[] us∧Enters Tryz.prog fid∧∀ (x0:List Int) (Ax0:Option Addr) (lx0:Nat) (cx0:Nat) (R:Bool→Prop),Ff x0 R→(FP.sl cI Ax0 lx0 cx0 x0).P no w'→Calls Tryz.prog fid (#[(Value.slice Ax0 lx0 cx0)]++us) w' fun e w''=>∃ r0:Bool,e = .returned (Value.bool (r0))∧Sep w' no no w'' (rl [])∧R r0)]):=Sep.startl hO [(FP.sl (cL cI) As ls cs s),(FP.st fun w'=>∃ (fid:Nat) (us:Array Value),f=Value.func (.func fid) #[] us∧Enters Tryz.prog fid∧∀ (x0:List Int) (Ax0:Option Addr) (lx0:Nat) (cx0:Nat) (R:Bool→Prop),Ff x0 R→(FP.sl cI Ax0 lx0 cx0 x0).P no w'→Calls Tryz.prog fid (#[(Value.slice Ax0 lx0 cx0)]++us) w' fun e w''=>∃ r0:Bool,e = .returned (Value.bool (r0))∧Sep w' no no w'' (rl [])∧R r0)] ⟨hA0,hA1,trivial⟩;refine yap (l:=[(Value.slice As ls cs),f]) func104 rfl ntmps104 (Nat.le_of_ble_eq_true rfl) ?_;refine yaf ?_;refine yay yaD ?_;refine rl_q rfl rfl rfl (ybI (v:=(.int .i64 0)) rfl) ?_;refine yaa ?_;refine yaf ?_;refine yaf ?_;refine yay yaD ?_;refine rl_q rfl rfl rfl (yad (v:=(.slice As ls cs)) rfl) ?_;refine rl_q rfl rfl rfl (yaF (n:=s.length) rfl underlying25 (yaE (hS.rdr 0 rfl))) ?_;refine rl_q rfl rfl rfl (yad (v:=(.int .i64 0)) rfl) ?_;refine yaa ?_;refine yai ?_;obtain ⟨I2,⟨m0,h0⟩,hr⟩:=h;refine yaz (fun m E ds w'=>∃ v:Int,I2 m v∧ds=[]∧E 0=(Value.slice As ls cs)∧E 1=f∧E 7=(Value.int .i64 ((s.length:Nat):Int))∧E 8=(Value.int .i64 v)∧Sep w no O w' (rl [Res.ro (FP.sl (cL cI) As ls cs s),Res.ro (FP.st fun w'=>∃ (fid:Nat) (us:Array Value),f=Value.func (.func fid) #[] us∧Enters Tryz.prog fid∧∀ (x0:List Int) (Ax0:Option Addr) (lx0:Nat) (cx0:Nat) (R:Bool→Prop),Ff x0 R→(FP.sl cI Ax0 lx0 cx0 x0).P no w'→Calls Tryz.prog fid (#[(Value.slice Ax0 lx0 cx0)]++us) w' fun e w''=>∃ r0:Bool,e = .returned (Value.bool (r0))∧Sep w' no no w'' (rl [])∧R r0)])) m0 ⟨_,h0,rfl,rfl,rfl,rfl,rfl,(hS.sel [0,1] (by decide))⟩ ?_;clear h0 hS;rintro m2 E ds w2 ⟨v,h,rfl,H0,H1,H7,H8,hS⟩ ag;replace h:=hr m2 v h;clear hr;refine yaf ?_;refine yay yaD ?_;refine rl_q rfl rfl rfl (ydj H8 H7) ?_;refine yaa ?_;refine yaf ?_;by_cases hp:v<((s.length:Nat):Int)
  · replace h:=h.1 hp;refine zc hp (yag (yaf (yai (zs (zq (yad H8) (zQ (ii v) (yaa (zs (zq (yad H1) (zq (yad H0) (zM (ii v) ?_)))))))))));obtain ⟨hx,h⟩:=h;refine zq (zi underlying25 yaL (yaP (hS.rdr 0 rfl) hx)) ?_;obtain ⟨A,l,c,hc,hq⟩:=hS.el 0 rfl hx 2 3 rfl rfl (by decide);replace hS:=hq;clear hq;refine zq (yau (v:=(.slice A l c)) rfl underlying29 rfl (hS.clr 3 rfl)) ?_;obtain ⟨fid,us,hf,he,hcl⟩:=hS.ro 1 rfl _ (Keeps.refl _ _);replace h:=hcl _ _ _ _ _ h (hS.rdr 2 rfl);clear hcl;refine zn (ydx (hf) (am1 rfl) he (h.mono ?_));clear hf he;rintro _ w3 ⟨r,rfl,hC,h⟩;replace hS:=hS.pur hC.pure;clear hC;refine ⟨_,rfl,?_⟩;refine zb (yaa ?_);by_cases hp2:r=true
    · replace h:=h.1 hp2;exact yar (zC hp2) (zs (zM (ii v) (zQ (ii v) (yaa (yak rfl rfl ⟨_,rfl,(hS.sel []),h⟩)))))
    · replace h:=h.2 hp2;refine yat (zC (zI hp2)) (yag (yah (zr ?_)));obtain ⟨hi,h⟩:=h;refine zq (ybS H8 rfl hi) (zM (ii (v+1)) (yaa ?_));obtain ⟨mq,hlt,h⟩:=h;exact ag mq _ _ _ ⟨_,h,rfl,H0,H1,H7,rfl,(hS.sel [0,1])⟩ hlt
  · replace h:=h.2 hp;exact zd hp (yax rfl (zs (zQ (ii (-1)) (yaa (yak rfl rfl ⟨_,rfl,(hS.sel []),h⟩)))))
def yaU(s:List (List Int))(Ff:(List Int)→(Bool→Prop)→Prop)(R:Bool→Prop):Prop :=
yb9 s Ff (fun r =>
R (decide (0≤r)))
theorem ybD{O:Nat→Prop}{w:World}{s:List (List Int)}{Ff:(List Int)→(Bool→Prop)→Prop}{As:Option Addr}{ls:Nat}{cs:Nat}{f:Value}{R:Bool→Prop}(h:yaU s Ff R)(hO:∀ k,O k→k<w.heap.size)(hA0:(FP.sl (cL cI) As ls cs s).P O w)(hA1:(FP.st fun w'=>∃ (fid:Nat) (us:Array Value),f=Value.func (.func fid) #[] us∧Enters Tryz.prog fid∧∀ (x0:List Int) (Ax0:Option Addr) (lx0:Nat) (cx0:Nat) (R:Bool→Prop),Ff x0 R→(FP.sl cI Ax0 lx0 cx0 x0).P no w'→Calls Tryz.prog fid (#[(Value.slice Ax0 lx0 cx0)]++us) w' fun e w''=>∃ r0:Bool,e = .returned (Value.bool (r0))∧Sep w' no no w'' (rl [])∧R r0).P O w) :
    Calls Tryz.prog 58 #[(.slice As ls cs),f] w fun e w'=>∃ r2,e = .returned (.bool (r2))∧Sep w no O w' (rl [])∧R r2:=by
  unfold yaU at h;have hS:Sep w no O w (rl [Res.ro (FP.sl (cL cI) As ls cs s),Res.ro (FP.st fun w'=>∃ (fid:Nat) (us:Array Value),f=Value.func (.func fid) #[] us∧Enters Tryz.prog fid∧∀ (x0:List Int) (Ax0:Option Addr) (lx0:Nat) (cx0:Nat) (R:Bool→Prop),Ff x0 R→(FP.sl cI Ax0 lx0 cx0 x0).P no w'→Calls Tryz.prog fid (#[(Value.slice Ax0 lx0 cx0)]++us) w' fun e w''=>∃ r0:Bool,e = .returned (Value.bool (r0))∧Sep w' no no w'' (rl [])∧R r0)]):=Sep.startl hO [(FP.sl (cL cI) As ls cs s),(FP.st fun w'=>∃ (fid:Nat) (us:Array Value),f=Value.func (.func fid) #[] us∧Enters Tryz.prog fid∧∀ (x0:List Int) (Ax0:Option Addr) (lx0:Nat) (cx0:Nat) (R:Bool→Prop),Ff x0 R→(FP.sl cI Ax0 lx0 cx0 x0).P no w'→Calls Tryz.prog fid (#[(Value.slice Ax0 lx0 cx0)]++us) w' fun e w''=>∃ r0:Bool,e = .returned (Value.bool (r0))∧Sep w' no no w'' (rl [])∧R r0)] ⟨hA0,hA1,trivial⟩;refine yap (l:=[(Value.slice As ls cs),f]) func58 rfl ntmps58 (Nat.le_of_ble_eq_true rfl) ?_;refine yaf ?_;refine yay yaD ?_;refine rl_q rfl rfl rfl (ybI (v:=(.bool (false))) rfl) ?_;refine yaa ?_;refine yaf ?_;refine yay yaD ?_;refine rl_q rfl rfl rfl (yad (v:=(.slice As ls cs)) rfl) ?_;refine rl_q rfl rfl rfl (yad (v:=f) rfl) ?_;refine rl_n rfl rfl rfl rfl (yam rfl (am2 rfl rfl) enter_104 ((ye4 h (yaB _) (hS.rdr 0 rfl) (FP.sub _ (hS.ro 1 rfl) (fun _ _ h=>h.elim):FP.P _ no _)).mono ?_));rintro _ w2 ⟨r,rfl,hC,h⟩;replace hS:=hS.pur hC.pure;clear hC;refine ⟨_,rfl,?_⟩;refine ⟨Stb.none _,?_⟩;refine rl_q rfl rfl rfl (yiF rfl rfl) ?_;refine rl_q rfl rfl rfl (ybI (v:=(.bool (decide (0≤r)))) rfl) ?_;refine yaa ?_;exact yak rfl rfl ⟨_,rfl,(hS.sel [] (by decide)),h⟩
def ycj(s:List Int)(Ff:Int→(Bool→Prop)→Prop)(R:Int→Prop):Prop :=
(∃ I2:Nat→Int→Prop,(∃ m0,I2 m0 0)∧∀ m2 v,I2 m2 v → 
((v<(s.length:Int) →
((0≤v∧v<(s.length:Int)) ∧
Ff (gi s v.toNat) (fun (r:Bool) =>
((r=true →
R v) ∧
(¬(r=true) →
(In64 (v+1) ∧
∃ m3,m3<m2∧I2 m3 (v+1))))))) ∧
(¬(v<(s.length:Int)) →
R (-1))))
theorem yfo{O:Nat→Prop}{w:World}{s:List Int}{Ff:Int→(Bool→Prop)→Prop}{As:Option Addr}{ls:Nat}{cs:Nat}{f:Value}{R:Int→Prop}(h:ycj s Ff R)(hO:∀ k,O k→k<w.heap.size)(hA0:(FP.sl cI As ls cs s).P O w)(hA1:(FP.st fun w'=>∃ (fid:Nat) (us:Array Value),f=Value.func (.func fid) #[] us∧Enters Tryz.prog fid∧∀ (x0:Int) (R:Bool→Prop),Ff x0 R→Calls Tryz.prog fid (#[(Value.int .i64 x0)]++us) w' fun e w''=>∃ r0:Bool,e = .returned (Value.bool (r0))∧Sep w' no no w'' (rl [])∧R r0).P O w) :
    Calls Tryz.prog 137 #[(.slice As ls cs),f] w fun e w'=>∃ r2,e = .returned (ii r2)∧Sep w no O w' (rl [])∧R r2:=by
  unfold ycj at h;have hS:Sep w no O w (rl [Res.ro (FP.sl cI As ls cs s),Res.ro (FP.st fun w'=>∃ (fid:Nat) (us:Array Value),f=Value.func (.func fid) #[] us∧Enters Tryz.prog fid∧∀ (x0:Int) (R:Bool→Prop),Ff x0 R→Calls Tryz.prog fid (#[(Value.int .i64 x0)]++us) w' fun e w''=>∃ r0:Bool,e = .returned (Value.bool (r0))∧Sep w' no no w'' (rl [])∧R r0)]):=Sep.startl hO [(FP.sl cI As ls cs s),(FP.st fun w'=>∃ (fid:Nat) (us:Array Value),f=Value.func (.func fid) #[] us∧Enters Tryz.prog fid∧∀ (x0:Int) (R:Bool→Prop),Ff x0 R→Calls Tryz.prog fid (#[(Value.int .i64 x0)]++us) w' fun e w''=>∃ r0:Bool,e = .returned (Value.bool (r0))∧Sep w' no no w'' (rl [])∧R r0)] ⟨hA0,hA1,trivial⟩;refine yap (l:=[(Value.slice As ls cs),f]) func137 rfl ntmps137 (Nat.le_of_ble_eq_true rfl) ?_;refine yaf ?_;refine yay yaD ?_;refine rl_q rfl rfl rfl (ybI (v:=(.int .i64 0)) rfl) ?_;refine yaa ?_;refine yaf ?_;refine yaf ?_;refine yay yaD ?_;refine rl_q rfl rfl rfl (yad (v:=(.slice As ls cs)) rfl) ?_;refine rl_q rfl rfl rfl (yaF (n:=s.length) rfl underlying29 (yaE (hS.rdr 0 rfl))) ?_;refine rl_q rfl rfl rfl (yad (v:=(.int .i64 0)) rfl) ?_;refine yaa ?_;refine yai ?_;obtain ⟨I2,⟨m0,h0⟩,hr⟩:=h;refine yaz (fun m E ds w'=>∃ v:Int,I2 m v∧ds=[]∧E 0=(Value.slice As ls cs)∧E 1=f∧E 7=(Value.int .i64 ((s.length:Nat):Int))∧E 8=(Value.int .i64 v)∧Sep w no O w' (rl [Res.ro (FP.sl cI As ls cs s),Res.ro (FP.st fun w'=>∃ (fid:Nat) (us:Array Value),f=Value.func (.func fid) #[] us∧Enters Tryz.prog fid∧∀ (x0:Int) (R:Bool→Prop),Ff x0 R→Calls Tryz.prog fid (#[(Value.int .i64 x0)]++us) w' fun e w''=>∃ r0:Bool,e = .returned (Value.bool (r0))∧Sep w' no no w'' (rl [])∧R r0)])) m0 ⟨_,h0,rfl,rfl,rfl,rfl,rfl,(hS.sel [0,1] (by decide))⟩ ?_;clear h0 hS;rintro m2 E ds w2 ⟨v,h,rfl,H0,H1,H7,H8,hS⟩ ag;replace h:=hr m2 v h;clear hr;refine yaf ?_;refine yay yaD ?_;refine rl_q rfl rfl rfl (ydj H8 H7) ?_;refine yaa ?_;refine yaf ?_;by_cases hp:v<((s.length:Nat):Int)
  · replace h:=h.1 hp;refine zc hp (yag (yaf (yai (zs (zq (yad H8) (zQ (ii v) (yaa (zs (zq (yad H1) (zq (yad H0) (zM (ii v) ?_)))))))))));obtain ⟨hx,h⟩:=h;refine zq (zi underlying29 yaj (yaP (hS.rdr 0 rfl) hx)) (zq (yau (v:=(ii (gi s v.toNat))) rfl underlying3 rfl (rd_1 (hS.rdr 0 rfl) hx (fun q=>yaY q) rfl)) ?_);obtain ⟨fid,us,hf,he,hcl⟩:=hS.ro 1 rfl _ (Keeps.refl _ _);replace h:=hcl _ _ h;clear hcl;refine zn (ydx (hf) (am1 rfl) he (h.mono ?_));clear hf he;rintro _ w3 ⟨r,rfl,hC,h⟩;replace hS:=hS.pur hC.pure;clear hC;refine ⟨_,rfl,?_⟩;refine zb (yaa ?_);by_cases hp2:r=true
    · replace h:=h.1 hp2;exact yar (zC hp2) (zs (zM (ii v) (zQ (ii v) (yaa (yak rfl rfl ⟨_,rfl,(hS.sel []),h⟩)))))
    · replace h:=h.2 hp2;refine yat (zC (zI hp2)) (yag (yah (zr ?_)));obtain ⟨hi,h⟩:=h;refine zq (ybS H8 rfl hi) (zM (ii (v+1)) (yaa ?_));obtain ⟨mq,hlt,h⟩:=h;exact ag mq _ _ _ ⟨_,h,rfl,H0,H1,H7,rfl,(hS.sel [0,1])⟩ hlt
  · replace h:=h.2 hp;exact zd hp (yax rfl (zs (zQ (ii (-1)) (yaa (yak rfl rfl ⟨_,rfl,(hS.sel []),h⟩)))))
def yba(s:List Int)(Ff:Int→(Bool→Prop)→Prop)(R:Bool→Prop):Prop :=
ycj s Ff (fun r =>
R (decide (0≤r)))
theorem ycN{O:Nat→Prop}{w:World}{s:List Int}{Ff:Int→(Bool→Prop)→Prop}{As:Option Addr}{ls:Nat}{cs:Nat}{f:Value}{R:Bool→Prop}(h:yba s Ff R)(hO:∀ k,O k→k<w.heap.size)(hA0:(FP.sl cI As ls cs s).P O w)(hA1:(FP.st fun w'=>∃ (fid:Nat) (us:Array Value),f=Value.func (.func fid) #[] us∧Enters Tryz.prog fid∧∀ (x0:Int) (R:Bool→Prop),Ff x0 R→Calls Tryz.prog fid (#[(Value.int .i64 x0)]++us) w' fun e w''=>∃ r0:Bool,e = .returned (Value.bool (r0))∧Sep w' no no w'' (rl [])∧R r0).P O w) :
    Calls Tryz.prog 105 #[(.slice As ls cs),f] w fun e w'=>∃ r2,e = .returned (.bool (r2))∧Sep w no O w' (rl [])∧R r2:=by
  unfold yba at h;have hS:Sep w no O w (rl [Res.ro (FP.sl cI As ls cs s),Res.ro (FP.st fun w'=>∃ (fid:Nat) (us:Array Value),f=Value.func (.func fid) #[] us∧Enters Tryz.prog fid∧∀ (x0:Int) (R:Bool→Prop),Ff x0 R→Calls Tryz.prog fid (#[(Value.int .i64 x0)]++us) w' fun e w''=>∃ r0:Bool,e = .returned (Value.bool (r0))∧Sep w' no no w'' (rl [])∧R r0)]):=Sep.startl hO [(FP.sl cI As ls cs s),(FP.st fun w'=>∃ (fid:Nat) (us:Array Value),f=Value.func (.func fid) #[] us∧Enters Tryz.prog fid∧∀ (x0:Int) (R:Bool→Prop),Ff x0 R→Calls Tryz.prog fid (#[(Value.int .i64 x0)]++us) w' fun e w''=>∃ r0:Bool,e = .returned (Value.bool (r0))∧Sep w' no no w'' (rl [])∧R r0)] ⟨hA0,hA1,trivial⟩;refine yap (l:=[(Value.slice As ls cs),f]) func105 rfl ntmps105 (Nat.le_of_ble_eq_true rfl) ?_;refine yaf ?_;refine yay yaD ?_;refine rl_q rfl rfl rfl (ybI (v:=(.bool (false))) rfl) ?_;refine yaa ?_;refine yaf ?_;refine yay yaD ?_;refine rl_q rfl rfl rfl (yad (v:=(.slice As ls cs)) rfl) ?_;refine rl_q rfl rfl rfl (yad (v:=f) rfl) ?_;refine rl_n rfl rfl rfl rfl (yam rfl (am2 rfl rfl) enter_137 ((yfo h (yaB _) (hS.rdr 0 rfl) (FP.sub _ (hS.ro 1 rfl) (fun _ _ h=>h.elim):FP.P _ no _)).mono ?_));rintro _ w2 ⟨r,rfl,hC,h⟩;replace hS:=hS.pur hC.pure;clear hC;refine ⟨_,rfl,?_⟩;refine ⟨Stb.none _,?_⟩;refine rl_q rfl rfl rfl (yiF rfl rfl) ?_;refine rl_q rfl rfl rfl (ybI (v:=(.bool (decide (0≤r)))) rfl) ?_;refine yaa ?_;exact yak rfl rfl ⟨_,rfl,(hS.sel [] (by decide)),h⟩
def ydw(v:Int)(cap:List Int)(R:Bool→Prop):Prop :=
yaR cap v (fun r =>
R r)
theorem yha{O:Nat→Prop}{w:World}{v cap gc Aa Ab Ac}{R:Bool→Prop}(h:ydw v cap R)(hO:∀ k,O k→k<w.heap.size)(hA0:(FP.bx 29 gc [(Value.slice Aa Ab Ac)]).P O w)(hA1:(FP.sl cI Aa Ab Ac cap).P O w) :
    Calls Tryz.prog 106 #[(ii v),(.pointer (some ⟨gc,0,none⟩))] w fun e w'=>∃ r2,e = .returned (.bool (r2))∧Sep w no O w' (rl [])∧R r2:=by
  unfold ydw at h;have hS:Sep w no O w (rl [Res.ro (FP.bx 29 gc [(.slice Aa Ab Ac)]),Res.ro (FP.sl cI Aa Ab Ac cap)]):=Sep.startl hO [(FP.bx 29 gc [(.slice Aa Ab Ac)]),(FP.sl cI Aa Ab Ac cap)] ⟨hA0,hA1,trivial⟩;refine yap (l:=[(ii v),(.pointer (some ⟨gc,0,none⟩))]) func106 rfl ntmps106 zY (zs (zQ (.bool (false)) (yaa (zs (zq (zl underlying29 (Row.cell (hS.bxr 0 rfl) (i:=0) rfl)) (zM (ii v) (zn (yam rfl (am2 rfl rfl) yhS ((ybA h (yaB _) (hS.rdr 1 rfl)).mono ?_)))))))));rintro _ w2 ⟨r,rfl,hC,h⟩;replace hS:=hS.pur hC.pure;clear hC;refine ⟨_,rfl,?_⟩;exact zb (zQ (.bool (r)) (yaa (yak rfl rfl ⟨_,rfl,(hS.sel []),h⟩)))
def ycf(set2:List Int)(egg:List Int)(R:Bool→Prop):Prop :=
yba egg (fun x R=>ydw x set2 R) (fun r =>
R r)
theorem yfg{O:Nat→Prop}{w:World}{set2 egg Ad Ae Af Aa Ab Ac}{R:Bool→Prop}(h:ycf set2 egg R)(hO:∀ k,O k→k<w.heap.size)(hA0:(FP.sl cI Ad Ae Af set2).P O w)(hA1:(FP.sl cI Aa Ab Ac egg).P O w) :
    Calls Tryz.prog 60 #[(.slice Ad Ae Af),(.slice Aa Ab Ac)] w fun e w'=>∃ r2,e = .returned (.bool (r2))∧Sep w no O w' (rl [])∧R r2:=by
  unfold ycf at h;have hS:Sep w no O w (rl [Res.ro (FP.sl cI Ad Ae Af set2),Res.ro (FP.sl cI Aa Ab Ac egg)]):=Sep.startl hO [(FP.sl cI Ad Ae Af set2),(FP.sl cI Aa Ab Ac egg)] ⟨hA0,hA1,trivial⟩;refine yap (l:=[(.slice Ad Ae Af),(.slice Aa Ab Ac)]) func60 rfl ntmps60 zY (zs (zn (ya8 (v:=(.slice Ad Ae Af)) rfl ?_)));intro g w2 hN;replace hS:Sep w no O w2 (stl _ 2 (Res.box 29 g [(.slice Ad Ae Af)])):=hS.new 2 rfl hN;clear hN;refine zb (zQ (.bool (false)) (yaa (zs (zM (.slice Aa Ab Ac) (zq (yeZ (am0) (am1 rfl)) ?_)))));replace hS:=hS.frzb 2 rfl;refine zn (yam rfl (am2 rfl rfl) enter_105 ((ycN h (yaB _) (hS.rdr 1 rfl) (fun w' hk=>⟨106,#[(.pointer (some ⟨g,0,none⟩))],rfl,enter_106,fun x R hF=>ya4 (by simp) (yha hF (yaB _) (FP.sub _ (FP.keep _ (FP.sub _ (hS.ro 2 rfl) (fun _ _ h=>h.elim):FP.P _ no _) hk) fun _ _ h=>h.elim) (FP.sub _ (FP.keep _ (FP.sub _ (hS.ro 0 rfl) (fun _ _ h=>h.elim):FP.P _ no _) hk) fun _ _ h=>h.elim))⟩)).mono ?_));rintro _ w3 ⟨r,rfl,hC,h⟩;replace hS:=hS.pur hC.pure;clear hC;refine ⟨_,rfl,?_⟩;exact zb (zQ (.bool (r)) (yaa (yak rfl rfl ⟨_,rfl,(hS.sel []),h⟩)))
def ycu(egg:List Int)(cap:List Int)(R:Bool→Prop):Prop :=
ycf cap egg (fun r =>
R (!(r)))
theorem yfI{O:Nat→Prop}{w:World}{egg cap Ad Ae Af gc Aa Ab Ac}{R:Bool→Prop}(h:ycu egg cap R)(hO:∀ k,O k→k<w.heap.size)(hA0:(FP.sl cI Ad Ae Af egg).P O w)(hA1:(FP.bx 29 gc [(Value.slice Aa Ab Ac)]).P O w)(hA2:(FP.sl cI Aa Ab Ac cap).P O w) :
    Calls Tryz.prog 59 #[(.slice Ad Ae Af),(.pointer (some ⟨gc,0,none⟩))] w fun e w'=>∃ r2,e = .returned (.bool (r2))∧Sep w no O w' (rl [])∧R r2:=by
  unfold ycu at h;have hS:Sep w no O w (rl [Res.ro (FP.sl cI Ad Ae Af egg),Res.ro (FP.bx 29 gc [(.slice Aa Ab Ac)]),Res.ro (FP.sl cI Aa Ab Ac cap)]):=Sep.startl hO [(FP.sl cI Ad Ae Af egg),(FP.bx 29 gc [(.slice Aa Ab Ac)]),(FP.sl cI Aa Ab Ac cap)] ⟨hA0,hA1,hA2,trivial⟩;refine yap (l:=[(.slice Ad Ae Af),(.pointer (some ⟨gc,0,none⟩))]) func59 rfl ntmps59 zY (zs (zQ (.bool (false)) (yaa (zs (zq (zl underlying29 (Row.cell (hS.bxr 1 rfl) (i:=0) rfl)) (zM (.slice Ad Ae Af) (zn (yam rfl (am2 rfl rfl) enter_60 ((yfg h (yaB _) (hS.rdr 2 rfl) (hS.rdr 0 rfl)).mono ?_)))))))));rintro _ w2 ⟨r,rfl,hC,h⟩;replace hS:=hS.pur hC.pure;clear hC;refine ⟨_,rfl,?_⟩;exact zb (zq (ycX rfl) (zQ (.bool (!(r))) (yaa (yak rfl rfl ⟨_,rfl,(hS.sel []),h⟩))))
def yb1(set2:List Int)(cap:List (List Int))(R:Int→Bool→Prop):Prop :=
yaU cap (fun x R=>ycu x set2 R) (fun r =>
R (set2.length:Int) (!(r)))
theorem ygk{O:Nat→Prop}{w:World}{set2 cap Ad Ae Af gc Aa Ab Ac}{R:Int→Bool→Prop}(h:yb1 set2 cap R)(hO:∀ k,O k→k<w.heap.size)(hA0:(FP.sl cI Ad Ae Af set2).P O w)(hA1:(FP.bx 25 gc [(Value.slice Aa Ab Ac)]).P O w)(hA2:(FP.sl (cL cI) Aa Ab Ac cap).P O w) :
    Calls Tryz.prog 57 #[(.slice Ad Ae Af),(.pointer (some ⟨gc,0,none⟩))] w fun e w'=>∃ r2 r3,e = .returned (.tuple #[(ii r2),(.bool (r3))])∧Sep w no O w' (rl [])∧R r2 r3:=by
  unfold yb1 at h;have hS:Sep w no O w (rl [Res.ro (FP.sl cI Ad Ae Af set2),Res.ro (FP.bx 25 gc [(.slice Aa Ab Ac)]),Res.ro (FP.sl (cL cI) Aa Ab Ac cap)]):=Sep.startl hO [(FP.sl cI Ad Ae Af set2),(FP.bx 25 gc [(.slice Aa Ab Ac)]),(FP.sl (cL cI) Aa Ab Ac cap)] ⟨hA0,hA1,hA2,trivial⟩;refine yap (l:=[(.slice Ad Ae Af),(.pointer (some ⟨gc,0,none⟩))]) func57 rfl ntmps57 zY (zs (zn (ya8 (v:=(.slice Ad Ae Af)) rfl ?_)));intro g w2 hN;replace hS:Sep w no O w2 (stl _ 3 (Res.box 29 g [(.slice Ad Ae Af)])):=hS.new 3 rfl hN;clear hN;refine zb (zQ (ii 0) (zQ (.bool (false)) (yaa (yaf (yaT [0,1,2,3,4,5,6,7] (fun i=>match i with | 4=>[0,1] | _=>[]) yaD (by kernel_rfl) (by kernel_rfl) ?_)))));replace hS:=hS.drew;refine zp (zl underlying29 (Row.cell (hS.bx 3 rfl) (i:=0) rfl)) (zp (yaF (n:=set2.length) rfl underlying29 (yaE (hS.rdr 0 rfl))) (zp (zl underlying25 (Row.cell (hS.bxr 1 rfl) (i:=0) rfl)) (zp (yeZ (am0) (am1 rfl)) ?_)));replace hS:=hS.frzb 3 rfl;refine rp_n rfl rfl rfl rfl (yam rfl (am2 rfl rfl) enter_58 ((ybD h (yaB _) (hS.rdr 2 rfl) (fun w' hk=>⟨59,#[(.pointer (some ⟨g,0,none⟩))],rfl,enter_59,fun x Ax lx cx R hF hz0=>ya4 (by simp) (yfI hF (yaB _) hz0 (FP.sub _ (FP.keep _ (FP.sub _ (hS.ro 3 rfl) (fun _ _ h=>h.elim):FP.P _ no _) hk) fun _ _ h=>h.elim) (FP.sub _ (FP.keep _ (FP.sub _ (hS.ro 0 rfl) (fun _ _ h=>h.elim):FP.P _ no _) hk) fun _ _ h=>h.elim))⟩)).mono ?_));rintro _ w3 ⟨r,rfl,hC,h⟩;replace hS:=hS.pur hC.pure;clear hC;refine ⟨_,rfl,?_⟩;refine ⟨⟨fun hh=>zZ hh,⟨fun hh=>zZ hh,⟨fun _=>(yaF (n:=set2.length) rfl underlying29 (yaE (hS.rdr 0 rfl))),⟨fun _=>(zl underlying29 (Row.cell (hS.bxr 3 rfl) (i:=0) rfl)),trivial⟩⟩⟩⟩,?_⟩;exact zp (ycX rfl) (zp (za (ii (set2.length:Int))) (zp (za (.bool (!(r)))) (yaZ (yaG rfl rfl rfl ⟨_,_,rfl,(hS.sel []),h⟩))))
def ybh(g:Int)(g2:List E3)(s:List (List Int))(R:Int→(List Int)→Int→Prop):Prop :=
ybN g g2 s (fun r =>
((r=0 →
yc2 g (fun x R=>yb1 x s R) (fun r2 r3 =>
R r2 r3 0)) ∧
(¬(r=0) →
R 0 ([]) r)))
theorem ydd{O:Nat→Prop}{w:World}{g g2 s Ag lg cg As ls cs}{R:Int→(List Int)→Int→Prop}(h:ybh g g2 s R)(hO:∀ k,O k→k<w.heap.size)(hA0:(FP.sl c3 Ag lg cg g2).P O w)(hA1:(FP.sl (cL cI) As ls cs s).P O w) :
    Calls Tryz.prog 14 #[(.agg #[(ii g),(.slice Ag lg cg)]),(.slice As ls cs)] w fun e w'=>∃ r4 r5 r6 Ar2 lr2 cr2,e = .returned (.tuple #[(ii r4),(.slice Ar2 lr2 cr2),(ii r6)])∧Sep w no O w' (rl [Res.own cI 3 Ar2 lr2 cr2 r5])∧R r4 r5 r6:=by
  unfold ybh at h;have hS:Sep w no O w (rl [Res.ro (FP.sl c3 Ag lg cg g2),Res.ro (FP.sl (cL cI) As ls cs s)]):=Sep.startl hO [(FP.sl c3 Ag lg cg g2),(FP.sl (cL cI) As ls cs s)] ⟨hA0,hA1,trivial⟩;refine yap (l:=[(.agg #[(ii g),(.slice Ag lg cg)]),(.slice As ls cs)]) func14 rfl ntmps14 zY (zs (zn (ya8 (v:=(.agg #[(ii g),(.slice Ag lg cg)])) rfl ?_)));intro g3 w2 hN;replace hS:Sep w no O w2 (stl _ 2 (Res.box 24 g3 [(ii g),(.slice Ag lg cg)])):=hS.new 2 rfl hN;clear hN;refine zb (zn (ya8 (v:=(.slice As ls cs)) rfl ?_));intro g4 w3 hN;replace hS:Sep w no O w3 (stl _ 3 (Res.box 25 g4 [(.slice As ls cs)])):=hS.new 3 rfl hN;clear hN;refine zb (zQ (ii 0) (zQ (.slice none 0 0) (zQ (ii 0) (yaa (yaf (zs (zq (yaq (vs:=[(ii g),(.slice Ag lg cg)]) rfl underlying24 rfl yao ⟨Row.cell (hS.bx 2 rfl) (i:=0) rfl,Row.cell (hS.bx 2 rfl) (i:=1) rfl,trivial⟩) (zq (zl underlying25 (Row.cell (hS.bx 3 rfl) (i:=0) rfl)) (zn (yam rfl (am2 rfl rfl) enter_20 ((ydL h (yaB _) (hS.rdr 0 rfl) (hS.rdr 1 rfl)).mono ?_)))))))))));rintro _ w4 ⟨r,rfl,hC,h⟩;replace hS:=hS.pur hC.pure;clear hC;refine ⟨_,rfl,?_⟩;refine zb (zQ (ii r) (yaa (zs (zM (ii r) (zq zN (yaa ?_))))));by_cases hp:r=0
  · replace h:=h.1 hp;refine ze hp (yag (zs (zq (yan rfl underlying24 rfl yaj) (zq (zl underlying3 (Row.cell (hS.bx 2 rfl) (i:=0) rfl)) (zq (yeZ (am0) (am1 rfl)) ?_)))));replace hS:=hS.frzb 3 rfl;refine zn (yam rfl (am2 rfl rfl) enter_56 ((yhW h (yaB _) (fun w' hk=>⟨57,#[(.pointer (some ⟨g4,0,none⟩))],rfl,enter_57,fun x Ax lx cx R hF hz0=>ya4 (by simp) (ygk hF (yaB _) hz0 (FP.sub _ (FP.keep _ (FP.sub _ (hS.ro 3 rfl) (fun _ _ h=>h.elim):FP.P _ no _) hk) fun _ _ h=>h.elim) (FP.sub _ (FP.keep _ (FP.sub _ (hS.ro 1 rfl) (fun _ _ h=>h.elim):FP.P _ no _) hk) fun _ _ h=>h.elim))⟩)).mono ?_));rintro _ w5 ⟨r2,r3,Ar,lr,cr,rfl,hC,h⟩;replace hS:=hS.call1 (hC.widen (yde (ya0 (fI .i64) _ _ _ _ _) ydA) hS.blt) 4 0 rfl;clear hC;refine ⟨_,rfl,?_⟩;exact zb (zM (.tuple #[(ii r2),(.slice Ar lr cr)]) (zq (zx (ii r2)) (zq (zx (.slice Ar lr cr)) (zQ (ii r2) (zQ (.slice Ar lr cr) (yaa (zs (zM (ii r2) (zM (.slice Ar lr cr) (zQ (ii r2) (zQ (.slice Ar lr cr) (zQ (ii 0) (yaa (ybR rfl rfl rfl rfl ⟨_,_,_,_,_,_,rfl,(hS.sel [4]),h⟩))))))))))))))
  · replace h:=h.2 hp;refine zf hp (zs (zM (ii r) (zQ (ii 0) (zQ (.slice none 0 0) (zQ (ii r) (yaa ?_))))));replace hS:=hS.nil 4 rfl cI 3;exact ybR rfl rfl rfl rfl ⟨_,_,_,_,_,_,rfl,(hS.sel [4]),h⟩
def ydg(v:Int)(cap:List Int)(R:Bool→Prop):Prop :=
yaR cap v (fun r =>
R (!(r)))
theorem ygH{O:Nat→Prop}{w:World}{v cap gc Aa Ab Ac}{R:Bool→Prop}(h:ydg v cap R)(hO:∀ k,O k→k<w.heap.size)(hA0:(FP.bx 29 gc [(Value.slice Aa Ab Ac)]).P O w)(hA1:(FP.sl cI Aa Ab Ac cap).P O w) :
    Calls Tryz.prog 110 #[(ii v),(.pointer (some ⟨gc,0,none⟩))] w fun e w'=>∃ r2,e = .returned (.bool (r2))∧Sep w no O w' (rl [])∧R r2:=by
  unfold ydg at h;have hS:Sep w no O w (rl [Res.ro (FP.bx 29 gc [(.slice Aa Ab Ac)]),Res.ro (FP.sl cI Aa Ab Ac cap)]):=Sep.startl hO [(FP.bx 29 gc [(.slice Aa Ab Ac)]),(FP.sl cI Aa Ab Ac cap)] ⟨hA0,hA1,trivial⟩;refine yap (l:=[(ii v),(.pointer (some ⟨gc,0,none⟩))]) func110 rfl ntmps110 zY (zs (zQ (.bool (false)) (yaa (zs (zq (zl underlying29 (Row.cell (hS.bxr 0 rfl) (i:=0) rfl)) (zM (ii v) (zn (yam rfl (am2 rfl rfl) yhS ((ybA h (yaB _) (hS.rdr 1 rfl)).mono ?_)))))))));rintro _ w2 ⟨r,rfl,hC,h⟩;replace hS:=hS.pur hC.pure;clear hC;refine ⟨_,rfl,?_⟩;exact zb (zq (ycX rfl) (zQ (.bool (!(r))) (yaa (yak rfl rfl ⟨_,rfl,(hS.sel []),h⟩))))
def ycM(set2:List Int)(egg:List Int)(R:Bool→Prop):Prop :=
yba egg (fun x R=>ydg x set2 R) (fun r =>
R (!(r)))
theorem yhv{O:Nat→Prop}{w:World}{set2 egg Ad Ae Af Aa Ab Ac}{R:Bool→Prop}(h:ycM set2 egg R)(hO:∀ k,O k→k<w.heap.size)(hA0:(FP.sl cI Ad Ae Af set2).P O w)(hA1:(FP.sl cI Aa Ab Ac egg).P O w) :
    Calls Tryz.prog 64 #[(.slice Ad Ae Af),(.slice Aa Ab Ac)] w fun e w'=>∃ r2,e = .returned (.bool (r2))∧Sep w no O w' (rl [])∧R r2:=by
  unfold ycM at h;have hS:Sep w no O w (rl [Res.ro (FP.sl cI Ad Ae Af set2),Res.ro (FP.sl cI Aa Ab Ac egg)]):=Sep.startl hO [(FP.sl cI Ad Ae Af set2),(FP.sl cI Aa Ab Ac egg)] ⟨hA0,hA1,trivial⟩;refine yap (l:=[(.slice Ad Ae Af),(.slice Aa Ab Ac)]) func64 rfl ntmps64 zY (zs (zn (ya8 (v:=(.slice Ad Ae Af)) rfl ?_)));intro g w2 hN;replace hS:Sep w no O w2 (stl _ 2 (Res.box 29 g [(.slice Ad Ae Af)])):=hS.new 2 rfl hN;clear hN;refine zb (zQ (.bool (false)) (yaa (zs (zM (.slice Aa Ab Ac) (zq (yeZ (am0) (am1 rfl)) ?_)))));replace hS:=hS.frzb 2 rfl;refine zn (yam rfl (am2 rfl rfl) enter_105 ((ycN h (yaB _) (hS.rdr 1 rfl) (fun w' hk=>⟨110,#[(.pointer (some ⟨g,0,none⟩))],rfl,enter_110,fun x R hF=>ya4 (by simp) (ygH hF (yaB _) (FP.sub _ (FP.keep _ (FP.sub _ (hS.ro 2 rfl) (fun _ _ h=>h.elim):FP.P _ no _) hk) fun _ _ h=>h.elim) (FP.sub _ (FP.keep _ (FP.sub _ (hS.ro 0 rfl) (fun _ _ h=>h.elim):FP.P _ no _) hk) fun _ _ h=>h.elim))⟩)).mono ?_));rintro _ w3 ⟨r,rfl,hC,h⟩;replace hS:=hS.pur hC.pure;clear hC;refine ⟨_,rfl,?_⟩;exact zb (zq (ycX rfl) (zQ (.bool (!(r))) (yaa (yak rfl rfl ⟨_,rfl,(hS.sel []),h⟩))))
def yfi(g:Int)(g2:List E3)(set2:List Int)(R:(List Int)→Int→Prop):Prop :=
ybz g g2 set2 (fun r =>
((r=0 →
ycA g g2 ((∃ Pr Rr:List E3→Prop,ybk g g2 Pr Rr ∧
(∃ I2:List E3→(List Int)→Prop,I2 [] ([]) ∧
(∀ pre y y2 y3 out,I2 pre out→Pr (pre++[(y,y2,y3)]) →
yaR set2 y2 (fun r2 =>
yaR set2 y3 (fun r3 =>
(((r2==r3)=true →
I2 (pre++[(y,y2,y3)]) out) ∧
(¬((r2==r3)=true) →
(out.length+1≤1000000000 ∧
I2 (pre++[(y,y2,y3)]) (out++[y]))))))) ∧
(∀ ys out,I2 ys out→Rr ys →
R out 0))))) ∧
(¬(r=0) →
R ([]) r)))
theorem pok_graph_Cut{O:Nat→Prop}{w:World}{g g2 set2 Ag lg cg Ad Ae Af}{R:(List Int)→Int→Prop}(h:yfi g g2 set2 R)(hO:∀ k,O k→k<w.heap.size)(hA0:(FP.sl c3 Ag lg cg g2).P O w)(hA1:(FP.sl cI Ad Ae Af set2).P O w) :
    Calls Tryz.prog 66 #[(.agg #[(ii g),(.slice Ag lg cg)]),(.slice Ad Ae Af)] w fun e w'=>∃ r4 r5 Ar lr cr,e = .returned (.tuple #[(.slice Ar lr cr),(ii r5)])∧Sep w no O w' (rl [Res.own cI 3 Ar lr cr r4])∧R r4 r5:=by
  unfold yfi at h;have hS:Sep w no O w (rl [Res.ro (FP.sl c3 Ag lg cg g2),Res.ro (FP.sl cI Ad Ae Af set2)]):=Sep.startl hO [(FP.sl c3 Ag lg cg g2),(FP.sl cI Ad Ae Af set2)] ⟨hA0,hA1,trivial⟩;refine yei (l:=[(.agg #[(ii g),(.slice Ag lg cg)]),(.slice Ad Ae Af)]) func66 rfl ntmps66 zY (zs (zn (ya8 (v:=(.agg #[(ii g),(.slice Ag lg cg)])) rfl ?_)));intro g3 w2 hN;replace hS:Sep w no O w2 (stl _ 2 (Res.box 24 g3 [(ii g),(.slice Ag lg cg)])):=hS.new 2 rfl hN;clear hN;refine zb (zn (ya8 (v:=(.slice Ad Ae Af)) rfl ?_));intro g4 w3 hN;replace hS:Sep w no O w3 (stl _ 3 (Res.box 29 g4 [(.slice Ad Ae Af)])):=hS.new 3 rfl hN;clear hN;refine zb (zQ (.slice none 0 0) (zQ (ii 0) (yaa (yaf (zs (zq (yaq (vs:=[(ii g),(.slice Ag lg cg)]) rfl underlying24 rfl yao ⟨Row.cell (hS.bx 2 rfl) (i:=0) rfl,Row.cell (hS.bx 2 rfl) (i:=1) rfl,trivial⟩) (zq (zl underlying29 (Row.cell (hS.bx 3 rfl) (i:=0) rfl)) (zn (yam rfl (am2 rfl rfl) enter_70 ((yes h (yaB _) (hS.rdr 0 rfl) (hS.rdr 1 rfl)).mono ?_))))))))));rintro _ w4 ⟨r,rfl,hC,h⟩;replace hS:=hS.pur hC.pure;clear hC;refine ⟨_,rfl,?_⟩;refine zb (zQ (ii r) (yaa (zs (zM (ii r) (zq zN (yaa ?_))))));by_cases hp:r=0
  · replace h:=h.1 hp;refine ze hp (yag (zs (zn (yaO yaL ?_))));intro g5 w5 hN;replace hS:Sep w no O w5 (stl _ 4 (Res.box 29 g5 [(.slice none 0 0)])):=hS.new 4 rfl hN;clear hN;refine zb (yaa (yaf (zs (zq (yaq (vs:=[(ii g),(.slice Ag lg cg)]) rfl underlying24 rfl yao ⟨Row.cell (hS.bx 2 rfl) (i:=0) rfl,Row.cell (hS.bx 2 rfl) (i:=1) rfl,trivial⟩) (zn (yam rfl (am1 rfl) yjH ((yd1 h hS.blt (hS.ro 0 rfl)).mono ?_)))))));rintro _ w6 ⟨gc,rfl,hC,h⟩;replace hS:=hS.call1 hC 5 0 rfl;clear hC;refine ⟨_,rfl,?_⟩;refine zb (yaa (yai ?_));replace hS:=hS.nil 6 rfl cI 3;obtain ⟨Pr,Rr,hgp,I2,h0,hb,h⟩:=h;refine yiN hS [3,1,4,6] [5,0] (by decide) (by decide) ⟨.inl (by decide), .inr rfl,trivial⟩ rfl yjf (val:=(fun (x:E3)=>#[(ii x.1),(.agg #[(ii x.2.1),(ii x.2.2)])])) (pass:=(fun _=>FP.tt)) (Pr:=Pr) (R:=Rr) (fun _=>rfl) rfl (fun pr LL=>∃ out Aa Ab Ac,I2 pr out∧LL=[Res.box 29 g4 [(.slice Ad Ae Af)],Res.ro (FP.sl cI Ad Ae Af set2),Res.box 29 g5 [(.slice Aa Ab Ac)],Res.own cI 3 Aa Ab Ac out]) (fun _ _ _=>False) ⟨_,_,_,_,h0,rfl⟩ (fun T G hG=>ydt hgp hG) ?_ ?_ (fun _ _ _ _ _ hx=>hx.elim)
    · clear h h0 hS hgp;rintro ll rdy busy S O2 pre ⟨y,y2,y3⟩ w7 _ ⟨out,Aa,Ab,Ac,hI,rfl⟩ hPr hpass hS;have h:=hb pre y y2 y3 out hI hPr;clear hb hI hPr;clear hpass;refine yaf (yay (ya7 ll) (zQ (ii y) (yaa (yay (ya7 ll) (zn (yaO ybl ?_))))));intro g6 w9 hN;replace hS:Sep w7 S O2 w9 (stl _ 5 (Res.box 133 g6 [(ii 0),(ii 0)])):=hS.new 5 rfl hN;clear hN;refine zb (zo (yaV (b:=g6) (o:=0) (cells:=#[(ii y2),(ii y3)]) rfl rfl ybl rfl rfl (yaI (hS.bx 5 rfl) zY) ?_));intro w10 e1;replace hS:=hS.bstn 5 rfl 0 [(ii y2),(ii y3)] e1;clear e1;refine zb (yaa (ycO fun a ra=>⟨rfl,_,_,ra,hS,⟨4,rfl⟩,?_⟩));intro w11 hw;replace hS:=hS.flip 4 rfl busy hw;clear hw ra a;refine yai (yaf (yaT [0,1,2,4,5,6,3,7,8] (fun i=>match i with | 3=>[4,5,6] | _=>[]) (ya7 ll) (by kernel_rfl) (by kernel_rfl) ?_));replace hS:=hS.drew;refine zp (zl underlying29 (Row.cell (hS.bx 0 rfl) (i:=0) rfl)) (zp (yan rfl underlying133 rfl yaj) (zp (zl underlying3 (Row.cell (hS.bx 5 rfl) (i:=0) rfl)) (zp (zl underlying29 (Row.cell (hS.bx 0 rfl) (i:=0) rfl)) (zp (yan rfl underlying133 rfl yaj) (zp (zl underlying3 (Row.cell (hS.bx 5 rfl) (i:=1) rfl)) (rp_n rfl rfl rfl rfl (yam rfl (am2 rfl rfl) yhS ((ybA h (yaB _) (hS.rdr 1 rfl)).mono ?_))))))));rintro _ w12 ⟨r2,rfl,hC,h⟩;replace hS:=hS.pur hC.pure;clear hC;refine ⟨_,rfl,?_⟩;refine ⟨⟨fun _=>(zl underlying3 (Row.cell (hS.bx 5 rfl) (i:=1) rfl)),⟨fun _=>(yan rfl underlying133 rfl yaj),⟨fun _=>(zl underlying29 (Row.cell (hS.bx 0 rfl) (i:=0) rfl)),⟨fun hh=>zZ hh,⟨fun hh=>zZ hh,⟨fun hh=>zZ hh,trivial⟩⟩⟩⟩⟩⟩,?_⟩;refine rp_n rfl rfl rfl rfl (yam rfl (am2 rfl rfl) yhS ((ybA h (yaB _) (hS.rdr 1 rfl)).mono ?_));rintro _ w13 ⟨r3,rfl,hC,h⟩;replace hS:=hS.pur hC.pure;clear hC;refine ⟨_,rfl,?_⟩;refine zb (zp (v_bneq rfl rfl underlying4) (yaZ ?_));by_cases hp2:(r2==r3)=true
      · replace h:=h.1 hp2;exact yat (zC (zB hp2)) (yag (yah (ycO fun a r=>⟨_,⟨_,_,_,_,h,rfl⟩,(hS.sel [0,1,2,3,4])⟩)))
      · replace h:=h.2 hp2;refine yar (zC (zB (zI hp2))) (yay (ya7 ll) (zq (zl underlying29 (Row.cell (hS.bx 2 rfl) (i:=0) rfl)) (zM (ii y) (zn (yaX (l:=[(0,(ii y))]) (cells:=[(ii y)]) (bp1 rfl) underlying29 yaj rfl rfl ?_)))));intro g7 w14 hN;replace hS:=hS.litf (n:=1) 6 rfl (fI .i64) hN ([y]:List Int) rfl (by decide) rfl;clear hN;refine zb ?_;obtain ⟨hx,h⟩:=h;refine zn (ygp (c:=cI) rfl rfl underlying29 underlying29 yaj rfl rfl (by decide) hS 3 rfl (hS.yo 6 rfl) hx ?_);clear hS;intro A c w15 hS;refine zb (zo (zt (.slice A (Ab+1) c) yaL (hS.bwr 2 rfl (j:=0) rfl) ?_));intro w16 e1;replace hS:=hS.bst 2 rfl 0 (.slice A (Ab+1) c) e1;clear e1;exact zb (yaa (yah (ycO fun a r=>⟨_,⟨_,_,_,_,h,rfl⟩,(hS.sel [0,1,2,3,4])⟩)))
    · clear hb h0 hS hgp;rintro D ys w8 _ hRr ⟨out,Aa,Ab,Ac,hI,rfl⟩ hS;replace h:=h ys out hI hRr;clear hI hRr;exact yah (zs (zq (zl underlying29 (Row.cell (hS.bx 2 rfl) (i:=0) rfl)) (zQ (.slice Aa Ab Ac) (zQ (ii 0) (yaa (yfd (rs:=[D]) (by simp) (hS.marked 4 rfl) rfl rfl rfl (fun w9 hk=>⟨_,_,_,_,_,rfl,(hS.unmark [4] [3] (by decide) (by decide) (yh8 4 rfl) hk),h⟩)))))))
  · replace h:=h.2 hp;refine zf hp (zs (zM (ii r) (zQ (.slice none 0 0) (zQ (ii r) (yaa ?_)))));replace hS:=hS.nil 4 rfl cI 3;exact yfd (rs:=[]) (by simp) (by simp) rfl rfl rfl (fun w9 hk=>⟨_,_,_,_,_,rfl,(hS.unmark [] [4] (by decide) (by decide) (by simp) hk),h⟩)
def yds(egg:List Int)(cap:List Int)(R:Bool→Prop):Prop :=
ycM cap egg (fun r =>
R r)
theorem yhb{O:Nat→Prop}{w:World}{egg cap Ad Ae Af gc Aa Ab Ac}{R:Bool→Prop}(h:yds egg cap R)(hO:∀ k,O k→k<w.heap.size)(hA0:(FP.sl cI Ad Ae Af egg).P O w)(hA1:(FP.bx 29 gc [(Value.slice Aa Ab Ac)]).P O w)(hA2:(FP.sl cI Aa Ab Ac cap).P O w) :
    Calls Tryz.prog 63 #[(.slice Ad Ae Af),(.pointer (some ⟨gc,0,none⟩))] w fun e w'=>∃ r2,e = .returned (.bool (r2))∧Sep w no O w' (rl [])∧R r2:=by
  unfold yds at h;have hS:Sep w no O w (rl [Res.ro (FP.sl cI Ad Ae Af egg),Res.ro (FP.bx 29 gc [(.slice Aa Ab Ac)]),Res.ro (FP.sl cI Aa Ab Ac cap)]):=Sep.startl hO [(FP.sl cI Ad Ae Af egg),(FP.bx 29 gc [(.slice Aa Ab Ac)]),(FP.sl cI Aa Ab Ac cap)] ⟨hA0,hA1,hA2,trivial⟩;refine yap (l:=[(.slice Ad Ae Af),(.pointer (some ⟨gc,0,none⟩))]) func63 rfl ntmps63 zY (zs (zQ (.bool (false)) (yaa (zs (zq (zl underlying29 (Row.cell (hS.bxr 1 rfl) (i:=0) rfl)) (zM (.slice Ad Ae Af) (zn (yam rfl (am2 rfl rfl) enter_64 ((yhv h (yaB _) (hS.rdr 2 rfl) (hS.rdr 0 rfl)).mono ?_)))))))));rintro _ w2 ⟨r,rfl,hC,h⟩;replace hS:=hS.pur hC.pure;clear hC;refine ⟨_,rfl,?_⟩;exact zb (zQ (.bool (r)) (yaa (yak rfl rfl ⟨_,rfl,(hS.sel []),h⟩)))
def ydr(egg:List Int)(cap:List Int)(R:Bool→Prop):Prop :=
ycf cap egg (fun r =>
R (!(r)))
theorem yg9{O:Nat→Prop}{w:World}{egg cap Ad Ae Af gc Aa Ab Ac}{R:Bool→Prop}(h:ydr egg cap R)(hO:∀ k,O k→k<w.heap.size)(hA0:(FP.sl cI Ad Ae Af egg).P O w)(hA1:(FP.bx 29 gc [(Value.slice Aa Ab Ac)]).P O w)(hA2:(FP.sl cI Aa Ab Ac cap).P O w) :
    Calls Tryz.prog 65 #[(.slice Ad Ae Af),(.pointer (some ⟨gc,0,none⟩))] w fun e w'=>∃ r2,e = .returned (.bool (r2))∧Sep w no O w' (rl [])∧R r2:=by
  unfold ydr at h;have hS:Sep w no O w (rl [Res.ro (FP.sl cI Ad Ae Af egg),Res.ro (FP.bx 29 gc [(.slice Aa Ab Ac)]),Res.ro (FP.sl cI Aa Ab Ac cap)]):=Sep.startl hO [(FP.sl cI Ad Ae Af egg),(FP.bx 29 gc [(.slice Aa Ab Ac)]),(FP.sl cI Aa Ab Ac cap)] ⟨hA0,hA1,hA2,trivial⟩;refine yap (l:=[(.slice Ad Ae Af),(.pointer (some ⟨gc,0,none⟩))]) func65 rfl ntmps65 zY (zs (zQ (.bool (false)) (yaa (zs (zq (zl underlying29 (Row.cell (hS.bxr 1 rfl) (i:=0) rfl)) (zM (.slice Ad Ae Af) (zn (yam rfl (am2 rfl rfl) enter_60 ((yfg h (yaB _) (hS.rdr 2 rfl) (hS.rdr 0 rfl)).mono ?_)))))))));rintro _ w2 ⟨r,rfl,hC,h⟩;replace hS:=hS.pur hC.pure;clear hC;refine ⟨_,rfl,?_⟩;exact zb (zq (ycX rfl) (zQ (.bool (!(r))) (yaa (yak rfl rfl ⟨_,rfl,(hS.sel []),h⟩))))
def yce(set2:List Int)(cap:List (List Int))(cap2:Int)(cap3:List E3)(cap4:Int)(R:Int→Bool→Int→Prop):Prop :=
yaU cap (fun x R=>yds x set2 R) (fun r =>
yaU cap (fun x2 R=>ydr x2 set2 R) (fun r2 =>
(∃ J2:Prop,(J2→yfi cap2 cap3 set2 (fun r3 r4 =>
((r4=0 →
R (r3.length:Int) true cap4) ∧
(¬(r4=0) →
R (r3.length:Int) true r4)))) ∧
((r=true →
((r2=true →
J2) ∧
(¬(r2=true) →
R 0 false cap4))) ∧
(¬(r=true) →
R 0 false cap4)))))
theorem ygr{S O:Nat→Prop}{w:World}{set2 cap cap2 cap3 cap4 Ag Ah Ai}{hd:Hd}{gc Aa Ab Ac gc2 Ad Ae Af gc3}{R:Int→Bool→Int→Prop}(h:yce set2 cap cap2 cap3 cap4 R)(hS:Sep w S O w (rl [hdR hd,Res.box 25 gc [(Value.slice Aa Ab Ac)],Res.ro (FP.sl (cL cI) Aa Ab Ac cap),Res.box 24 gc2 [(Value.int .i64 cap2),(Value.slice Ad Ae Af)],Res.ro (FP.sl c3 Ad Ae Af cap3),Res.box 30 gc3 [(Value.int .i64 cap4)]]))(hrd:hd.rd (FP.sl cI Ag Ah Ai set2)) :
    Calls Tryz.prog 62 #[(.slice Ag Ah Ai),(.pointer (some ⟨gc,0,none⟩)),(.pointer (some ⟨gc2,0,none⟩)),(.pointer (some ⟨gc3,0,none⟩))] w fun e w'=>∃ r5 r6 z,e = .returned (.tuple #[(ii r5),(.bool (r6))])∧Sep w S O w' (rl [hdR hd,Res.box 25 gc [(.slice Aa Ab Ac)],Res.box 24 gc2 [(ii cap2),(.slice Ad Ae Af)],Res.box 30 gc3 [(ii z)]])∧R r5 r6 z:=by
  unfold yce at h;refine yap (l:=[(.slice Ag Ah Ai),(.pointer (some ⟨gc,0,none⟩)),(.pointer (some ⟨gc2,0,none⟩)),(.pointer (some ⟨gc3,0,none⟩))]) func62 rfl ntmps62 zY (zs (zn (ya8 (v:=(.slice Ag Ah Ai)) rfl ?_)));intro g w2 hN;replace hS:Sep w S O w2 (stl _ 6 (Res.box 29 g [(.slice Ag Ah Ai)])):=hS.new 6 rfl hN;clear hN;refine zb (zQ (ii 0) (zQ (.bool (false)) (yaa (zs (zq (zl underlying25 (Row.cell (hS.bx 1 rfl) (i:=0) rfl)) (zq (yeZ (am0) (am1 rfl)) ?_))))));replace hS:=hS.frzb 6 rfl;refine zn (yam rfl (am2 rfl rfl) enter_58 ((ybD h (yaB _) (hS.rdr 2 rfl) (fun w' hk=>⟨63,#[(.pointer (some ⟨g,0,none⟩))],rfl,enter_63,fun x Ax lx cx R hF hz0=>ya4 (by simp) (yhb hF (yaB _) hz0 (FP.sub _ (FP.keep _ (FP.sub _ (hS.ro 6 rfl) (fun _ _ h=>h.elim):FP.P _ no _) hk) fun _ _ h=>h.elim) (FP.sub _ (FP.keep _ (hS.rdh 0 rfl hrd) hk) fun _ _ h=>h.elim))⟩)).mono ?_));rintro _ w3 ⟨r,rfl,hC,h⟩;replace hS:=hS.pur hC.pure;clear hC;refine ⟨_,rfl,?_⟩;refine zb (zQ (.bool (r)) (yaa (zs (zq (zl underlying25 (Row.cell (hS.bx 1 rfl) (i:=0) rfl)) (zq (yeZ (am0) (am1 rfl)) (zn (yam rfl (am2 rfl rfl) enter_58 ((ybD h (yaB _) (hS.rdr 2 rfl) (fun w' hk=>⟨65,#[(.pointer (some ⟨g,0,none⟩))],rfl,enter_65,fun x2 Ax2 lx2 cx2 R hF hz0=>ya4 (by simp) (yg9 hF (yaB _) hz0 (FP.sub _ (FP.keep _ (FP.sub _ (hS.ro 6 rfl) (fun _ _ h=>h.elim):FP.P _ no _) hk) fun _ _ h=>h.elim) (FP.sub _ (FP.keep _ (hS.rdh 0 rfl hrd) hk) fun _ _ h=>h.elim))⟩)).mono ?_))))))));rintro _ w4 ⟨r2,rfl,hC,h⟩;replace hS:=hS.pur hC.pure;clear hC;refine ⟨_,rfl,?_⟩;refine zb (zQ (.bool (r2)) (yaa (yaf (yaf ?_))));obtain ⟨J2,hJ,h⟩:=h;refine yc1 (fun E ds w'=>J2∧ds=[]∧E 0=(Value.slice Ag Ah Ai)∧E 1=(Value.pointer (some ⟨gc,0,none⟩))∧E 2=(Value.pointer (some ⟨gc2,0,none⟩))∧E 3=(Value.pointer (some ⟨gc3,0,none⟩))∧E 4=(Value.pointer (some ⟨g,0,none⟩))∧Sep w S O w' (rl [hdR hd,Res.box 25 gc [(.slice Aa Ab Ac)],Res.ro (FP.sl (cL cI) Aa Ab Ac cap),Res.box 24 gc2 [(ii cap2),(.slice Ad Ae Af)],Res.ro (FP.sl c3 Ad Ae Af cap3),Res.box 30 gc3 [(ii cap4)],Res.ro (FP.bx 29 g [(.slice Ag Ah Ai)])])) ?_ ?_
  · clear h hS;rintro E ds w5 ⟨h,rfl,H0,H1,H2,H3,H4,hS⟩;replace h:=hJ h;refine zs (zq (yaq (vs:=[(ii cap2),(.slice Ad Ae Af)]) H2 underlying24 rfl yao ⟨Row.cell (hS.bx 3 rfl) (i:=0) rfl,Row.cell (hS.bx 3 rfl) (i:=1) rfl,trivial⟩) (zq (yau H4 underlying29 rfl (Row.cell (hS.bxr 6 rfl) (i:=0) rfl)) (zn (yam rfl (am2 rfl rfl) enter_66 ((pok_graph_Cut h (yaB _) (hS.rdr 4 rfl) (hS.rdh 0 rfl hrd)).mono ?_)))));rintro _ w6 ⟨r3,r4,Ar,lr,cr,rfl,hC,h⟩;replace hS:=hS.call1 (hC.widen (yde (ya0 (fI .i64) _ _ _ _ _) ydA) hS.blt) 7 0 rfl;clear hC;refine ⟨_,rfl,?_⟩;refine zb (zM (.tuple #[(.slice Ar lr cr),(ii r4)]) (zq (zx (.slice Ar lr cr)) (zq (zx (ii r4)) (zQ (.slice Ar lr cr) (zQ (ii r4) (yaa (yaf (zs (zM (ii r4) (zq zN (yaa ?_)))))))))));by_cases hp:r4=0
    · replace h:=h.1 hp;exact ze hp (yag (zs (zM (.slice Ar lr cr) (zq (yaF (n:=r3.length) rfl underlying29 (yaE (hS.rdo 7 rfl))) (zQ (ii (r3.length:Int)) (zQ (.bool (true)) (yaa (yaG rfl rfl rfl ⟨_,_,_,rfl,(hS.sel [0,1,3,5]),h⟩))))))))
    · replace h:=h.2 hp;refine zf hp (zr (zM (ii r4) (zo (yhn (v:=(ii r4)) H3 rfl rfl yfv (hS.bwr 5 rfl (j:=0) rfl) ?_))));intro w7 e1;replace hS:=hS.bst 5 rfl 0 (ii r4) e1;clear e1;exact zb (yaa (zs (zM (.slice Ar lr cr) (zq (yaF (n:=r3.length) rfl underlying29 (yaE (hS.rdo 7 rfl))) (zQ (ii (r3.length:Int)) (zQ (.bool (true)) (yaa (yaG rfl rfl rfl ⟨_,_,_,rfl,(hS.sel [0,1,3,5]),h⟩))))))))
  clear hJ;intro j;refine zr (zM (.bool (r)) (zq (ycX rfl) (zM (.bool (!(r))) ?_)));by_cases hp2:r=true
  · replace h:=h.1 hp2;refine zW rfl rfl (zC (zB hp2)) (zm (.bool (r2))) (zW rfl rfl (zC (zB hp2)) (ycX rfl) (zq (yal (v:=(.bool (!(r2)))) (zC (zB hp2)) rfl) (yaa ?_)));by_cases hp3:r2=true
    · replace h:=h.1 hp3;exact yat (zC (zB hp3)) (yag (j _ _ _ ⟨h,rfl,rfl,rfl,rfl,rfl,rfl,(hS.sel [0,1,2,3,4,5,6])⟩))
    · replace h:=h.2 hp3;exact yar (zC (zB (zI hp3))) (zs (zQ (ii 0) (zQ (.bool (false)) (yaa (yaG rfl rfl rfl ⟨_,_,_,rfl,(hS.sel [0,1,3,5]),h⟩)))))
  · replace h:=h.2 hp2;exact zV rfl rfl (zC (zB (zI hp2))) (zV rfl rfl (zC (zB (zI hp2))) (zq (yas (v:=(.bool (true))) (zC (zB (zI hp2))) rfl) (yaa (yar rfl (zs (zQ (ii 0) (zQ (.bool (false)) (yaa (yaG rfl rfl rfl ⟨_,_,_,rfl,(hS.sel [0,1,3,5]),h⟩)))))))))
def ycd(n:Int)(value:List (List Int))(value2:Int)(value3:List E3)(value4:Int)(R:Int→(List Int)→Int→Prop):Prop :=
ydo n ((∃ Pr Rr:List (List Int)→Prop,yb0 n Pr Rr ∧
(∃ I2:List (List Int)→Int→Int→(List Int)→Prop,I2 [] value4 (-1) ([]) ∧
(∀ pre y value5 best first,I2 pre value5 best first→Pr (pre++[y]) →
yce y value value2 value3 value5 (fun r r2 y2 =>
((r2=true →
((best<0 →
ybc y (fun r3 =>
I2 (pre++[y]) y2 r r3)) ∧
(¬(best<0) →
((r<best →
ybc y (fun r4 =>
I2 (pre++[y]) y2 r r4)) ∧
(¬(r<best) →
I2 (pre++[y]) y2 best first))))) ∧
(¬(r2=true) →
I2 (pre++[y]) y2 best first)))) ∧
(∀ ys value5 best first,I2 ys value5 best first→Rr ys →
R best first value5))))
theorem ygI{S O:Nat→Prop}{w:World}{n value value2 value3 value4 gc Ad Ae Af gc2 Ag Ah Ai gc3}{R:Int→(List Int)→Int→Prop}(h:ycd n value value2 value3 value4 R)(hS:Sep w S O w (rl [Res.box 25 gc [(Value.slice Ad Ae Af)],Res.ro (FP.sl (cL cI) Ad Ae Af value),Res.box 24 gc2 [(Value.int .i64 value2),(Value.slice Ag Ah Ai)],Res.ro (FP.sl c3 Ag Ah Ai value3),Res.box 30 gc3 [(Value.int .i64 value4)]])) :
    Calls Tryz.prog 56 #[(ii n),(.func (Fn.func 62) #[] #[(.pointer (some ⟨gc,0,none⟩)),(.pointer (some ⟨gc2,0,none⟩)),(.pointer (some ⟨gc3,0,none⟩))])] w fun e w'=>∃ r5 r6 z Ar3 lr3 cr3,e = .returned (.tuple #[(ii r5),(.slice Ar3 lr3 cr3)])∧Sep w S O w' (rl [Res.box 25 gc [(.slice Ad Ae Af)],Res.box 24 gc2 [(ii value2),(.slice Ag Ah Ai)],Res.box 30 gc3 [(ii z)],Res.own cI 3 Ar3 lr3 cr3 r6])∧R r5 r6 z:=by
  unfold ycd at h;refine yei (l:=[(ii n),(.func (Fn.func 62) #[] #[(.pointer (some ⟨gc,0,none⟩)),(.pointer (some ⟨gc2,0,none⟩)),(.pointer (some ⟨gc3,0,none⟩))])]) func56 rfl ntmps56 zY (zs (zn (ya8 (v:=(Value.func (Fn.func 62) #[] #[(.pointer (some ⟨gc,0,none⟩)),(.pointer (some ⟨gc2,0,none⟩)),(.pointer (some ⟨gc3,0,none⟩))])) rfl ?_)));intro g w2 hN;replace hS:Sep w S O w2 (stl _ 5 (Res.box 84 g [(.func (Fn.func 62) #[] #[(.pointer (some ⟨gc,0,none⟩)),(.pointer (some ⟨gc2,0,none⟩)),(.pointer (some ⟨gc3,0,none⟩))])])):=hS.new 5 rfl hN;clear hN;refine zb (zQ (ii 0) (zQ (.slice none 0 0) (yaa (zs (zn (yaO yaj ?_))))));intro g2 w3 hN;replace hS:Sep w S O w3 (stl _ 6 (Res.box 3 g2 [(ii 0)])):=hS.new 6 rfl hN;clear hN;refine zb (zo (zt (ii (-1)) yaj (hS.bwr 6 rfl (j:=0) rfl) ?_));intro w4 e1;replace hS:=hS.bst 6 rfl 0 (ii (-1)) e1;clear e1;refine zb (yaa (zs (zn (yaO yaL ?_))));intro g3 w5 hN;replace hS:Sep w S O w5 (stl _ 7 (Res.box 29 g3 [(.slice none 0 0)])):=hS.new 7 rfl hN;clear hN;refine zb (yaa (yaf (zs (zM (ii n) (zn (yam rfl (am1 rfl) enter_102 ((yfJ h hS.blt).mono ?_)))))));rintro _ w6 ⟨gc4,rfl,hC,h⟩;replace hS:=hS.call1 hC 8 0 rfl;clear hC;refine ⟨_,rfl,?_⟩;refine zb (yaa (yai ?_));replace hS:=hS.nil 9 rfl cI 3;obtain ⟨Pr,Rr,hgp,I2,h0,hb,h⟩:=h;refine wt_iterSHP hS [5,0,1,2,3,4,6,7,9] [8] (by decide) (by decide) ⟨.inl (by decide),trivial⟩ rfl enter_135 (val:=(fun (x:List Int) (b:(Option Addr×Nat×Nat×Hd))=>#[(.slice b.1 b.2.1 b.2.2.1)])) (hd:=fun x b=>b.2.2.2) (rd:=fun x b=>FP.sl cI b.1 b.2.1 b.2.2.1 x) (Pr:=Pr) (R:=Rr) (fun _ _=>rfl) rfl (fun pr LL=>∃ value5 best first Aa Ab Ac,I2 pr value5 best first∧LL=[Res.box 84 g [(.func (Fn.func 62) #[] #[(.pointer (some ⟨gc,0,none⟩)),(.pointer (some ⟨gc2,0,none⟩)),(.pointer (some ⟨gc3,0,none⟩))])],Res.box 25 gc [(.slice Ad Ae Af)],Res.ro (FP.sl (cL cI) Ad Ae Af value),Res.box 24 gc2 [(ii value2),(.slice Ag Ah Ai)],Res.ro (FP.sl c3 Ag Ah Ai value3),Res.box 30 gc3 [(ii value5)],Res.box 3 g2 [(ii best)],Res.box 29 g3 [(.slice Aa Ab Ac)],Res.own cI 3 Aa Ab Ac first]) (fun _ _ _=>False) ⟨_,_,_,_,_,_,h0,rfl⟩ (fun T G hG=>yeX hgp hG) ?_ ?_ (fun _ _ _ _ _ hx=>hx.elim)
  · clear h h0 hS hgp;rintro ll rdy busy S O2 pre y ⟨A,l,c,hd⟩ w7 _ ⟨value5,best,first,Aa,Ab,Ac,hI,rfl⟩ hPr hrd_ hS;have h:=hb pre y value5 best first hI hPr;clear hb hI hPr;refine yay (ya7 ll) (zQ (.slice A l c) (yaa (ycO fun a ra=>⟨rfl,_,_,ra,hS,⟨9,rfl⟩,?_⟩)));intro w9 hw;replace hS:=hS.flip 9 rfl busy hw;clear hw ra a;refine yai (yaf (yay (ya7 ll) (zq (zl underlying84 (Row.cell (hS.bx 0 rfl) (i:=0) rfl)) (zM (.slice A l c) ?_))));have hB:=hS.lend (asc [(10,0),(1,1),(3,2),(5,3)]) [10,1,2,3,4,5] (by decide) ⟨.inl (ybE rfl), .inl (ybE rfl), .inr rfl, .inl (ybE rfl), .inr rfl, .inl (ybE rfl),trivial⟩;refine zn (ydx (vs:=#[(.slice A l c)]) (us:=#[(.pointer (some ⟨gc,0,none⟩)),(.pointer (some ⟨gc2,0,none⟩)),(.pointer (some ⟨gc3,0,none⟩))]) rfl (am1 rfl) enter_62 ((ya4 (by simp) (ygr h hB hrd_)).mono ?_));rintro _ w10 ⟨r,r2,y2,rfl,hC,h⟩;replace hS:=hS.back (asc [(10,0),(1,1),(3,2),(5,3)]) (yey (by decide)) hC;clear hC hB;refine ⟨_,rfl,?_⟩;refine zb (zM (.tuple #[(ii r),(.bool (r2))]) (zq (zx (ii r)) (zq (zx (.bool (r2))) (zQ (ii r) (zQ (.bool (r2)) (yaa (yaf (yay (ya7 ll) (zM (.bool (r2)) (zM (.bool (r2)) ?_))))))))));by_cases hp:r2=true
    · replace h:=h.1 hp;refine zW rfl rfl (zC hp) (zl underlying3 (Row.cell (hS.bx 6 rfl) (i:=0) rfl)) (zW rfl rfl (zC hp) zL (zW rfl rfl (zC hp) (zm (.bool (decide (best<0)))) ?_));by_cases hp2:best<0
      · replace h:=h.1 hp2;refine zV rfl rfl (zT hp2) (zV rfl rfl (zT hp2) (zV rfl rfl (zT hp2) (zW rfl rfl (zC hp) (yas (v:=(.bool (true))) (zT hp2) rfl) (zq (yas (v:=(.bool (true))) (zC hp) rfl) (yaa (yar rfl (yay (ya7 ll) (zM (ii r) (zM (.slice A l c) (zn (yam rfl (am1 rfl) yhQ ((yb6 h (yaB _) (hS.rdh 10 rfl hrd_)).mono ?_))))))))))));rintro _ w11 ⟨r3,Ar,lr,cr,rfl,hC,h⟩;replace hS:=hS.call1 (hC.widen (yde (ya0 (fI .i64) _ _ _ _ _) ydA) hS.blt) 11 0 rfl;clear hC;refine ⟨_,rfl,?_⟩;refine zb (zo (zt (ii r) yaj (hS.bwr 6 rfl (j:=0) rfl) ?_));intro w12 e1;replace hS:=hS.bst 6 rfl 0 (ii r) e1;clear e1;refine zb (zo (zt (.slice Ar lr cr) yaL (hS.bwr 7 rfl (j:=0) rfl) ?_));intro w13 e1;replace hS:=hS.bst 7 rfl 0 (.slice Ar lr cr) e1;clear e1;exact zb (yaa (yah (ycO fun a r=>⟨_,⟨_,_,_,_,_,_,h,rfl⟩,(hS.sel [0,1,2,3,4,5,6,7,11,9,10])⟩)))
      · replace h:=h.2 hp2;refine zW rfl rfl (zF hp2) (zm (ii r)) (zW rfl rfl (zF hp2) (zl underlying3 (Row.cell (hS.bx 6 rfl) (i:=0) rfl)) (zW rfl rfl (zF hp2) zL (zW rfl rfl (zC hp) (yal (v:=(.bool (decide (r<best)))) (zF hp2) rfl) (zq (yas (v:=(.bool (decide (r<best)))) (zC hp) rfl) (yaa ?_)))));by_cases hp3:r<best
        · replace h:=h.1 hp3;refine zc hp3 (yay (ya7 ll) (zM (ii r) (zM (.slice A l c) (zn (yam rfl (am1 rfl) yhQ ((yb6 h (yaB _) (hS.rdh 10 rfl hrd_)).mono ?_))))));rintro _ w14 ⟨r4,Ar2,lr2,cr2,rfl,hC,h⟩;replace hS:=hS.call1 (hC.widen (yde (ya0 (fI .i64) _ _ _ _ _) ydA) hS.blt) 11 0 rfl;clear hC;refine ⟨_,rfl,?_⟩;refine zb (zo (zt (ii r) yaj (hS.bwr 6 rfl (j:=0) rfl) ?_));intro w15 e1;replace hS:=hS.bst 6 rfl 0 (ii r) e1;clear e1;refine zb (zo (zt (.slice Ar2 lr2 cr2) yaL (hS.bwr 7 rfl (j:=0) rfl) ?_));intro w16 e1;replace hS:=hS.bst 7 rfl 0 (.slice Ar2 lr2 cr2) e1;clear e1;exact zb (yaa (yah (ycO fun a r=>⟨_,⟨_,_,_,_,_,_,h,rfl⟩,(hS.sel [0,1,2,3,4,5,6,7,11,9,10])⟩)))
        · replace h:=h.2 hp3;exact zd hp3 (yag (yah (ycO fun a r=>⟨_,⟨_,_,_,_,_,_,h,rfl⟩,(hS.sel [0,1,2,3,4,5,6,7,8,9,10])⟩)))
    · replace h:=h.2 hp;exact zV rfl rfl (zC (zI hp)) (zV rfl rfl (zC (zI hp)) (zV rfl rfl (zC (zI hp)) (zX (zX (zX (zV rfl rfl (zC (zI hp)) (zq (yal (v:=(.bool (false))) (zC (zI hp)) rfl) (yaa (yat rfl (yag (yah (ycO fun a r=>⟨_,⟨_,_,_,_,_,_,h,rfl⟩,(hS.sel [0,1,2,3,4,5,6,7,8,9,10])⟩))))))))))))
  · clear hb h0 hS hgp;rintro D ys w8 _ hRr ⟨value5,best,first,Aa,Ab,Ac,hI,rfl⟩ hS;replace h:=h ys value5 best first hI hRr;clear hI hRr;refine yah (yaf (yaT [0,1,2,3] st0 yaD (by kernel_rfl) (by kernel_rfl) ?_));replace hS:=hS.drew;exact zp (zl underlying3 (Row.cell (hS.bx 6 rfl) (i:=0) rfl)) (zp (zl underlying29 (Row.cell (hS.bx 7 rfl) (i:=0) rfl)) (zp (za (ii best)) (zp (za (.slice Aa Ab Ac)) (yaZ (yfd (rs:=[D]) (by simp) (hS.marked 9 rfl) rfl rfl rfl (fun w9 hk=>⟨_,_,_,_,_,_,rfl,(hS.unmark [9] [1,3,5,8] (by decide) (by decide) (yh8 9 rfl) hk),h⟩))))))
def ybO(g:Int)(g2:List E3)(s:List (List Int))(R:Int→(List Int)→Int→Prop):Prop :=
ybN g g2 s (fun r =>
((r=0 →
ycd g s g g2 0 (fun r2 r3 y =>
((y=0 →
R r2 r3 0) ∧
(¬(y=0) →
R 0 ([]) y)))) ∧
(¬(r=0) →
R 0 ([]) r)))
theorem yev{O:Nat→Prop}{w:World}{g g2 s Ag lg cg As ls cs}{R:Int→(List Int)→Int→Prop}(h:ybO g g2 s R)(hO:∀ k,O k→k<w.heap.size)(hA0:(FP.sl c3 Ag lg cg g2).P O w)(hA1:(FP.sl (cL cI) As ls cs s).P O w) :
    Calls Tryz.prog 16 #[(.agg #[(ii g),(.slice Ag lg cg)]),(.slice As ls cs)] w fun e w'=>∃ r4 r5 r6 Ar2 lr2 cr2,e = .returned (.tuple #[(ii r4),(.slice Ar2 lr2 cr2),(ii r6)])∧Sep w no O w' (rl [Res.own cI 3 Ar2 lr2 cr2 r5])∧R r4 r5 r6:=by
  unfold ybO at h;have hS:Sep w no O w (rl [Res.ro (FP.sl c3 Ag lg cg g2),Res.ro (FP.sl (cL cI) As ls cs s)]):=Sep.startl hO [(FP.sl c3 Ag lg cg g2),(FP.sl (cL cI) As ls cs s)] ⟨hA0,hA1,trivial⟩;refine yap (l:=[(.agg #[(ii g),(.slice Ag lg cg)]),(.slice As ls cs)]) func16 rfl ntmps16 zY (zs (zn (ya8 (v:=(.agg #[(ii g),(.slice Ag lg cg)])) rfl ?_)));intro g3 w2 hN;replace hS:Sep w no O w2 (stl _ 2 (Res.box 24 g3 [(ii g),(.slice Ag lg cg)])):=hS.new 2 rfl hN;clear hN;refine zb (zn (ya8 (v:=(.slice As ls cs)) rfl ?_));intro g4 w3 hN;replace hS:Sep w no O w3 (stl _ 3 (Res.box 25 g4 [(.slice As ls cs)])):=hS.new 3 rfl hN;clear hN;refine zb (zQ (ii 0) (zQ (.slice none 0 0) (zQ (ii 0) (yaa (yaf (zs (zq (yaq (vs:=[(ii g),(.slice Ag lg cg)]) rfl underlying24 rfl yao ⟨Row.cell (hS.bx 2 rfl) (i:=0) rfl,Row.cell (hS.bx 2 rfl) (i:=1) rfl,trivial⟩) (zq (zl underlying25 (Row.cell (hS.bx 3 rfl) (i:=0) rfl)) (zn (yam rfl (am2 rfl rfl) enter_20 ((ydL h (yaB _) (hS.rdr 0 rfl) (hS.rdr 1 rfl)).mono ?_)))))))))));rintro _ w4 ⟨r,rfl,hC,h⟩;replace hS:=hS.pur hC.pure;clear hC;refine ⟨_,rfl,?_⟩;refine zb (zQ (ii r) (yaa (zs (zM (ii r) (zq zN (yaa ?_))))));by_cases hp:r=0
  · replace h:=h.1 hp;refine ze hp (yag (zs (zn (yaO yfv ?_))));intro g5 w5 hN;replace hS:Sep w no O w5 (stl _ 4 (Res.box 30 g5 [(ii 0)])):=hS.new 4 rfl hN;clear hN;refine zb (zo (zt (ii 0) yfv (hS.bwr 4 rfl (j:=0) rfl) ?_));intro w6 e1;replace hS:=hS.bst 4 rfl 0 (ii 0) e1;clear e1;refine zb (yaa (zs (zq (yan rfl underlying24 rfl yaj) (zq (zl underlying3 (Row.cell (hS.bx 2 rfl) (i:=0) rfl)) (zq (yeZ (am0) (am3 rfl rfl rfl)) ?_)))));have hB:=hS.lend (asc [(3,0),(2,1),(4,2),(5,3)]) [3,1,2,0,4] (by decide) ⟨.inl (ybE rfl), .inr rfl, .inl (ybE rfl), .inr rfl, .inl (ybE rfl),trivial⟩;refine zn (ydx (vs:=#[(ii g),(.func (Fn.func 62) #[] #[(.pointer (some ⟨g4,0,none⟩)),(.pointer (some ⟨g3,0,none⟩)),(.pointer (some ⟨g5,0,none⟩))])]) (us:=#[]) rfl (am2 rfl rfl) enter_56 ((ya4 (by simp) (ygI h hB)).mono ?_));rintro _ w7 ⟨r2,r3,y,Ar,lr,cr,rfl,hC,h⟩;replace hS:=hS.back (asc [(3,0),(2,1),(4,2),(5,3)]) (yey (by decide)) hC;clear hC hB;refine ⟨_,rfl,?_⟩;refine zb (zM (.tuple #[(ii r2),(.slice Ar lr cr)]) (zq (zx (ii r2)) (zq (zx (.slice Ar lr cr)) (zQ (ii r2) (zQ (.slice Ar lr cr) (yaa (yaf (zs (zq (zl underlying30 (Row.cell (hS.bx 4 rfl) (i:=0) rfl)) (zq zN (yaa ?_)))))))))));by_cases hp2:y=0
    · replace h:=h.1 hp2;exact ze hp2 (yag (zs (zM (ii r2) (zM (.slice Ar lr cr) (zQ (ii r2) (zQ (.slice Ar lr cr) (zQ (ii 0) (yaa (ybR rfl rfl rfl rfl ⟨_,_,_,_,_,_,rfl,(hS.sel [5]),h⟩)))))))))
    · replace h:=h.2 hp2;refine zf hp2 (yaf (yaT [0,1,2,3] st0 yaD (by kernel_rfl) (by kernel_rfl) ?_));replace hS:=hS.drew;refine zp (zl underlying30 (Row.cell (hS.bx 4 rfl) (i:=0) rfl)) (zp (za (ii 0)) (zp (za (.slice none 0 0)) (zp (za (ii y)) (yaZ ?_))));replace hS:=hS.nil 6 rfl cI 3;exact ybR rfl rfl rfl rfl ⟨_,_,_,_,_,_,rfl,(hS.sel [6]),h⟩
  · replace h:=h.2 hp;refine zf hp (zs (zM (ii r) (zQ (ii 0) (zQ (.slice none 0 0) (zQ (ii r) (yaa ?_))))));replace hS:=hS.nil 4 rfl cI 3;exact ybR rfl rfl rfl rfl ⟨_,_,_,_,_,_,rfl,(hS.sel [4]),h⟩
def ybM(g:Int)(g2:List E3)(s:List (List Int))(R:Int→Int→Prop):Prop :=
ybh g g2 s (fun r r2 r3 =>
((r3=0 →
ybO g g2 s (fun r4 r5 r6 =>
((r6=0 →
((r4<0 →
R r 0) ∧
(¬(r4<0) →
R (mnF r r4) 0))) ∧
(¬(r6=0) →
R 0 r6)))) ∧
(¬(r3=0) →
R 0 r3)))
theorem yff{O:Nat→Prop}{w:World}{g g2 s Ag lg cg As ls cs}{R:Int→Int→Prop}(h:ybM g g2 s R)(hO:∀ k,O k→k<w.heap.size)(hA0:(FP.sl c3 Ag lg cg g2).P O w)(hA1:(FP.sl (cL cI) As ls cs s).P O w) :
    Calls Tryz.prog 18 #[(.agg #[(ii g),(.slice Ag lg cg)]),(.slice As ls cs)] w fun e w'=>∃ r7 r8,e = .returned (.tuple #[(ii r7),(ii r8)])∧Sep w no O w' (rl [])∧R r7 r8:=by
  unfold ybM at h;have hS:Sep w no O w (rl [Res.ro (FP.sl c3 Ag lg cg g2),Res.ro (FP.sl (cL cI) As ls cs s)]):=Sep.startl hO [(FP.sl c3 Ag lg cg g2),(FP.sl (cL cI) As ls cs s)] ⟨hA0,hA1,trivial⟩;refine yap (l:=[(.agg #[(ii g),(.slice Ag lg cg)]),(.slice As ls cs)]) func18 rfl ntmps18 zY (zs (zn (ya8 (v:=(.agg #[(ii g),(.slice Ag lg cg)])) rfl ?_)));intro g3 w2 hN;replace hS:Sep w no O w2 (stl _ 2 (Res.box 24 g3 [(ii g),(.slice Ag lg cg)])):=hS.new 2 rfl hN;clear hN;refine zb (zQ (ii 0) (zQ (ii 0) (yaa (zs (zq (yaq (vs:=[(ii g),(.slice Ag lg cg)]) rfl underlying24 rfl yao ⟨Row.cell (hS.bx 2 rfl) (i:=0) rfl,Row.cell (hS.bx 2 rfl) (i:=1) rfl,trivial⟩) (zM (.slice As ls cs) (zn (yam rfl (am2 rfl rfl) ylq ((ydd h (yaB _) (hS.rdr 0 rfl) (hS.rdr 1 rfl)).mono ?_)))))))));rintro _ w3 ⟨r,r2,r3,Ar,lr,cr,rfl,hC,h⟩;replace hS:=hS.call1 (hC.widen (yde (ya0 (fI .i64) _ _ _ _ _) ydA) hS.blt) 3 0 rfl;clear hC;refine ⟨_,rfl,?_⟩;refine zb (zM (.tuple #[(ii r),(.slice Ar lr cr),(ii r3)]) (zq (zx (ii r)) (zq (zx (.slice Ar lr cr)) (zq (zx (ii r3)) (zQ (ii r) (zQ (.slice Ar lr cr) (zQ (ii r3) (yaa (yaf (zs (zM (ii r3) (zq zN (yaa ?_)))))))))))));by_cases hp:r3=0
  · replace h:=h.1 hp;refine ze hp (yag (zs (zq (yaq (vs:=[(ii g),(.slice Ag lg cg)]) rfl underlying24 rfl yao ⟨Row.cell (hS.bx 2 rfl) (i:=0) rfl,Row.cell (hS.bx 2 rfl) (i:=1) rfl,trivial⟩) (zM (.slice As ls cs) (zn (yam rfl (am2 rfl rfl) ylr ((yev h (yaB _) (hS.rdr 0 rfl) (hS.rdr 1 rfl)).mono ?_)))))));rintro _ w4 ⟨r4,r5,r6,Ar2,lr2,cr2,rfl,hC,h⟩;replace hS:=hS.call1 (hC.widen (yde (ya0 (fI .i64) _ _ _ _ _) ydA) hS.blt) 4 0 rfl;clear hC;refine ⟨_,rfl,?_⟩;refine zb (zM (.tuple #[(ii r4),(.slice Ar2 lr2 cr2),(ii r6)]) (zq (zx (ii r4)) (zq (zx (.slice Ar2 lr2 cr2)) (zq (zx (ii r6)) (zQ (ii r4) (zQ (.slice Ar2 lr2 cr2) (zQ (ii r6) (yaa (yaf (zs (zM (ii r6) (zq zN (yaa ?_)))))))))))));by_cases hp2:r6=0
    · replace h:=h.1 hp2;refine ze hp2 (yag (yaf (zs (zM (ii r4) (zq zL (yaa ?_))))));by_cases hp3:r4<0
      · replace h:=h.1 hp3;exact zc hp3 (zs (zM (ii r) (zQ (ii r) (zQ (ii 0) (yaa (yaG rfl rfl rfl ⟨_,_,rfl,(hS.sel []),h⟩))))))
      · replace h:=h.2 hp3;exact zd hp3 (yag (zs (zM (ii r) (zM (ii r4) (zq (yja rfl rfl) (zQ (ii (mnF r r4)) (zQ (ii 0) (yaa (yaG rfl rfl rfl ⟨_,_,rfl,(hS.sel []),h⟩)))))))))
    · replace h:=h.2 hp2;exact zf hp2 (zs (zM (ii r6) (zQ (ii 0) (zQ (ii r6) (yaa (yaG rfl rfl rfl ⟨_,_,rfl,(hS.sel []),h⟩))))))
  · replace h:=h.2 hp;exact zf hp (zs (zM (ii r3) (zQ (ii 0) (zQ (ii r3) (yaa (yaG rfl rfl rfl ⟨_,_,rfl,(hS.sel []),h⟩))))))
def yeI(g:Int)(g2:List E3)(R:(List (Int×Int))→Int→Prop):Prop :=
ybK g g2 (fun r =>
((r=0 →
ycA g g2 ((∃ Pr Rr:List E3→Prop,ybk g g2 Pr Rr ∧
(∃ I2:List E3→(List (Int×Int))→Prop,I2 [] ([]) ∧
(∀ pre y y2 y3 out,I2 pre out→Pr (pre++[(y,y2,y3)]) →
(out.length+1≤1000000000 ∧
I2 (pre++[(y,y2,y3)]) (out++[(y2,y3)]))) ∧
(∀ ys out,I2 ys out→Rr ys →
R out 0))))) ∧
(¬(r=0) →
R ([]) r)))
theorem pok_graph_Ends{O:Nat→Prop}{w:World}{g g2 Ag lg cg}{R:(List (Int×Int))→Int→Prop}(h:yeI g g2 R)(hO:∀ k,O k→k<w.heap.size)(hA0:(FP.sl c3 Ag lg cg g2).P O w) :
    Calls Tryz.prog 117 #[(.agg #[(ii g),(.slice Ag lg cg)])] w fun e w'=>∃ r2 r3 Ar lr cr,e = .returned (.tuple #[(.slice Ar lr cr),(ii r3)])∧Sep w no O w' (rl [Res.own c2 116 Ar lr cr r2])∧R r2 r3:=by
  unfold yeI at h;have hS:Sep w no O w (rl [Res.ro (FP.sl c3 Ag lg cg g2)]):=Sep.startl hO [(FP.sl c3 Ag lg cg g2)] ⟨hA0,trivial⟩;refine yei (l:=[(.agg #[(ii g),(.slice Ag lg cg)])]) func117 rfl ntmps117 zY (zs (zn (ya8 (v:=(.agg #[(ii g),(.slice Ag lg cg)])) rfl ?_)));intro g3 w2 hN;replace hS:Sep w no O w2 (stl _ 1 (Res.box 24 g3 [(ii g),(.slice Ag lg cg)])):=hS.new 1 rfl hN;clear hN;refine zb (zQ (.slice none 0 0) (zQ (ii 0) (yaa (yaf (zs (zq (yaq (vs:=[(ii g),(.slice Ag lg cg)]) rfl underlying24 rfl yao ⟨Row.cell (hS.bx 1 rfl) (i:=0) rfl,Row.cell (hS.bx 1 rfl) (i:=1) rfl,trivial⟩) (zn (yam rfl (am1 rfl) yhI ((ydH h (yaB _) (hS.rdr 0 rfl)).mono ?_)))))))));rintro _ w3 ⟨r,rfl,hC,h⟩;replace hS:=hS.pur hC.pure;clear hC;refine ⟨_,rfl,?_⟩;refine zb (zQ (ii r) (yaa (zs (zM (ii r) (zq zN (yaa ?_))))));by_cases hp:r=0
  · replace h:=h.1 hp;refine ze hp (yag (zs (zn (yaO info_114 ?_))));intro g4 w4 hN;replace hS:Sep w no O w4 (stl _ 2 (Res.box 114 g4 [(.slice none 0 0)])):=hS.new 2 rfl hN;clear hN;refine zb (yaa (yaf (zs (zq (yaq (vs:=[(ii g),(.slice Ag lg cg)]) rfl underlying24 rfl yao ⟨Row.cell (hS.bx 1 rfl) (i:=0) rfl,Row.cell (hS.bx 1 rfl) (i:=1) rfl,trivial⟩) (zn (yam rfl (am1 rfl) yjH ((yd1 h hS.blt (hS.ro 0 rfl)).mono ?_)))))));rintro _ w5 ⟨gc,rfl,hC,h⟩;replace hS:=hS.call1 hC 3 0 rfl;clear hC;refine ⟨_,rfl,?_⟩;refine zb (yaa (yai ?_));replace hS:=hS.nil 4 rfl c2 116;obtain ⟨Pr,Rr,hgp,I2,h0,hb,h⟩:=h;refine yiN hS [2,4] [3,0] (by decide) (by decide) ⟨.inl (by decide), .inr rfl,trivial⟩ rfl yjf (val:=(fun (x:E3)=>#[(ii x.1),(.agg #[(ii x.2.1),(ii x.2.2)])])) (pass:=(fun _=>FP.tt)) (Pr:=Pr) (R:=Rr) (fun _=>rfl) rfl (fun pr LL=>∃ out Aa Ab Ac,I2 pr out∧LL=[Res.box 114 g4 [(.slice Aa Ab Ac)],Res.own c2 116 Aa Ab Ac out]) (fun _ _ _=>False) ⟨_,_,_,_,h0,rfl⟩ (fun T G hG=>ydt hgp hG) ?_ ?_ (fun _ _ _ _ _ hx=>hx.elim)
    · clear h h0 hS hgp;rintro ll rdy busy S O2 pre ⟨y,y2,y3⟩ w6 _ ⟨out,Aa,Ab,Ac,hI,rfl⟩ hPr hpass hS;have h:=hb pre y y2 y3 out hI hPr;clear hb hI hPr;clear hpass;refine yay (ya7 ll) (zn (yaO ybl ?_));intro g5 w8 hN;replace hS:Sep w6 S O2 w8 (stl _ 3 (Res.box 133 g5 [(ii 0),(ii 0)])):=hS.new 3 rfl hN;clear hN;refine zb (zo (yaV (b:=g5) (o:=0) (cells:=#[(ii y2),(ii y3)]) rfl rfl ybl rfl rfl (yaI (hS.bx 3 rfl) zY) ?_));intro w9 e1;replace hS:=hS.bstn 3 rfl 0 [(ii y2),(ii y3)] e1;clear e1;refine zb (yaa (ycO fun a ra=>⟨rfl,_,_,ra,hS,⟨2,rfl⟩,?_⟩));intro w10 hw;replace hS:=hS.flip 2 rfl busy hw;clear hw ra a;refine yai (yay (ya7 ll) (zq (zl underlying114 (Row.cell (hS.bx 0 rfl) (i:=0) rfl)) (zq (yan rfl underlying133 rfl yaj) (zq (zl underlying3 (Row.cell (hS.bx 3 rfl) (i:=0) rfl)) (zq (yan rfl underlying133 rfl yaj) (zq (zl underlying3 (Row.cell (hS.bx 3 rfl) (i:=1) rfl)) (zn (n_builda (l:=[(0,(ii y2)),(1,(ii y3))]) (cells:=[(ii y2),(ii y3)]) (bp2 rfl rfl) underlying116 yeD yaj (by kernel_rfl) ?_))))))));refine zb (zn (yaX (l:=[(0,(.agg #[(ii y2),(ii y3)]))]) (cells:=[(ii y2),(ii y3)]) (bp1 rfl) underlying114 yeD rfl rfl ?_));intro g6 w11 hN;replace hS:=hS.litf (n:=1) 4 rfl (fP (fI .i64) (fI .i64)) hN ([(y2,y3)]:List (Int×Int)) rfl (by decide) rfl;clear hN;refine zb ?_;obtain ⟨hx,h⟩:=h;refine zn (ygp (c:=c2) rfl rfl underlying114 underlying114 yeD rfl rfl (by decide) hS 1 rfl (hS.yo 4 rfl) hx ?_);clear hS;intro A c w12 hS;refine zb (zo (zt (.slice A (Ab+1) c) info_114 (hS.bwr 0 rfl (j:=0) rfl) ?_));intro w13 e1;replace hS:=hS.bst 0 rfl 0 (.slice A (Ab+1) c) e1;clear e1;exact zb (yaa (yah (ycO fun a r=>⟨_,⟨_,_,_,_,h,rfl⟩,(hS.sel [0,1,2])⟩)))
    · clear hb h0 hS hgp;rintro D ys w7 _ hRr ⟨out,Aa,Ab,Ac,hI,rfl⟩ hS;replace h:=h ys out hI hRr;clear hI hRr;exact yah (zs (zq (zl underlying114 (Row.cell (hS.bx 0 rfl) (i:=0) rfl)) (zQ (.slice Aa Ab Ac) (zQ (ii 0) (yaa (yfd (rs:=[D]) (by simp) (hS.marked 2 rfl) rfl rfl rfl (fun w9 hk=>⟨_,_,_,_,_,rfl,(hS.unmark [2] [1] (by decide) (by decide) (yh8 2 rfl) hk),h⟩)))))))
  · replace h:=h.2 hp;refine zf hp (zs (zM (ii r) (zQ (.slice none 0 0) (zQ (ii r) (yaa ?_)))));replace hS:=hS.nil 2 rfl c2 116;exact yfd (rs:=[]) (by simp) (by simp) rfl rfl rfl (fun w9 hk=>⟨_,_,_,_,_,rfl,(hS.unmark [] [2] (by decide) (by decide) (by simp) hk),h⟩)
def yeL(g:Int)(g2:List E3)(R:Int→Int→Prop):Prop :=
yeI g g2 (fun r r2 =>
R (r.length:Int) r2)
theorem pok_graph_Size{O:Nat→Prop}{w:World}{g g2 Ag lg cg}{R:Int→Int→Prop}(h:yeL g g2 R)(hO:∀ k,O k→k<w.heap.size)(hA0:(FP.sl c3 Ag lg cg g2).P O w) :
    Calls Tryz.prog 72 #[(.agg #[(ii g),(.slice Ag lg cg)])] w fun e w'=>∃ r3 r4,e = .returned (.tuple #[(ii r3),(ii r4)])∧Sep w no O w' (rl [])∧R r3 r4:=by
  unfold yeL at h;have hS:Sep w no O w (rl [Res.ro (FP.sl c3 Ag lg cg g2)]):=Sep.startl hO [(FP.sl c3 Ag lg cg g2)] ⟨hA0,trivial⟩;refine yap (l:=[(.agg #[(ii g),(.slice Ag lg cg)])]) func72 rfl ntmps72 zY (zs (zn (ya8 (v:=(.agg #[(ii g),(.slice Ag lg cg)])) rfl ?_)));intro g3 w2 hN;replace hS:Sep w no O w2 (stl _ 1 (Res.box 24 g3 [(ii g),(.slice Ag lg cg)])):=hS.new 1 rfl hN;clear hN;refine zb (zQ (ii 0) (zQ (ii 0) (yaa (zs (zq (yaq (vs:=[(ii g),(.slice Ag lg cg)]) rfl underlying24 rfl yao ⟨Row.cell (hS.bx 1 rfl) (i:=0) rfl,Row.cell (hS.bx 1 rfl) (i:=1) rfl,trivial⟩) (zn (yam rfl (am1 rfl) enter_117 ((pok_graph_Ends h (yaB _) (hS.rdr 0 rfl)).mono ?_))))))));rintro _ w3 ⟨r,r2,Ar,lr,cr,rfl,hC,h⟩;replace hS:=hS.call1 (hC.widen (yde (ya0 (fP (fI .i64) (fI .i64)) _ _ _ _ _) ydA) hS.blt) 2 0 rfl;clear hC;refine ⟨_,rfl,?_⟩;exact zb (zM (.tuple #[(.slice Ar lr cr),(ii r2)]) (zq (zx (.slice Ar lr cr)) (zq (zx (ii r2)) (zQ (.slice Ar lr cr) (zQ (ii r2) (yaa (zs (zM (.slice Ar lr cr) (zq (yaF (n:=r.length) rfl underlying114 (yaE (hS.rdo 2 rfl))) (zM (ii r2) (zQ (ii (r.length:Int)) (zQ (ii r2) (yaa (yaG rfl rfl rfl ⟨_,_,rfl,(hS.sel []),h⟩))))))))))))))
def yeP(d:List Int)(R:Prop):Prop :=
R
theorem pok_chips_from{O:Nat→Prop}{w:World}{d Ad ld cd}{R:Prop}(h:yeP d R)(hO:∀ k,O k→k<w.heap.size)(hA0:(FP.sl cI Ad ld cd d).P O w) :
    Calls Tryz.prog 120 #[(.slice Ad ld cd)] w fun e w'=>∃ gr,e = .returned (.func (Fn.func 145) #[] #[(.pointer (some ⟨gr,0,none⟩))])∧Sep w no O w' (rl [Res.box 43 gr [(.slice Ad ld cd)]])∧R:=by
  unfold yeP at h;have hS:Sep w no O w (rl [Res.ro (FP.sl cI Ad ld cd d)]):=Sep.startl hO [(FP.sl cI Ad ld cd d)] ⟨hA0,trivial⟩;refine yap (l:=[(.slice Ad ld cd)]) func120 rfl ntmps120 zY (zs (zn (ya8 (v:=(.slice Ad ld cd)) rfl ?_)));intro g w2 hN;replace hS:Sep w no O w2 (stl _ 1 (Res.box 43 g [(.slice Ad ld cd)])):=hS.new 1 rfl hN;clear hN;exact zb (zQ Value.nilFunc (yaa (zs (zq (yeZ (am0) (am1 rfl)) (zQ (.func (Fn.func 145) #[] #[(.pointer (some ⟨g,0,none⟩))]) (yaa (yak rfl rfl ⟨_,rfl,(hS.sel [1]),h⟩)))))))
def ybX(cap:List Int)(Pr R:List (List Int)→Prop):Prop :=
(∃ I2:Nat→(List (List Int))→Bool→(List Int)→Prop,(∃ m0,I2 m0 ([]) true cap)∧∀ m2 pre2 more v,I2 m2 pre2 more v → 
((more=true →
ybm v (fun r =>
(Pr (pre2++[r]) ∧
(ydF v (fun r2 y =>
∃ m3,m3<m2∧I2 m3 (pre2++[r]) r2 y) ∧
True)))) ∧
(¬(more=true) →
R pre2)))
theorem yhh{w:World}{T0 G0:BS}{cap gc Aa Ab Ac}{Pr R:List (List Int)→Prop}(h:ybX cap Pr R)(hS0:Sep w G0 T0 w (rl [Res.box 43 gc [(Value.slice Aa Ab Ac)],Res.own cI 3 Aa Ab Ac cap])) :
    yiP Tryz.prog 145 #[(.pointer (some ⟨gc,0,none⟩))] (fun (x:List Int) (b:(Option Addr×Nat×Nat))=>#[(.slice b.1 b.2.1 b.2.2)]) (fun (x:List Int) (b:(Option Addr×Nat×Nat))=>(FP.sl cI b.1 b.2.1 b.2.2 x)) Pr R T0 G0 w:=by
  unfold ybX at h;intro l J Jx T1 w1 hs hJ hp hT;obtain ⟨G,hJ,hS⟩:=gen_startP hS0 hs hJ hp hT;clear hS0 hp hT;refine yhi (l:=[(.func (.yield l) #[] #[]),(.pointer (some ⟨gc,0,none⟩))]) func145 rfl ntmps145 zY rfl (zs (zQ (.bool (true)) (yaa (yai ?_))));obtain ⟨I2,⟨m0,h0⟩,hr⟩:=h;refine yaz (fun m E ds w'=>∃ pre2 more v,∃ T2:BS,∃ G2:BS,∃ wb2:World,I2 m pre2 more v∧ds=[]∧E 0=(Value.func (.yield l) #[] #[])∧E 1=(Value.pointer (some ⟨gc,0,none⟩))∧E 3=(Value.bool (more))∧J T2 G2 pre2 wb2∧Sep wb2 G2 T2 w' (rl [Res.box 43 gc [(.slice Aa Ab Ac)],Res.own cI 3 Aa Ab Ac v])) m0 ⟨_,_,_,_,_,_,h0,rfl,rfl,rfl,rfl,hJ,(hS.sel [0,1])⟩ ?_;clear h0 hS hJ;rintro m2 E ds w2 ⟨pre2,more,v,T2,G2,wb2,h,rfl,H0,H1,H3,hJ,hS⟩ ag;replace h:=hr m2 pre2 more v h;clear hr;refine yaf (zs (zq (yad H3) (yaa ?_)));by_cases hp:more=true
  · replace h:=h.1 hp;refine yar (zC hp) (yag (yaf (yai (zs (zq (yad H0) (zq (yau H1 underlying43 rfl (Row.cell (hS.bx 0 rfl) (i:=0) rfl)) (zn (yam rfl (am1 rfl) enter_147 ((yfL h (yaB _) (hS.rdo 1 rfl)).mono ?_)))))))));rintro _ w3 ⟨r,Ar,lr,cr,rfl,hC,h⟩;replace hS:=hS.call1 (hC.widen (yde (ya0 (fI .i64) _ _ _ _ _) ydA) hS.blt) 2 0 rfl;clear hC;refine ⟨_,rfl,?_⟩;refine zb ?_;replace hS:=hS.frz 2 rfl;obtain ⟨hPr,hyes,hno⟩:=h;refine zn (n_yield (m:=1) rfl (am1 rfl) (gen_yieldP (x:=r) (b:=(Ar,lr,cr)) hs hJ hS hPr (hS.ro 2 rfl) ?_ ?_))
    · clear hno hJ hS;have h:=hyes;clear hyes;intro T3 w4 hJ hS;generalize OwnB _=G3 at hJ hS;refine ⟨_,rfl,?_⟩;refine zb (zq (ycX rfl) (yaa (yat (zC (zB rfl)) (yag (yah (zr (zq (yau H1 underlying43 rfl (Row.cell (hS.bx 0 rfl) (i:=0) rfl)) ?_)))))));have hB:=hS.lend (asc [(1,0)]) [1] (by decide) ⟨.inl (ybE rfl),trivial⟩;refine zn (ydx (vs:=#[(.slice Aa Ab Ac)]) (us:=#[]) rfl (am1 rfl) enter_146 ((ya4 (by simp) (pok_chips_step h hB)).mono ?_));rintro _ w5 ⟨r2,y,rfl,hC,h⟩;replace hS:=hS.back (asc [(1,0)]) (yey (by decide)) hC;clear hC hB;refine ⟨_,rfl,?_⟩;refine zb (zQ (.bool (r2)) (yaa ?_));obtain ⟨mq,hlt,h⟩:=h;exact ag mq _ _ _ ⟨_,_,_,_,_,_,h,rfl,H0,H1,rfl,hJ,(hS.sel [0,1])⟩ hlt
    · clear hyes hJ hS;have h:=hno;clear hno;intro T4 w6 hJ hS;generalize OwnB _=G4 at hJ hS;refine ⟨_,rfl,?_⟩;exact zb (zq (ycX rfl) (yaa (yar (zC (zB rfl)) (wt_ret0 rfl ⟨⟨_,rfl⟩,gen_endxP hs hJ hS⟩))))
  · replace h:=h.2 hp;exact yat (zC (zI hp)) (yax rfl (yhj rfl ⟨⟨_,rfl⟩,gen_endP hs hJ hS h⟩))
def yaM(s:List (List Int))(seq:List Int)(R:(List (List Int))→Prop):Prop :=
(∃ Pr Rr:List (List Int)→Prop,ybX seq Pr Rr ∧
(∃ I2:List (List Int)→(List (List Int))→Prop,I2 [] s ∧
(∀ pre y s2,I2 pre s2→Pr (pre++[y]) →
(s2.length+1≤1000000000 ∧
I2 (pre++[y]) (s2++[y]))) ∧
(∀ ys s2,I2 ys s2→Rr ys →
R s2)))
theorem yco{S O:Nat→Prop}{w:World}{s seq As ls cs gc Aa Ab Ac}{R:(List (List Int))→Prop}(h:yaM s seq R)(hS:Sep w S O w (rl [Res.own (cL cI) 43 As ls cs s,Res.box 43 gc [(Value.slice Aa Ab Ac)],Res.own cI 3 Aa Ab Ac seq])) :
    Calls Tryz.prog 144 #[(.slice As ls cs),(.func (Fn.func 145) #[] #[(.pointer (some ⟨gc,0,none⟩))])] w fun e w'=>∃ r Ar lr cr,e = .returned (.slice Ar lr cr)∧Sep w S O w' (rl [Res.own (cL cI) 43 Ar lr cr r])∧R r:=by
  unfold yaM at h;refine yei (l:=[(.slice As ls cs),(.func (Fn.func 145) #[] #[(.pointer (some ⟨gc,0,none⟩))])]) func144 rfl ntmps144 zY (zs (zn (ya8 (v:=(.slice As ls cs)) rfl ?_)));intro g w2 hN;replace hS:Sep w S O w2 (stl _ 3 (Res.box 93 g [(.slice As ls cs)])):=hS.new 3 rfl hN;clear hN;refine zb (zQ (.slice none 0 0) (yaa (yaf (zs (zM (.func (Fn.func 145) #[] #[(.pointer (some ⟨gc,0,none⟩))]) (yaa (yai ?_)))))));obtain ⟨Pr,Rr,hgp,I2,h0,hb,h⟩:=h;refine wt_iterSP hS [3,0] [1,2] (by decide) (by decide) ⟨.inl (by decide), .inl (by decide),trivial⟩ rfl enter_145 (val:=(fun (x:List Int) (b:(Option Addr×Nat×Nat))=>#[(.slice b.1 b.2.1 b.2.2)])) (pass:=(fun (x:List Int) (b:(Option Addr×Nat×Nat))=>(FP.sl cI b.1 b.2.1 b.2.2 x))) (Pr:=Pr) (R:=Rr) (fun _ _=>rfl) rfl (fun pr LL=>∃ s2 As2 ls2 cs2,I2 pr s2∧LL=[Res.box 93 g [(.slice As2 ls2 cs2)],Res.own (cL cI) 43 As2 ls2 cs2 s2]) (fun _ _ _=>False) ⟨_,_,_,_,h0,rfl⟩ (fun T G hG=>yhh hgp hG) ?_ ?_ (fun _ _ _ _ _ hx=>hx.elim)
  · clear h h0 hS hgp;rintro ll rdy busy S O2 pre y ⟨A,l,c⟩ w3 _ ⟨s2,As2,ls2,cs2,hI,rfl⟩ hPr hpass hS;have h:=hb pre y s2 hI hPr;clear hb hI hPr;replace hS:=hS.addro 3 rfl _ hpass;clear hpass;refine yay (ya7 ll) (zQ (.slice A l c) (yaa (ycO fun a ra=>⟨rfl,_,_,ra,hS,⟨2,rfl⟩,?_⟩)));intro w5 hw;replace hS:=hS.flip 2 rfl busy hw;clear hw ra a;refine yai (yay (ya7 ll) (zq (zl underlying93 (Row.cell (hS.bx 0 rfl) (i:=0) rfl)) (zM (.slice A l c) (zn (yaX (l:=[(0,(.slice A l c))]) (cells:=[(.slice A l c)]) (bp1 rfl) underlying93 ycm rfl rfl ?_)))));intro g2 w6 hN;replace hS:=hS.lit (n:=1) (c:=(cL cI)) 4 rfl hN ([y]:List (List Int)) rfl (by decide) ⟨[(.slice A l c)],_,rfl,(ro_R (hS.ro 3 rfl)),rfl⟩;clear hN;refine zb ?_;obtain ⟨hx,h⟩:=h;refine zn (ygp (c:=(cL cI)) rfl rfl underlying93 underlying93 ycm rfl rfl (by decide) hS 1 rfl (hS.yo 4 rfl) hx ?_);clear hS;intro A2 c4 w7 hS;refine zb (zo (zt (.slice A2 (ls2+1) c4) info_93 (hS.bwr 0 rfl (j:=0) rfl) ?_));intro w8 e1;replace hS:=hS.bst 0 rfl 0 (.slice A2 (ls2+1) c4) e1;clear e1;exact zb (yaa (yah (ycO fun a r=>⟨_,⟨_,_,_,_,h,rfl⟩,(hS.sel [0,1,2])⟩)))
  · clear hb h0 hS hgp;rintro D ys w4 _ hRr ⟨s2,As2,ls2,cs2,hI,rfl⟩ hS;replace h:=h ys s2 hI hRr;clear hI hRr;exact yah (zs (zq (zl underlying93 (Row.cell (hS.bx 0 rfl) (i:=0) rfl)) (zQ (.slice As2 ls2 cs2) (yaa (wt_retk1 (rs:=[D]) (by simp) (hS.marked 2 rfl) rfl rfl (fun w9 hk=>⟨_,_,_,_,rfl,(hS.unmark [2] [1] (by decide) (by decide) (yh8 2 rfl) hk),h⟩))))))
def ybg(seq:List Int)(R:(List (List Int))→Prop):Prop :=
yaM ([]) seq (fun r =>
R r)
theorem yeh{S O:Nat→Prop}{w:World}{seq gc Aa Ab Ac}{R:(List (List Int))→Prop}(h:ybg seq R)(hS:Sep w S O w (rl [Res.box 43 gc [(Value.slice Aa Ab Ac)],Res.own cI 3 Aa Ab Ac seq])) :
    Calls Tryz.prog 119 #[(.func (Fn.func 145) #[] #[(.pointer (some ⟨gc,0,none⟩))])] w fun e w'=>∃ r2 Ar2 lr2 cr2,e = .returned (.slice Ar2 lr2 cr2)∧Sep w S O w' (rl [Res.own (cL cI) 43 Ar2 lr2 cr2 r2])∧R r2:=by
  unfold ybg at h;refine yap (l:=[(.func (Fn.func 145) #[] #[(.pointer (some ⟨gc,0,none⟩))])]) func119 rfl ntmps119 zY (zs (zQ (.slice none 0 0) (yaa (zs (zM (.func (Fn.func 145) #[] #[(.pointer (some ⟨gc,0,none⟩))]) ?_)))));replace hS:=hS.nil 2 rfl (cL cI) 43;have hB:=hS.lend (asc [(3,0),(2,20),(0,21),(1,22)]) [2,0,1] (by decide) ⟨.inl (ybE rfl), .inl (ybE rfl), .inl (ybE rfl),trivial⟩;refine zn (ydx (vs:=#[(.slice none 0 0),(.func (Fn.func 145) #[] #[(.pointer (some ⟨gc,0,none⟩))])]) (us:=#[]) rfl (am2 rfl rfl) enter_144 ((ya4 (by simp) (yco h hB)).mono ?_));rintro _ w2 ⟨r,Ar,lr,cr,rfl,hC,h⟩;replace hS:=hS.back (asc [(3,0),(2,20),(0,21),(1,22)]) (yey (by decide)) hC;clear hC hB;refine ⟨_,rfl,?_⟩;exact zb (zQ (.slice Ar lr cr) (yaa (yak rfl rfl ⟨_,_,_,_,rfl,(hS.sel [3]),h⟩)))
def yeg(n:Int)(k:Int)(R:(List (List Int))→Int→Prop):Prop :=
ybu n (fun r =>
((r=0 →
(∃ J2:Prop,(J2→(∃ I2:Nat→Int→Int→Prop,(∃ m0,I2 m0 1 1)∧∀ m2 count i,I2 m2 count i → 
((i<n →
(In64 (k+i) ∧
(In64 (count*(k+i)) ∧
(i≠0 ∧
In64 ((count*(k+i)).tdiv i) ∧
((16384<((count*(k+i)).tdiv i) →
R ([]) 12) ∧
(¬(16384<((count*(k+i)).tdiv i)) →
(In64 (i+1) ∧
∃ m3,m3<m2∧I2 m3 ((count*(k+i)).tdiv i) (i+1)))))))) ∧
(¬(i<n) →
((0≤n∧n≤1000000) ∧
(In64 (n-1) ∧
((0≤(n-1)∧(n-1)<(((List.replicate n.toNat (0:Int)).length:Nat):Int)) ∧
yeP ((List.replicate n.toNat (0:Int)).set (n-1).toNat k) (ybg ((List.replicate n.toNat (0:Int)).set (n-1).toNat k) (fun r2 =>
R r2 0))))))))) ∧
((k<0 →
R ([]) 2) ∧
(¬(k<0) →
((1048576<k →
R ([]) 2) ∧
(¬(1048576<k) →
J2)))))) ∧
(¬(r=0) →
R ([]) r)))
theorem pok_chips_All{O:Nat→Prop}{w:World}{n k}{R:(List (List Int))→Int→Prop}(h:yeg n k R)(hO:∀ k,O k→k<w.heap.size) :
    Calls Tryz.prog 73 #[(ii n),(ii k)] w fun e w'=>∃ r3 r4 Ar2 lr2 cr2,e = .returned (.tuple #[(.slice Ar2 lr2 cr2),(ii r4)])∧Sep w no O w' (rl [Res.own (cL cI) 43 Ar2 lr2 cr2 r3])∧R r3 r4:=by
  unfold yeg at h;have hS:Sep w no O w (rl []):=Sep.start w hO;refine yap (l:=[(ii n),(ii k)]) func73 rfl ntmps73 zY (zs (zQ (.slice none 0 0) (zQ (ii 0) (yaa (yaf (zs (zM (ii n) (zn (yam rfl (am1 rfl) enter_118 ((yfk h (yaB _)).mono ?_))))))))));rintro _ w2 ⟨r,rfl,hC,h⟩;replace hS:=hS.pur hC.pure;clear hC;refine ⟨_,rfl,?_⟩;refine zb (zQ (ii r) (yaa (zs (zM (ii r) (zq zN (yaa ?_))))));by_cases hp:r=0
  · replace h:=h.1 hp;refine ze hp (yag (yaf (yaf ?_)));obtain ⟨J2,hJ,h⟩:=h;refine yc1 (fun E ds w'=>J2∧ds=[]∧E 0=(ii n)∧E 1=(ii k)∧Sep w no O w' (rl [])) ?_ ?_
    · clear h hS;rintro E ds w3 ⟨h,rfl,H0,H1,hS⟩;replace h:=hJ h;refine zs (zQ (ii 1) (yaa (yaf (zs (zQ (ii 1) (yaa (yai ?_)))))));obtain ⟨I2,⟨m0,h0⟩,hr⟩:=h;refine yaz (fun m E ds w'=>∃ count i,I2 m count i∧ds=[]∧E 0=(ii n)∧E 1=(ii k)∧E 7=(ii count)∧E 8=(ii i)∧Sep w no O w' (rl [])) m0 ⟨_,_,h0,rfl,H0,H1,rfl,rfl,(hS.sel [])⟩ ?_;clear h0 hS;rintro m2 E ds w4 ⟨count,i,h,rfl,H0,H1,H7,H8,hS⟩ ag;replace h:=hr m2 count i h;clear hr;refine yaf (zs (zq (yad H8) (zq (yad H0) (zq zL (yaa ?_)))));by_cases hp2:i<n
      · replace h:=h.1 hp2;refine zc hp2 (yag (yaf (yai (zs (zq (yad H7) (zq (yad H1) (zq (yad H8) ?_)))))));obtain ⟨hi,h⟩:=h;refine zq (zA hi) ?_;obtain ⟨hi2,h⟩:=h;refine zq (v_mul rfl rfl hi2) (zq (yad H8) ?_);obtain ⟨hz,h⟩:=h;obtain ⟨hi3,h⟩:=h;refine zq (v_quo rfl rfl hz hi3) (zQ (ii ((count*(k+i)).tdiv i)) (yaa (zs (zM (ii ((count*(k+i)).tdiv i)) (zq zG (yaa ?_))))));by_cases hp3:16384<((count*(k+i)).tdiv i)
        · replace h:=h.1 hp3;refine zc hp3 (zs (zQ (.slice none 0 0) (zQ (ii 12) (yaa ?_))));replace hS:=hS.nil 0 rfl (cL cI) 43;exact yaG rfl rfl rfl ⟨_,_,_,_,_,rfl,(hS.sel [0]),h⟩
        · replace h:=h.2 hp3;refine zd hp3 (yag (yah (zr (zq (yad H8) ?_))));obtain ⟨hi4,h⟩:=h;refine zq (zA hi4) (zQ (ii (i+1)) (yaa ?_));obtain ⟨mq,hlt,h⟩:=h;exact ag mq _ _ _ ⟨_,_,h,rfl,H0,H1,rfl,rfl,(hS.sel [])⟩ hlt
      · replace h:=h.2 hp2;refine zd hp2 (yax rfl (zs (zq (yad H0) ?_)));obtain ⟨hx,h⟩:=h;refine zn (ykw rfl rfl underlying43 yaj (by decide) rfl hx ?_);intro g w5 hN;replace hS:=hS.made 0 rfl cI (ii 0) (0:Int) (fun _ _=>rfl) hN (by omega);clear hN;refine zb (zQ (.slice (some ⟨g,0,none⟩) n.toNat n.toNat) (yaa (zs (zM (.slice (some ⟨g,0,none⟩) n.toNat n.toNat) (zq (yad H0) ?_)))));obtain ⟨hi5,h⟩:=h;refine zq (zS hi5) (zq (yad H1) ?_);obtain ⟨hx2,h⟩:=h;refine zq (zi underlying43 yaj (yaP (hS.rdo 0 rfl) hx2)) (zo (zt (ii k) yaj (hS.wr 0 rfl rfl hx2) ?_));intro w6 e1;replace hS:=hS.st 0 rfl rfl hx2 (x:=k) rfl e1;clear e1;refine zb (yaa (zs (zM (.slice (some ⟨g,0,none⟩) n.toNat n.toNat) (zn (yam rfl (am1 rfl) enter_120 ((pok_chips_from h (yaB _) (hS.rdo 0 rfl)).mono ?_))))));rintro _ w7 ⟨gc,rfl,hC,h⟩;replace hS:=hS.call1 (hC.widen (yde (flat_box _ _ _) ydA) hS.blt) 1 0 rfl;clear hC;refine ⟨_,rfl,?_⟩;refine zb ?_;have hB:=hS.lend (asc [(2,0),(1,20),(0,21)]) [1,0] (by decide) ⟨.inl (ybE rfl), .inl (ybE rfl),trivial⟩;refine zn (ydx (vs:=#[(.func (Fn.func 145) #[] #[(.pointer (some ⟨gc,0,none⟩))])]) (us:=#[]) rfl (am1 rfl) enter_119 ((ya4 (by simp) (yeh h hB)).mono ?_));rintro _ w8 ⟨r2,Ar,lr,cr,rfl,hC,h⟩;replace hS:=hS.back (asc [(2,0),(1,20),(0,21)]) (yey (by decide)) hC;clear hC hB;refine ⟨_,rfl,?_⟩;exact zb (zQ (.slice Ar lr cr) (zQ (ii 0) (yaa (yaG rfl rfl rfl ⟨_,_,_,_,_,rfl,(hS.sel [2]),h⟩))))
    clear hJ;intro j;refine zr (zM (ii k) (zq zL (zM (.bool (decide (k<0))) ?_)));by_cases hp4:k<0
    · replace h:=h.1 hp4;refine zV rfl rfl (zT hp4) (zV rfl rfl (zT hp4) (zq (yas (v:=(.bool (true))) (zT hp4) rfl) (yaa (yar rfl (zs (zQ (.slice none 0 0) (zQ (ii 2) (yaa ?_))))))));replace hS:=hS.nil 0 rfl (cL cI) 43;exact yaG rfl rfl rfl ⟨_,_,_,_,_,rfl,(hS.sel [0]),h⟩
    · replace h:=h.2 hp4;refine zW rfl rfl (zF hp4) (zm (ii k)) (zW rfl rfl (zF hp4) zG (zq (yal (v:=(.bool (decide (1048576<k)))) (zF hp4) rfl) (yaa ?_)));by_cases hp5:1048576<k
      · replace h:=h.1 hp5;refine zc hp5 (zs (zQ (.slice none 0 0) (zQ (ii 2) (yaa ?_))));replace hS:=hS.nil 0 rfl (cL cI) 43;exact yaG rfl rfl rfl ⟨_,_,_,_,_,rfl,(hS.sel [0]),h⟩
      · replace h:=h.2 hp5;exact zd hp5 (yag (j _ _ _ ⟨h,rfl,rfl,rfl,(hS.sel [])⟩))
  · replace h:=h.2 hp;refine zf hp (zs (zM (ii r) (zQ (.slice none 0 0) (zQ (ii r) (yaa ?_)))));replace hS:=hS.nil 0 rfl (cL cI) 43;exact yaG rfl rfl rfl ⟨_,_,_,_,_,rfl,(hS.sel [0]),h⟩
def ybG(d:Int)(d2:List E3)(R:Int→(List Int)→Int→Prop):Prop :=
ybd d d2 (fun r =>
((r=0 →
yeL d d2 (fun r2 r3 =>
(∃ J2:Prop,(J2→(∃ I2:Nat→Int→Prop,(∃ m0,I2 m0 1)∧∀ m2 v,I2 m2 v → 
((v≤d →
yeg d v (fun r4 r5 =>
((r5=0 →
(∃ I3:Nat→Int→Prop,(∃ m0,I3 m0 0)∧∀ m3 v2,I3 m3 v2 → 
((v2<(r4.length:Int) →
((0≤v2∧v2<(r4.length:Int)) ∧
ycl d d2 (gx r4 v2.toNat) 1 (fun r6 r7 =>
((r7=0 →
((r6=true →
R v (gx r4 v2.toNat) 0) ∧
(¬(r6=true) →
(In64 (v2+1) ∧
∃ m4,m4<m3∧I3 m4 (v2+1))))) ∧
(¬(r7=0) →
R 0 ([]) r7))))) ∧
(¬(v2<(r4.length:Int)) →
(In64 (v+1) ∧
∃ m5,m5<m2∧I2 m5 (v+1)))))) ∧
(¬(r5=0) →
R 0 ([]) r5)))) ∧
(¬(v≤d) →
R 0 ([]) 12)))) ∧
((r3=0 →
((6<d →
R 0 ([]) 12) ∧
(¬(6<d) →
((9<r2 →
R 0 ([]) 12) ∧
(¬(9<r2) →
J2))))) ∧
(¬(r3=0) →
R 0 ([]) 12))))) ∧
(¬(r=0) →
R 0 ([]) r)))
theorem yee{O:Nat→Prop}{w:World}{d d2 Ad ld cd}{R:Int→(List Int)→Int→Prop}(h:ybG d d2 R)(hO:∀ k,O k→k<w.heap.size)(hA0:(FP.sl c3 Ad ld cd d2).P O w) :
    Calls Tryz.prog 24 #[(.agg #[(ii d),(.slice Ad ld cd)])] w fun e w'=>∃ r8 r9 r10 Ar2 lr2 cr2,e = .returned (.tuple #[(ii r8),(.slice Ar2 lr2 cr2),(ii r10)])∧Sep w no O w' (rl [Res.ro (FP.sl cI Ar2 lr2 cr2 r9)])∧R r8 r9 r10:=by
  unfold ybG at h;have hS:Sep w no O w (rl [Res.ro (FP.sl c3 Ad ld cd d2)]):=Sep.startl hO [(FP.sl c3 Ad ld cd d2)] ⟨hA0,trivial⟩;refine yap (l:=[(.agg #[(ii d),(.slice Ad ld cd)])]) func24 rfl ntmps24 zY (zs (zn (ya8 (v:=(.agg #[(ii d),(.slice Ad ld cd)])) rfl ?_)));intro g w2 hN;replace hS:Sep w no O w2 (stl _ 1 (Res.box 24 g [(ii d),(.slice Ad ld cd)])):=hS.new 1 rfl hN;clear hN;refine zb (zQ (ii 0) (zQ (.slice none 0 0) (zQ (ii 0) (yaa (yaf (zs (zq (yaq (vs:=[(ii d),(.slice Ad ld cd)]) rfl underlying24 rfl yao ⟨Row.cell (hS.bx 1 rfl) (i:=0) rfl,Row.cell (hS.bx 1 rfl) (i:=1) rfl,trivial⟩) (zn (yam rfl (am1 rfl) yhH ((ybP h (yaB _) (hS.rdr 0 rfl)).mono ?_))))))))));rintro _ w3 ⟨r,rfl,hC,h⟩;replace hS:=hS.pur hC.pure;clear hC;refine ⟨_,rfl,?_⟩;refine zb (zQ (ii r) (yaa (zs (zM (ii r) (zq zN (yaa ?_))))));by_cases hp:r=0
  · replace h:=h.1 hp;refine ze hp (yag (yaf (zs (zq (yaq (vs:=[(ii d),(.slice Ad ld cd)]) rfl underlying24 rfl yao ⟨Row.cell (hS.bx 1 rfl) (i:=0) rfl,Row.cell (hS.bx 1 rfl) (i:=1) rfl,trivial⟩) (zn (yam rfl (am1 rfl) enter_72 ((pok_graph_Size h (yaB _) (hS.rdr 0 rfl)).mono ?_)))))));rintro _ w4 ⟨r2,r3,rfl,hC,h⟩;replace hS:=hS.pur hC.pure;clear hC;refine ⟨_,rfl,?_⟩;refine zb (zM (.tuple #[(ii r2),(ii r3)]) (zq (zx (ii r2)) (zq (zx (ii r3)) (zQ (ii r2) (zQ (ii r3) (yaa (yaf ?_)))))));obtain ⟨J2,hJ,h⟩:=h;refine yc1 (fun E ds w'=>J2∧ds=[]∧E 1=(Value.pointer (some ⟨g,0,none⟩))∧Sep w no O w' (rl [Res.box 24 g [(ii d),(.slice Ad ld cd)],Res.ro (FP.sl c3 Ad ld cd d2)])) ?_ ?_
    · clear h hS;rintro E ds w5 ⟨h,rfl,H1,hS⟩;replace h:=hJ h;refine yaf (zs (zQ (ii 1) (yaa (yai ?_))));obtain ⟨I2,⟨m0,h0⟩,hr⟩:=h;refine yaz (fun m E ds w'=>∃ v,I2 m v∧ds=[]∧E 1=(Value.pointer (some ⟨g,0,none⟩))∧E 8=(ii v)∧Sep w no O w' (rl [Res.box 24 g [(ii d),(.slice Ad ld cd)],Res.ro (FP.sl c3 Ad ld cd d2)])) m0 ⟨_,h0,rfl,H1,rfl,(hS.sel [0,1])⟩ ?_;clear h0 hS;rintro m2 E ds w6 ⟨v,h,rfl,H1,H8,hS⟩ ag;replace h:=hr m2 v h;clear hr;refine yaf (zs (zq (yad H8) (zq (yan H1 underlying24 rfl yaj) (zq (zl underlying3 (Row.cell (hS.bx 0 rfl) (i:=0) rfl)) (zq (v_leq rfl rfl) (yaa ?_))))));by_cases hp2:v≤d
      · replace h:=h.1 hp2;refine zc hp2 (yag (yaf (yai (zs (zq (yan H1 underlying24 rfl yaj) (zq (zl underlying3 (Row.cell (hS.bx 0 rfl) (i:=0) rfl)) (zq (yad H8) (zn (yam rfl (am2 rfl rfl) enter_73 ((pok_chips_All h hS.blt).mono ?_))))))))));rintro _ w7 ⟨r4,r5,Ar,lr,cr,rfl,hC,h⟩;replace hS:=hS.call1 hC 2 0 rfl;clear hC;refine ⟨_,rfl,?_⟩;refine zb (zM (.tuple #[(.slice Ar lr cr),(ii r5)]) (zq (zx (.slice Ar lr cr)) (zq (zx (ii r5)) (zQ (.slice Ar lr cr) (zQ (ii r5) (yaa (yaf (zs (zM (ii r5) (zq zN (yaa ?_)))))))))));by_cases hp3:r5=0
        · replace h:=h.1 hp3;refine ze hp3 (yag (zs (zM (.slice Ar lr cr) (zq (yaF (n:=r4.length) rfl underlying93 (yaE (hS.rdo 2 rfl))) (zM (ii 0) (yaa (yai ?_)))))));obtain ⟨I3,⟨m0,h0⟩,hr⟩:=h;refine yaz (fun m E ds w'=>∃ v2,I3 m v2∧ds=[]∧E 1=(Value.pointer (some ⟨g,0,none⟩))∧E 8=(ii v)∧E 52=(Value.slice Ar lr cr)∧E 53=(ii (r4.length:Int))∧E 54=(ii v2)∧Sep w no O w' (rl [Res.box 24 g [(ii d),(.slice Ad ld cd)],Res.ro (FP.sl c3 Ad ld cd d2),Res.own (cL cI) 43 Ar lr cr r4])) m0 ⟨_,h0,rfl,H1,H8,rfl,rfl,rfl,(hS.sel [0,1,2])⟩ ?_;clear h0 hS;rintro m3 E ds w8 ⟨v2,h,rfl,H1,H8,H52,H53,H54,hS⟩ again2;replace h:=hr m3 v2 h;clear hr;refine zs (zq (ydj H54 H53) (yaa (yaf ?_)));by_cases hp4:v2<(r4.length:Int)
          · replace h:=h.1 hp4;refine zc hp4 (yag (yaf (yai (zs ?_))));obtain ⟨hx,h⟩:=h;refine zq (ycI H52 H54 underlying93 ycm (yaP (hS.rdo 2 rfl) hx)) ?_;obtain ⟨A,l,c,hc,hq⟩:=hS.elo 2 rfl hx 3 rfl;replace hS:=hq;clear hq;refine zq (yau (v:=(.slice A l c)) rfl underlying43 rfl hc) (zQ (.slice A l c) (yaa (zs (zq (yaq (vs:=[(ii d),(.slice Ad ld cd)]) H1 underlying24 rfl yao ⟨Row.cell (hS.bx 0 rfl) (i:=0) rfl,Row.cell (hS.bx 0 rfl) (i:=1) rfl,trivial⟩) (zM (.slice A l c) (zn (yam rfl (am3 rfl rfl rfl) enter_74 ((yiI h (yaB _) (hS.rdr 1 rfl) (hS.rdr 3 rfl)).mono ?_))))))));rintro _ w9 ⟨r6,r7,rfl,hC,h⟩;replace hS:=hS.pur hC.pure;clear hC;refine ⟨_,rfl,?_⟩;refine zb (zM (.tuple #[(.bool (r6)),(ii r7)]) (zq (zx (.bool (r6))) (zq (zx (ii r7)) (zQ (.bool (r6)) (zQ (ii r7) (yaa (yaf (zs (zM (ii r7) (zq zN (yaa ?_)))))))))));by_cases hp5:r7=0
            · replace h:=h.1 hp5;refine ze hp5 (yag (zs (zM (.bool (r6)) (yaa ?_))));by_cases hp6:r6=true
              · replace h:=h.1 hp6;exact yar (zC hp6) (zs (zq (yad H8) (zM (.slice A l c) (zQ (ii v) (zQ (.slice A l c) (zQ (ii 0) (yaa (ybR rfl rfl rfl rfl ⟨_,_,_,_,_,_,rfl,(hS.sel [3]),h⟩))))))))
              · replace h:=h.2 hp6;refine yat (zC (zI hp6)) (yag (yah (zr ?_)));obtain ⟨hi,h⟩:=h;refine zq (ybS H54 rfl hi) (zM (ii (v2+1)) (yaa ?_));obtain ⟨mq,hlt,h⟩:=h;exact again2 mq _ _ _ ⟨_,h,rfl,H1,H8,H52,H53,rfl,(hS.sel [0,1,2])⟩ hlt
            · replace h:=h.2 hp5;refine zf hp5 (zs (zM (ii r7) (zQ (ii 0) (zQ (.slice none 0 0) (zQ (ii r7) (yaa ?_))))));replace hS:=hS.addro 4 rfl _ (yhe cI _ _);exact ybR rfl rfl rfl rfl ⟨_,_,_,_,_,_,rfl,(hS.sel [4]),h⟩
          · replace h:=h.2 hp4;refine zd hp4 (yax rfl (yah (zr (zq (yad H8) ?_))));obtain ⟨hi2,h⟩:=h;refine zq (zA hi2) (zQ (ii (v+1)) (yaa ?_));obtain ⟨mq,hlt,h⟩:=h;exact ag mq _ _ _ ⟨_,h,rfl,H1,rfl,(hS.sel [0,1])⟩ hlt
        · replace h:=h.2 hp3;refine zf hp3 (zs (zM (ii r5) (zQ (ii 0) (zQ (.slice none 0 0) (zQ (ii r5) (yaa ?_))))));replace hS:=hS.addro 3 rfl _ (yhe cI _ _);exact ybR rfl rfl rfl rfl ⟨_,_,_,_,_,_,rfl,(hS.sel [3]),h⟩
      · replace h:=h.2 hp2;refine zd hp2 (yax rfl (zs (zQ (ii 0) (zQ (.slice none 0 0) (zQ (ii 12) (yaa ?_))))));replace hS:=hS.addro 2 rfl _ (yhe cI _ _);exact ybR rfl rfl rfl rfl ⟨_,_,_,_,_,_,rfl,(hS.sel [2]),h⟩
    clear hJ;intro j;refine zr (zM (ii r3) (zq zN (zM (.bool (!(decide (r3=0)))) ?_)));by_cases hp7:r3=0
    · replace h:=h.1 hp7;refine zW rfl rfl (zC (zB (decide_eq_true hp7))) (yan rfl underlying24 rfl yaj) (zW rfl rfl (zC (zB (decide_eq_true hp7))) (zl underlying3 (Row.cell (hS.bx 1 rfl) (i:=0) rfl)) (zW rfl rfl (zC (zB (decide_eq_true hp7))) zG (zq (yal (v:=(.bool (decide (6<d)))) (zC (zB (decide_eq_true hp7))) rfl) (zM (.bool (decide (6<d))) ?_))));by_cases hp8:6<d
      · replace h:=h.1 hp8;refine zV rfl rfl (zT hp8) (zV rfl rfl (zT hp8) (zq (yas (v:=(.bool (true))) (zT hp8) rfl) (yaa (yar rfl (zs (zQ (ii 0) (zQ (.slice none 0 0) (zQ (ii 12) (yaa ?_)))))))));replace hS:=hS.addro 2 rfl _ (yhe cI _ _);exact ybR rfl rfl rfl rfl ⟨_,_,_,_,_,_,rfl,(hS.sel [2]),h⟩
      · replace h:=h.2 hp8;refine zW rfl rfl (zF hp8) (zm (ii r2)) (zW rfl rfl (zF hp8) zG (zq (yal (v:=(.bool (decide (9<r2)))) (zF hp8) rfl) (yaa ?_)));by_cases hp9:9<r2
        · replace h:=h.1 hp9;refine zc hp9 (zs (zQ (ii 0) (zQ (.slice none 0 0) (zQ (ii 12) (yaa ?_)))));replace hS:=hS.addro 2 rfl _ (yhe cI _ _);exact ybR rfl rfl rfl rfl ⟨_,_,_,_,_,_,rfl,(hS.sel [2]),h⟩
        · replace h:=h.2 hp9;exact zd hp9 (yag (j _ _ _ ⟨h,rfl,rfl,(hS.sel [1,0])⟩))
    · replace h:=h.2 hp7;refine zV rfl rfl (zC (zB (decide_eq_false hp7))) (zV rfl rfl (zC (zB (decide_eq_false hp7))) (zV rfl rfl (zC (zB (decide_eq_false hp7))) (zq (yas (v:=(.bool (true))) (zC (zB (decide_eq_false hp7))) rfl) (zM (.bool (true)) (zU (zU (zq (yas (v:=(.bool (true))) rfl rfl) (yaa (yar rfl (zs (zQ (ii 0) (zQ (.slice none 0 0) (zQ (ii 12) (yaa ?_))))))))))))));replace hS:=hS.addro 2 rfl _ (yhe cI _ _);exact ybR rfl rfl rfl rfl ⟨_,_,_,_,_,_,rfl,(hS.sel [2]),h⟩
  · replace h:=h.2 hp;refine zf hp (zs (zM (ii r) (zQ (ii 0) (zQ (.slice none 0 0) (zQ (ii r) (yaa ?_))))));replace hS:=hS.addro 2 rfl _ (yhe cI _ _);exact ybR rfl rfl rfl rfl ⟨_,_,_,_,_,_,rfl,(hS.sel [2]),h⟩
def ycL(g:Int)(g2:List E3)(R:(List (List Int))→Int→Prop):Prop :=
ybd g g2 (fun r =>
((r=0 →
(∃ I2:Nat→(List (List Int))→Int→Prop,(∃ m0,I2 m0 ([]) 0)∧∀ m2 out v,I2 m2 out v → 
((v<g →
(out.length+1≤1000000000 ∧
(In64 (v+1) ∧
∃ m3,m3<m2∧I2 m3 (out++[[v]]) (v+1)))) ∧
(¬(v<g) →
R out 0)))) ∧
(¬(r=0) →
R ([]) r)))
theorem yho{O:Nat→Prop}{w:World}{g g2 Ag lg cg}{R:(List (List Int))→Int→Prop}(h:ycL g g2 R)(hO:∀ k,O k→k<w.heap.size)(hA0:(FP.sl c3 Ag lg cg g2).P O w) :
    Calls Tryz.prog 33 #[(.agg #[(ii g),(.slice Ag lg cg)])] w fun e w'=>∃ r2 r3 Ar lr cr,e = .returned (.tuple #[(.slice Ar lr cr),(ii r3)])∧Sep w no O w' (rl [Res.own (cL cI) 29 Ar lr cr r2])∧R r2 r3:=by
  unfold ycL at h;have hS:Sep w no O w (rl [Res.ro (FP.sl c3 Ag lg cg g2)]):=Sep.startl hO [(FP.sl c3 Ag lg cg g2)] ⟨hA0,trivial⟩;refine yap (l:=[(.agg #[(ii g),(.slice Ag lg cg)])]) func33 rfl ntmps33 zY (zs (zn (ya8 (v:=(.agg #[(ii g),(.slice Ag lg cg)])) rfl ?_)));intro g3 w2 hN;replace hS:Sep w no O w2 (stl _ 1 (Res.box 24 g3 [(ii g),(.slice Ag lg cg)])):=hS.new 1 rfl hN;clear hN;refine zb (zQ (.slice none 0 0) (zQ (ii 0) (yaa (yaf (zs (zq (yaq (vs:=[(ii g),(.slice Ag lg cg)]) rfl underlying24 rfl yao ⟨Row.cell (hS.bx 1 rfl) (i:=0) rfl,Row.cell (hS.bx 1 rfl) (i:=1) rfl,trivial⟩) (zn (yam rfl (am1 rfl) yhH ((ybP h (yaB _) (hS.rdr 0 rfl)).mono ?_)))))))));rintro _ w3 ⟨r,rfl,hC,h⟩;replace hS:=hS.pur hC.pure;clear hC;refine ⟨_,rfl,?_⟩;refine zb (zQ (ii r) (yaa (zs (zM (ii r) (zq zN (yaa ?_))))));by_cases hp:r=0
  · replace h:=h.1 hp;refine ze hp (yag (zs (zQ (.slice none 0 0) (yaa (yaf (zs (zq (yan rfl underlying24 rfl yaj) (zq (zl underlying3 (Row.cell (hS.bx 1 rfl) (i:=0) rfl)) (zM (ii 0) (yaa (yai ?_)))))))))));replace hS:=hS.nil 2 rfl (cL cI) 29;obtain ⟨I2,⟨m0,h0⟩,hr⟩:=h;refine yaz (fun m E ds w'=>∃ out v Aa Ab Ac,I2 m out v∧ds=[]∧E 5=(Value.slice Aa Ab Ac)∧E 13=(ii g)∧E 14=(ii v)∧Sep w no O w' (rl [Res.own (cL cI) 29 Aa Ab Ac out])) m0 ⟨_,_,_,_,_,h0,rfl,rfl,rfl,rfl,(hS.sel [2])⟩ ?_;clear h0 hS;rintro m2 E ds w4 ⟨out,v,Aa,Ab,Ac,h,rfl,H5,H13,H14,hS⟩ ag;replace h:=hr m2 out v h;clear hr;refine zs (zq (ydj H14 H13) (yaa (yaf ?_)));by_cases hp2:v<g
    · replace h:=h.1 hp2;refine zc hp2 (yag (yaf (yai (zs (zq (yad H14) (zQ (ii v) (yaa (zr (zq (yad H5) (zM (ii v) (zn (yaX (l:=[(0,(ii v))]) (cells:=[(ii v)]) (bp1 rfl) underlying29 yaj rfl rfl ?_))))))))))));intro g4 w5 hN;replace hS:=hS.litf (n:=1) 1 rfl (fI .i64) hN ([v]:List Int) rfl (by decide) rfl;clear hN;refine zb ?_;replace hS:=hS.frz 1 rfl;refine zn (yaX (l:=[(0,(.slice (some ⟨g4,0,none⟩) 1 1))]) (cells:=[(.slice (some ⟨g4,0,none⟩) 1 1)]) (bp1 rfl) underlying25 yaL rfl rfl ?_);intro g5 w6 hN;replace hS:=hS.lit (n:=1) (c:=(cL cI)) 2 rfl hN ([[v]]:List (List Int)) rfl (by decide) ⟨[(.slice (some ⟨g4,0,none⟩) 1 1)],_,rfl,(ro_R (hS.ro 1 rfl)),rfl⟩;clear hN;refine zb ?_;obtain ⟨hx,h⟩:=h;refine zn (ygp (c:=(cL cI)) rfl rfl underlying25 underlying25 yaL rfl rfl (by decide) hS 0 rfl (hS.yo 2 rfl) hx ?_);clear hS;intro A c w7 hS;refine zb (zQ (.slice A (Ab+1) c) (yaa (yah (zr ?_))));obtain ⟨hi,h⟩:=h;refine zq (ybS H14 rfl hi) (zM (ii (v+1)) (yaa ?_));obtain ⟨mq,hlt,h⟩:=h;exact ag mq _ _ _ ⟨_,_,_,_,_,h,rfl,rfl,H13,rfl,(hS.sel [0])⟩ hlt
    · replace h:=h.2 hp2;exact zd hp2 (yax rfl (zs (zq (yad H5) (zQ (.slice Aa Ab Ac) (zQ (ii 0) (yaa (yaG rfl rfl rfl ⟨_,_,_,_,_,rfl,(hS.sel [0]),h⟩)))))))
  · replace h:=h.2 hp;refine zf hp (zs (zM (ii r) (zQ (.slice none 0 0) (zQ (ii r) (yaa ?_)))));replace hS:=hS.nil 2 rfl (cL cI) 29;exact yaG rfl rfl rfl ⟨_,_,_,_,_,rfl,(hS.sel [2]),h⟩
end Go.Proofs.YtadpnlimiblniaaGreat

/- Table, whose rows stay one's own; printed by tab.py. -/
namespace Go.Proofs.YtadpnlimiblniaaGreat
open Go Go.RowKit Go.Shelf Go.Proofs.Tryz
set_option maxRecDepth 100000
end Go.Proofs.YtadpnlimiblniaaGreat

/- Pure forms of functions, made by program (pf.py), each with the proof that the code does so. -/
namespace Go.Proofs.YtadpnlimiblniaaGreat
open Go Go.RowKit Go.Shelf Go.Proofs.Tryz
set_option maxRecDepth 100000
set_option maxHeartbeats 8000000
def yeH(g:Int)(g2:List E3)(R:Int→Prop):Prop :=
ydy g g2 (fun r =>
((r=0 →
ycz g g2 (fun r2 =>
((r2=true →
R 0) ∧
(¬(r2=true) →
R 13)))) ∧
(¬(r=0) →
R r)))
theorem yj3{O:Nat→Prop}{w:World}{g g2 Ag lg cg}{R:Int→Prop}(h:yeH g g2 R)(hO:∀ k,O k→k<w.heap.size)(hA0:(FP.sl c3 Ag lg cg g2).P O w) :
    Calls Tryz.prog 43 #[(.agg #[(ii g),(.slice Ag lg cg)])] w fun e w'=>∃ r3,e = .returned (ii r3)∧Sep w no O w' (rl [])∧R r3:=by
  unfold yeH at h;have hS:Sep w no O w (rl [Res.ro (FP.sl c3 Ag lg cg g2)]):=Sep.startl hO [(FP.sl c3 Ag lg cg g2)] ⟨hA0,trivial⟩;refine yap (l:=[(.agg #[(ii g),(.slice Ag lg cg)])]) func43 rfl ntmps43 zY (zs (zn (ya8 (v:=(.agg #[(ii g),(.slice Ag lg cg)])) rfl ?_)));intro g3 w2 hN;replace hS:Sep w no O w2 (stl _ 1 (Res.box 24 g3 [(ii g),(.slice Ag lg cg)])):=hS.new 1 rfl hN;clear hN;refine zb (zQ (ii 0) (yaa (yaf (zs (zq (yaq (vs:=[(ii g),(.slice Ag lg cg)]) rfl underlying24 rfl yao ⟨Row.cell (hS.bx 1 rfl) (i:=0) rfl,Row.cell (hS.bx 1 rfl) (i:=1) rfl,trivial⟩) (zn (yam rfl (am1 rfl) enter_90 ((yhz h (yaB _) (hS.rdr 0 rfl)).mono ?_))))))));rintro _ w3 ⟨r,rfl,hC,h⟩;replace hS:=hS.pur hC.pure;clear hC;refine ⟨_,rfl,?_⟩;refine zb (zQ (ii r) (yaa (zs (zM (ii r) (zq zN (yaa ?_))))));by_cases hp:r=0
  · replace h:=h.1 hp;refine ze hp (yag (yaf (zs (zq (yaq (vs:=[(ii g),(.slice Ag lg cg)]) rfl underlying24 rfl yao ⟨Row.cell (hS.bx 1 rfl) (i:=0) rfl,Row.cell (hS.bx 1 rfl) (i:=1) rfl,trivial⟩) (zn (yam rfl (am1 rfl) enter_91 ((yfF h (yaB _) (hS.rdr 0 rfl)).mono ?_)))))));rintro _ w4 ⟨r2,rfl,hC,h⟩;replace hS:=hS.pur hC.pure;clear hC;refine ⟨_,rfl,?_⟩;refine zb (zq (ycX rfl) (yaa ?_));by_cases hp2:r2=true
    · replace h:=h.1 hp2;exact yat (zC (zB hp2)) (yag (zs (zQ (ii 0) (yaa (yak rfl rfl ⟨_,rfl,(hS.sel []),h⟩)))))
    · replace h:=h.2 hp2;exact yar (zC (zB (zI hp2))) (zs (zQ (ii 13) (yaa (yak rfl rfl ⟨_,rfl,(hS.sel []),h⟩))))
  · replace h:=h.2 hp;exact zf hp (zs (zM (ii r) (zQ (ii r) (yaa (yak rfl rfl ⟨_,rfl,(hS.sel []),h⟩)))))
def ylB(s:List E3)(Ff:Int→Int→Int→(Bool→Prop)→Prop)(R:Int→Prop):Prop :=
(∃ I2:Nat→Int→Prop,(∃ m0,I2 m0 0)∧∀ m2 v,I2 m2 v → 
((v<(s.length:Int) →
((0≤v∧v<(s.length:Int)) ∧
Ff ((ge s v.toNat).1) ((ge s v.toNat).2.1) ((ge s v.toNat).2.2) (fun (r:Bool) =>
((r=true →
R v) ∧
(¬(r=true) →
(In64 (v+1) ∧
∃ m3,m3<m2∧I2 m3 (v+1))))))) ∧
(¬(v<(s.length:Int)) →
R (-1))))
theorem ylF{O:Nat→Prop}{w:World}{s:List (Int×Int×Int)}{Ff:Int→Int→Int→(Bool→Prop)→Prop}{As:Option Addr}{ls:Nat}{cs:Nat}{f:Value}{R:Int→Prop}(h:ylB s Ff R)(hO:∀ k,O k→k<w.heap.size)(hA0:(FP.sl c3 As ls cs s).P O w)(hA1:(FP.st fun w'=>∃ (fid:Nat) (us:Array Value),f=Value.func (.func fid) #[] us∧Enters Tryz.prog fid∧∀ (x0:Int) (x02:Int) (x03:Int) (R:Bool→Prop),Ff x0 x02 x03 R→Calls Tryz.prog fid (#[(Value.agg #[(Value.int .i64 x0),(Value.int .i64 x02),(Value.int .i64 x03)])]++us) w' fun e w''=>∃ r0:Bool,e = .returned (Value.bool (r0))∧Sep w' no no w'' (rl [])∧R r0).P O w) :
    Calls Tryz.prog 132 #[(.slice As ls cs),f] w fun e w'=>∃ r2,e = .returned (ii r2)∧Sep w no O w' (rl [])∧R r2:=by
  unfold ylB at h;have hS:Sep w no O w (rl [Res.ro (FP.sl c3 As ls cs s),Res.ro (FP.st fun w'=>∃ (fid:Nat) (us:Array Value),f=Value.func (.func fid) #[] us∧Enters Tryz.prog fid∧∀ (x0:Int) (x02:Int) (x03:Int) (R:Bool→Prop),Ff x0 x02 x03 R→Calls Tryz.prog fid (#[(Value.agg #[(Value.int .i64 x0),(Value.int .i64 x02),(Value.int .i64 x03)])]++us) w' fun e w''=>∃ r0:Bool,e = .returned (Value.bool (r0))∧Sep w' no no w'' (rl [])∧R r0)]):=Sep.startl hO [(FP.sl c3 As ls cs s),(FP.st fun w'=>∃ (fid:Nat) (us:Array Value),f=Value.func (.func fid) #[] us∧Enters Tryz.prog fid∧∀ (x0:Int) (x02:Int) (x03:Int) (R:Bool→Prop),Ff x0 x02 x03 R→Calls Tryz.prog fid (#[(Value.agg #[(Value.int .i64 x0),(Value.int .i64 x02),(Value.int .i64 x03)])]++us) w' fun e w''=>∃ r0:Bool,e = .returned (Value.bool (r0))∧Sep w' no no w'' (rl [])∧R r0)] ⟨hA0,hA1,trivial⟩;refine yap (l:=[(Value.slice As ls cs),f]) func132 rfl ntmps132 (Nat.le_of_ble_eq_true rfl) ?_;refine yaf ?_;refine yay yaD ?_;refine rl_q rfl rfl rfl (ybI (v:=(.int .i64 0)) rfl) ?_;refine yaa ?_;refine yaf ?_;refine yaf ?_;refine yay yaD ?_;refine rl_q rfl rfl rfl (yad (v:=(.slice As ls cs)) rfl) ?_;refine rl_q rfl rfl rfl (yaF (n:=s.length) rfl underlying22 (yaE (hS.rdr 0 rfl))) ?_;refine rl_q rfl rfl rfl (yad (v:=(.int .i64 0)) rfl) ?_;refine yaa ?_;refine yai ?_;obtain ⟨I2,⟨m0,h0⟩,hr⟩:=h;refine yaz (fun m E ds w'=>∃ v:Int,I2 m v∧ds=[]∧E 0=(Value.slice As ls cs)∧E 1=f∧E 7=(Value.int .i64 ((s.length:Nat):Int))∧E 8=(Value.int .i64 v)∧Sep w no O w' (rl [Res.ro (FP.sl c3 As ls cs s),Res.ro (FP.st fun w'=>∃ (fid:Nat) (us:Array Value),f=Value.func (.func fid) #[] us∧Enters Tryz.prog fid∧∀ (x0:Int) (x02:Int) (x03:Int) (R:Bool→Prop),Ff x0 x02 x03 R→Calls Tryz.prog fid (#[(Value.agg #[(Value.int .i64 x0),(Value.int .i64 x02),(Value.int .i64 x03)])]++us) w' fun e w''=>∃ r0:Bool,e = .returned (Value.bool (r0))∧Sep w' no no w'' (rl [])∧R r0)])) m0 ⟨_,h0,rfl,rfl,rfl,rfl,rfl,(hS.sel [0,1] (by decide))⟩ ?_;clear h0 hS;rintro m2 E ds w2 ⟨v,h,rfl,H0,H1,H7,H8,hS⟩ ag;replace h:=hr m2 v h;clear hr;refine yaf ?_;refine yay yaD ?_;refine rl_q rfl rfl rfl (ydj H8 H7) ?_;refine yaa ?_;refine yaf ?_;by_cases hp:v<((s.length:Nat):Int)
  · replace h:=h.1 hp;refine zc hp (yag (yaf (yai (zs (zq (yad H8) (zQ (ii v) (yaa (zs (zq (yad H1) (zq (yad H0) (zM (ii v) ?_)))))))))));obtain ⟨hx,h⟩:=h;refine zq (zi underlying22 yaK (yaP (hS.rdr 0 rfl) hx)) (zq (yaq (vs:=[(ii ((ge s v.toNat).1)),(ii ((ge s v.toNat).2.1)),(ii ((ge s v.toNat).2.2))]) rfl underlying79 rfl yaK (rd_fs (hS.rdr 0 rfl) hx (fun q=>ydu q))) ?_);obtain ⟨fid,us,hf,he,hcl⟩:=hS.ro 1 rfl _ (Keeps.refl _ _);replace h:=hcl _ _ _ _ h;clear hcl;refine zn (ydx (hf) (am1 rfl) he (h.mono ?_));clear hf he;rintro _ w3 ⟨r,rfl,hC,h⟩;replace hS:=hS.pur hC.pure;clear hC;refine ⟨_,rfl,?_⟩;refine zb (yaa ?_);by_cases hp2:r=true
    · replace h:=h.1 hp2;exact yar (zC hp2) (zs (zM (ii v) (zQ (ii v) (yaa (yak rfl rfl ⟨_,rfl,(hS.sel []),h⟩)))))
    · replace h:=h.2 hp2;refine yat (zC (zI hp2)) (yag (yah (zr ?_)));obtain ⟨hi,h⟩:=h;refine zq (ybS H8 rfl hi) (zM (ii (v+1)) (yaa ?_));obtain ⟨mq,hlt,h⟩:=h;exact ag mq _ _ _ ⟨_,h,rfl,H0,H1,H7,rfl,(hS.sel [0,1])⟩ hlt
  · replace h:=h.2 hp;exact zd hp (yax rfl (zs (zQ (ii (-1)) (yaa (yak rfl rfl ⟨_,rfl,(hS.sel []),h⟩)))))
def ylu(s:List E3)(Ff:Int→Int→Int→(Bool→Prop)→Prop)(R:Bool→Prop):Prop :=
ylB s Ff (fun r =>
R (decide (0≤r)))
theorem ylC{O:Nat→Prop}{w:World}{s:List (Int×Int×Int)}{Ff:Int→Int→Int→(Bool→Prop)→Prop}{As:Option Addr}{ls:Nat}{cs:Nat}{f:Value}{R:Bool→Prop}(h:ylu s Ff R)(hO:∀ k,O k→k<w.heap.size)(hA0:(FP.sl c3 As ls cs s).P O w)(hA1:(FP.st fun w'=>∃ (fid:Nat) (us:Array Value),f=Value.func (.func fid) #[] us∧Enters Tryz.prog fid∧∀ (x0:Int) (x02:Int) (x03:Int) (R:Bool→Prop),Ff x0 x02 x03 R→Calls Tryz.prog fid (#[(Value.agg #[(Value.int .i64 x0),(Value.int .i64 x02),(Value.int .i64 x03)])]++us) w' fun e w''=>∃ r0:Bool,e = .returned (Value.bool (r0))∧Sep w' no no w'' (rl [])∧R r0).P O w) :
    Calls Tryz.prog 97 #[(.slice As ls cs),f] w fun e w'=>∃ r2,e = .returned (.bool (r2))∧Sep w no O w' (rl [])∧R r2:=by
  unfold ylu at h;have hS:Sep w no O w (rl [Res.ro (FP.sl c3 As ls cs s),Res.ro (FP.st fun w'=>∃ (fid:Nat) (us:Array Value),f=Value.func (.func fid) #[] us∧Enters Tryz.prog fid∧∀ (x0:Int) (x02:Int) (x03:Int) (R:Bool→Prop),Ff x0 x02 x03 R→Calls Tryz.prog fid (#[(Value.agg #[(Value.int .i64 x0),(Value.int .i64 x02),(Value.int .i64 x03)])]++us) w' fun e w''=>∃ r0:Bool,e = .returned (Value.bool (r0))∧Sep w' no no w'' (rl [])∧R r0)]):=Sep.startl hO [(FP.sl c3 As ls cs s),(FP.st fun w'=>∃ (fid:Nat) (us:Array Value),f=Value.func (.func fid) #[] us∧Enters Tryz.prog fid∧∀ (x0:Int) (x02:Int) (x03:Int) (R:Bool→Prop),Ff x0 x02 x03 R→Calls Tryz.prog fid (#[(Value.agg #[(Value.int .i64 x0),(Value.int .i64 x02),(Value.int .i64 x03)])]++us) w' fun e w''=>∃ r0:Bool,e = .returned (Value.bool (r0))∧Sep w' no no w'' (rl [])∧R r0)] ⟨hA0,hA1,trivial⟩;refine yap (l:=[(Value.slice As ls cs),f]) func97 rfl ntmps97 (Nat.le_of_ble_eq_true rfl) ?_;refine yaf ?_;refine yay yaD ?_;refine rl_q rfl rfl rfl (ybI (v:=(.bool (false))) rfl) ?_;refine yaa ?_;refine yaf ?_;refine yay yaD ?_;refine rl_q rfl rfl rfl (yad (v:=(.slice As ls cs)) rfl) ?_;refine rl_q rfl rfl rfl (yad (v:=f) rfl) ?_;refine rl_n rfl rfl rfl rfl (yam rfl (am2 rfl rfl) enter_132 ((ylF h (yaB _) (hS.rdr 0 rfl) (FP.sub _ (hS.ro 1 rfl) (fun _ _ h=>h.elim):FP.P _ no _)).mono ?_));rintro _ w2 ⟨r,rfl,hC,h⟩;replace hS:=hS.pur hC.pure;clear hC;refine ⟨_,rfl,?_⟩;refine ⟨Stb.none _,?_⟩;refine rl_q rfl rfl rfl (yiF rfl rfl) ?_;refine rl_q rfl rfl rfl (ybI (v:=(.bool (decide (0≤r)))) rfl) ?_;refine yaa ?_;exact yak rfl rfl ⟨_,rfl,(hS.sel [] (by decide)),h⟩
def ylz(s1:List Int)(s2:List Int)(R:Int→Prop):Prop :=
(∃ I2:Nat→Int→Prop,(∃ m0,I2 m0 0)∧∀ m2 v,I2 m2 v → 
((v<(s1.length:Int) →
((0≤v∧v<(s1.length:Int)) ∧
(((s2.length:Int)≤v →
R 1) ∧
(¬((s2.length:Int)≤v) →
((0≤v∧v<(s2.length:Int)) ∧
ybC (gi s1 v.toNat) (gi s2 v.toNat) (fun r =>
((r=0 →
(In64 (v+1) ∧
∃ m3,m3<m2∧I2 m3 (v+1))) ∧
(¬(r=0) →
R r)))))))) ∧
(¬(v<(s1.length:Int)) →
(((s1.length:Int)<(s2.length:Int) →
R (-1)) ∧
(¬((s1.length:Int)<(s2.length:Int)) →
R 0)))))
theorem ylJ{O:Nat→Prop}{w:World}{s1 s2 As1 ls1 cs1 As2 ls2 cs2}{R:Int→Prop}(h:ylz s1 s2 R)(hO:∀ k,O k→k<w.heap.size)(hA0:(FP.sl cI As1 ls1 cs1 s1).P O w)(hA1:(FP.sl cI As2 ls2 cs2 s2).P O w) :
    Calls Tryz.prog 101 #[(.slice As1 ls1 cs1),(.slice As2 ls2 cs2)] w fun e w'=>∃ r2,e = .returned (ii r2)∧Sep w no O w' (rl [])∧R r2:=by
  unfold ylz at h;have hS:Sep w no O w (rl [Res.ro (FP.sl cI As1 ls1 cs1 s1),Res.ro (FP.sl cI As2 ls2 cs2 s2)]):=Sep.startl hO [(FP.sl cI As1 ls1 cs1 s1),(FP.sl cI As2 ls2 cs2 s2)] ⟨hA0,hA1,trivial⟩;refine yap (l:=[(.slice As1 ls1 cs1),(.slice As2 ls2 cs2)]) func101 rfl ntmps101 zY (zs (zQ (ii 0) (yaa (yaf (zs (zM (.slice As1 ls1 cs1) (zq (yaF (n:=s1.length) rfl underlying29 (yaE (hS.rdr 0 rfl))) (zM (ii 0) (yaa (yai ?_))))))))));obtain ⟨I2,⟨m0,h0⟩,hr⟩:=h;refine yaz (fun m E ds w'=>∃ v,I2 m v∧ds=[]∧E 0=(Value.slice As1 ls1 cs1)∧E 1=(Value.slice As2 ls2 cs2)∧E 9=(Value.slice As1 ls1 cs1)∧E 10=(ii (s1.length:Int))∧E 11=(ii v)∧Sep w no O w' (rl [Res.ro (FP.sl cI As1 ls1 cs1 s1),Res.ro (FP.sl cI As2 ls2 cs2 s2)])) m0 ⟨_,h0,rfl,rfl,rfl,rfl,rfl,rfl,(hS.sel [0,1])⟩ ?_;clear h0 hS;rintro m2 E ds w2 ⟨v,h,rfl,H0,H1,H9,H10,H11,hS⟩ ag;replace h:=hr m2 v h;clear hr;refine zs (zq (ydj H11 H10) (yaa (yaf ?_)));by_cases hp:v<(s1.length:Int)
  · replace h:=h.1 hp;refine zc hp (yag (yaf (yai (zs (zq (yad H11) ?_)))));obtain ⟨hx,h⟩:=h;refine zq (ycI H9 H11 underlying29 yaj (yaP (hS.rdr 0 rfl) hx)) (zq (yau (v:=(ii (gi s1 v.toNat))) rfl underlying3 rfl (rd_1 (hS.rdr 0 rfl) hx (fun q=>yaY q) rfl)) ?_);refine zQ (ii v) (zQ (ii (gi s1 v.toNat)) (yaa (yaf (zs (zM (ii v) (zq (yad H1) (zq (yaF (n:=s2.length) rfl underlying29 (yaE (hS.rdr 1 rfl))) (zq (yiF rfl rfl) (yaa ?_)))))))));by_cases hp2:(s2.length:Int)≤v
    · replace h:=h.1 hp2;exact zc hp2 (zs (zQ (ii 1) (yaa (yak rfl rfl ⟨_,rfl,(hS.sel []),h⟩))))
    · replace h:=h.2 hp2;refine zd hp2 (yag (zs (zq (yad H1) (zM (ii v) ?_))));obtain ⟨hx2,h⟩:=h;refine zq (zi underlying29 yaj (yaP (hS.rdr 1 rfl) hx2)) (zq (yau (v:=(ii (gi s2 v.toNat))) rfl underlying3 rfl (rd_1 (hS.rdr 1 rfl) hx2 (fun q=>yaY q) rfl)) ?_);refine zQ (ii (gi s2 v.toNat)) (yaa (zs (zM (ii (gi s1 v.toNat)) (zM (ii (gi s2 v.toNat)) (zn (yam rfl (am2 rfl rfl) ylO ((yeT h (yaB _)).mono ?_)))))));rintro _ w3 ⟨r,rfl,hC,h⟩;replace hS:=hS.pur hC.pure;clear hC;refine ⟨_,rfl,?_⟩;refine zb (zQ (ii r) (yaa (zs (zM (ii r) (zq zN (yaa ?_))))));by_cases hp3:r=0
      · replace h:=h.1 hp3;refine ze hp3 (yag (yah (zr ?_)));obtain ⟨hi,h⟩:=h;refine zq (ybS H11 rfl hi) (zM (ii (v+1)) (yaa ?_));obtain ⟨mq,hlt,h⟩:=h;exact ag mq _ _ _ ⟨_,h,rfl,H0,H1,H9,H10,rfl,(hS.sel [0,1])⟩ hlt
      · replace h:=h.2 hp3;exact zf hp3 (zs (zM (ii r) (zQ (ii r) (yaa (yak rfl rfl ⟨_,rfl,(hS.sel []),h⟩)))))
  · replace h:=h.2 hp;refine zd hp (yax rfl (yaf (zs (zq (yad H0) (zq (yaF (n:=s1.length) rfl underlying29 (yaE (hS.rdr 0 rfl))) (zq (yad H1) (zq (yaF (n:=s2.length) rfl underlying29 (yaE (hS.rdr 1 rfl))) (zq zL (yaa ?_)))))))));by_cases hp4:(s1.length:Int)<(s2.length:Int)
    · replace h:=h.1 hp4;exact zc hp4 (zs (zQ (ii (-1)) (yaa (yak rfl rfl ⟨_,rfl,(hS.sel []),h⟩))))
    · replace h:=h.2 hp4;exact zd hp4 (yag (zs (zQ (ii 0) (yaa (yak rfl rfl ⟨_,rfl,(hS.sel []),h⟩)))))
def ylx(d:Int)(d2:List E3)(R:Int→(List Int)→Int→Prop):Prop :=
ybK d d2 (fun r =>
((r=0 →
((d=1 →
R 0 ([]) 14) ∧
(¬(d=1) →
((0≤d∧d<64) ∧
In64 (1*2^d.toNat) ∧
(In64 ((1*2^d.toNat)-1) ∧
(∃ I2:Nat→Int→(List Int)→Int→Prop,(∃ m0,I2 m0 (-1) ([]) 0)∧∀ m2 v v2 v3,I2 m2 v v2 v3 → 
((v3<((1*2^d.toNat)-1) →
((0≤v3∧v3<9223372036854775808∧0≤(1:Int)∧(1:Int)<9223372036854775808) ∧
((((v3.toNat &&& (1:Int).toNat:Nat):Int)=0 →
(In64 (v3+1) ∧
∃ m3,m3<m2∧I2 m3 v v2 (v3+1))) ∧
(¬(((v3.toNat &&& (1:Int).toNat:Nat):Int)=0) →
(∃ I3:Nat→Int→Int→Prop,(∃ m0,I3 m0 0 0)∧∀ m4 v4 v5,I3 m4 v4 v5 → 
((v5<(d2.length:Int) →
((0≤v5∧v5<(d2.length:Int)) ∧
((0≤((ge d2 v5.toNat).1)∧((ge d2 v5.toNat).1)<64) ∧
((0≤(v3 / 2^((ge d2 v5.toNat).1).toNat)∧(v3 / 2^((ge d2 v5.toNat).1).toNat)<9223372036854775808∧0≤(1:Int)∧(1:Int)<9223372036854775808) ∧
((0≤((ge d2 v5.toNat).2.1)∧((ge d2 v5.toNat).2.1)<64) ∧
((0≤(v3 / 2^((ge d2 v5.toNat).2.1).toNat)∧(v3 / 2^((ge d2 v5.toNat).2.1).toNat)<9223372036854775808∧0≤(1:Int)∧(1:Int)<9223372036854775808) ∧
(((((v3 / 2^((ge d2 v5.toNat).1).toNat).toNat &&& (1:Int).toNat:Nat):Int)=(((v3 / 2^((ge d2 v5.toNat).2.1).toNat).toNat &&& (1:Int).toNat:Nat):Int) →
(In64 (v5+1) ∧
∃ m5,m5<m4∧I3 m5 v4 (v5+1))) ∧
(¬((((v3 / 2^((ge d2 v5.toNat).1).toNat).toNat &&& (1:Int).toNat:Nat):Int)=(((v3 / 2^((ge d2 v5.toNat).2.1).toNat).toNat &&& (1:Int).toNat:Nat):Int)) →
(In64 (v4+((ge d2 v5.toNat).2.2)) ∧
(In64 (v5+1) ∧
∃ m6,m6<m4∧I3 m6 (v4+((ge d2 v5.toNat).2.2)) (v5+1))))))))))) ∧
(¬(v5<(d2.length:Int)) →
(∃ J2:Prop,(J2→(∃ I4:Nat→(List Int)→Int→Prop,(∃ m0,I4 m0 ([]) 0)∧∀ m7 v6 v7,I4 m7 v6 v7 → 
((v7<d →
((0≤v7∧v7<64) ∧
((0≤(v3 / 2^v7.toNat)∧(v3 / 2^v7.toNat)<9223372036854775808∧0≤(1:Int)∧(1:Int)<9223372036854775808) ∧
(((((v3 / 2^v7.toNat).toNat &&& (1:Int).toNat:Nat):Int)=1 →
(v6.length+1≤1000000000 ∧
(In64 (v7+1) ∧
∃ m8,m8<m7∧I4 m8 (v6++[v7]) (v7+1)))) ∧
(¬((((v3 / 2^v7.toNat).toNat &&& (1:Int).toNat:Nat):Int)=1) →
(In64 (v7+1) ∧
∃ m9,m9<m7∧I4 m9 v6 (v7+1))))))) ∧
(¬(v7<d) →
((v4<v →
(In64 (v3+1) ∧
∃ m10,m10<m2∧I2 m10 v4 v6 (v3+1))) ∧
(¬(v4<v) →
((v<0 →
(In64 (v3+1) ∧
∃ m11,m11<m2∧I2 m11 v4 v6 (v3+1))) ∧
(¬(v<0) →
ylz v6 v2 (fun r2 =>
((r2<0 →
(In64 (v3+1) ∧
∃ m12,m12<m2∧I2 m12 v4 v6 (v3+1))) ∧
(¬(r2<0) →
(In64 (v3+1) ∧
∃ m13,m13<m2∧I2 m13 v v2 (v3+1))))))))))))) ∧
((0≤v →
((v<v4 →
(In64 (v3+1) ∧
∃ m14,m14<m2∧I2 m14 v v2 (v3+1))) ∧
(¬(v<v4) →
J2))) ∧
(¬(0≤v) →
J2)))))))))) ∧
(¬(v3<((1*2^d.toNat)-1)) →
R v v2 0)))))))) ∧
(¬(r=0) →
R 0 ([]) r)))
theorem ylI{O:Nat→Prop}{w:World}{d d2 Ad ld cd}{R:Int→(List Int)→Int→Prop}(h:ylx d d2 R)(hO:∀ k,O k→k<w.heap.size)(hA0:(FP.sl c3 Ad ld cd d2).P O w) :
    Calls Tryz.prog 51 #[(.agg #[(ii d),(.slice Ad ld cd)])] w fun e w'=>∃ r3 r4 r5 Ar lr cr,e = .returned (.tuple #[(ii r3),(.slice Ar lr cr),(ii r5)])∧Sep w no O w' (rl [Res.own cI 3 Ar lr cr r4])∧R r3 r4 r5:=by
  unfold ylx at h;have hS:Sep w no O w (rl [Res.ro (FP.sl c3 Ad ld cd d2)]):=Sep.startl hO [(FP.sl c3 Ad ld cd d2)] ⟨hA0,trivial⟩;refine yap (l:=[(.agg #[(ii d),(.slice Ad ld cd)])]) func51 rfl ntmps51 zY (zs (zn (ya8 (v:=(.agg #[(ii d),(.slice Ad ld cd)])) rfl ?_)));intro g w2 hN;replace hS:Sep w no O w2 (stl _ 1 (Res.box 24 g [(ii d),(.slice Ad ld cd)])):=hS.new 1 rfl hN;clear hN;refine zb (zQ (ii 0) (zQ (.slice none 0 0) (zQ (ii 0) (yaa (yaf (zs (zq (yaq (vs:=[(ii d),(.slice Ad ld cd)]) rfl underlying24 rfl yao ⟨Row.cell (hS.bx 1 rfl) (i:=0) rfl,Row.cell (hS.bx 1 rfl) (i:=1) rfl,trivial⟩) (zn (yam rfl (am1 rfl) yhI ((ydH h (yaB _) (hS.rdr 0 rfl)).mono ?_))))))))));rintro _ w3 ⟨r,rfl,hC,h⟩;replace hS:=hS.pur hC.pure;clear hC;refine ⟨_,rfl,?_⟩;refine zb (zQ (ii r) (yaa (zs (zM (ii r) (zq zN (yaa ?_))))));by_cases hp:r=0
  · replace h:=h.1 hp;refine ze hp (yag (yaf (zs (zq (yan rfl underlying24 rfl yaj) (zq (zl underlying3 (Row.cell (hS.bx 1 rfl) (i:=0) rfl)) (zq zE (yaa ?_)))))));by_cases hp2:d=1
    · replace h:=h.1 hp2;refine zc hp2 (zs (zQ (ii 0) (zQ (.slice none 0 0) (zQ (ii 14) (yaa ?_)))));replace hS:=hS.nil 2 rfl cI 3;exact ybR rfl rfl rfl rfl ⟨_,_,_,_,_,_,rfl,(hS.sel [2]),h⟩
    · replace h:=h.2 hp2;refine zd hp2 (yag (zs (zQ (ii (-1)) (yaa (zs (zQ (.slice none 0 0) (yaa (yaf (zs (zq (yan rfl underlying24 rfl yaj) (zq (zl underlying3 (Row.cell (hS.bx 1 rfl) (i:=0) rfl)) ?_)))))))))));obtain ⟨hz,h⟩:=h;obtain ⟨hi,h⟩:=h;refine zq (v_shl rfl rfl hz hi) ?_;obtain ⟨hi2,h⟩:=h;refine zq (zS hi2) (zM (ii 0) (yaa (yai ?_)));replace hS:=hS.nil 2 rfl cI 3;obtain ⟨I2,⟨m0,h0⟩,hr⟩:=h;refine yaz (fun m E ds w'=>∃ v v2 v3 Av lv cv,I2 m v v2 v3∧ds=[]∧E 1=(Value.pointer (some ⟨g,0,none⟩))∧E 6=(ii v)∧E 7=(Value.slice Av lv cv)∧E 25=(ii ((1*2^d.toNat)-1))∧E 26=(ii v3)∧Sep w no O w' (rl [Res.own cI 3 Av lv cv v2,Res.box 24 g [(ii d),(.slice Ad ld cd)],Res.ro (FP.sl c3 Ad ld cd d2)])) m0 ⟨_,_,_,_,_,_,h0,rfl,rfl,rfl,rfl,rfl,rfl,(hS.sel [2,1,0])⟩ ?_;clear h0 hS;rintro m2 E ds w4 ⟨v,v2,v3,Av,lv,cv,h,rfl,H1,H6,H7,H25,H26,hS⟩ ag;replace h:=hr m2 v v2 v3 h;clear hr;refine zs (zq (ydj H26 H25) (yaa (yaf ?_)));by_cases hp3:v3<((1*2^d.toNat)-1)
      · replace h:=h.1 hp3;refine zc hp3 (yag (yaf (yai (zs (zq (yad H26) (zQ (ii v3) (yaa (yaf (zs (zM (ii v3) ?_))))))))));obtain ⟨hz2,h⟩:=h;refine zq (v_andb rfl rfl hz2) (zq zE (yaa ?_));by_cases hp4:((v3.toNat &&& (1:Int).toNat:Nat):Int)=0
        · replace h:=h.1 hp4;refine zc hp4 (yax rfl (zr ?_));obtain ⟨hi3,h⟩:=h;refine zq (ybS H26 rfl hi3) (zM (ii (v3+1)) (yaa ?_));obtain ⟨mq,hlt,h⟩:=h;exact ag mq _ _ _ ⟨_,_,_,_,_,_,h,rfl,H1,H6,H7,H25,rfl,(hS.sel [0,1,2])⟩ hlt
        · replace h:=h.2 hp4;refine zd hp4 (yag (zs (zQ (ii 0) (yaa (yaf (zs (zq (yan H1 underlying24 rfl ybv) (zq (zl underlying22 (Row.cell (hS.bx 1 rfl) (i:=1) rfl)) (zq (yaF (n:=d2.length) rfl underlying22 (yaE (hS.rdr 2 rfl))) (zM (ii 0) (yaa (yai ?_))))))))))));obtain ⟨I3,⟨m0,h0⟩,hr⟩:=h;refine yaz (fun m E ds w'=>∃ v4 v5,I3 m v4 v5∧ds=[]∧E 1=(Value.pointer (some ⟨g,0,none⟩))∧E 6=(ii v)∧E 7=(Value.slice Av lv cv)∧E 8=(ii v3)∧E 9=(ii v4)∧E 25=(ii ((1*2^d.toNat)-1))∧E 26=(ii v3)∧E 33=(Value.slice Ad ld cd)∧E 34=(ii (d2.length:Int))∧E 35=(ii v5)∧Sep w no O w' (rl [Res.box 24 g [(ii d),(.slice Ad ld cd)],Res.ro (FP.sl c3 Ad ld cd d2),Res.own cI 3 Av lv cv v2])) m0 ⟨_,_,h0,rfl,H1,H6,H7,rfl,rfl,H25,H26,rfl,rfl,rfl,(hS.sel [1,2,0])⟩ ?_;clear h0 hS;rintro m4 E ds w5 ⟨v4,v5,h,rfl,H1,H6,H7,H8,H9,H25,H26,H33,H34,H35,hS⟩ again2;replace h:=hr m4 v4 v5 h;clear hr;refine zs (zq (ydj H35 H34) (yaa (yaf ?_)));by_cases hp5:v5<(d2.length:Int)
          · replace h:=h.1 hp5;refine zc hp5 (yag (yaf (yai (zs ?_))));obtain ⟨hx,h⟩:=h;refine zq (ycI H33 H35 underlying22 yaK (yaP (hS.rdr 1 rfl) hx)) (zq (yaq (vs:=[(ii ((ge d2 v5.toNat).1)),(ii ((ge d2 v5.toNat).2.1)),(ii ((ge d2 v5.toNat).2.2))]) rfl underlying79 rfl yaK (rd_fs (hS.rdr 1 rfl) hx (fun q=>ydu q))) ?_);refine zn (yaO yaK ?_);intro g2 w6 hN;replace hS:Sep w no O w6 (stl _ 3 (Res.box 79 g2 [(ii 0),(ii 0),(ii 0)])):=hS.new 3 rfl hN;clear hN;refine zb (zo (yaV (b:=g2) (o:=0) (cells:=#[(ii ((ge d2 v5.toNat).1)),(ii ((ge d2 v5.toNat).2.1)),(ii ((ge d2 v5.toNat).2.2))]) rfl rfl yaK rfl rfl (yaI (hS.bx 3 rfl) zY) ?_));intro w7 e1;replace hS:=hS.bstn 3 rfl 0 [(ii ((ge d2 v5.toNat).1)),(ii ((ge d2 v5.toNat).2.1)),(ii ((ge d2 v5.toNat).2.2))] e1;clear e1;refine zb (yaa (yaf (yaT [0,1,2,3,4,5,6,7,8,9,10] st0 yaD (by kernel_rfl) (by kernel_rfl) ?_)));replace hS:=hS.drew;refine zp (yad H8) (zp (yan rfl underlying79 rfl yaj) (zp (zl underlying3 (Row.cell (hS.bx 3 rfl) (i:=0) rfl)) ?_));obtain ⟨hz3,h⟩:=h;refine zp (v_shr rfl rfl hz3) ?_;obtain ⟨hz4,h⟩:=h;refine zp (v_andb rfl rfl hz4) (zp (yad H8) (zp (yan rfl underlying79 rfl yaj) (zp (zl underlying3 (Row.cell (hS.bx 3 rfl) (i:=1) rfl)) ?_)));obtain ⟨hz5,h⟩:=h;refine zp (v_shr rfl rfl hz5) ?_;obtain ⟨hz6,h⟩:=h;refine zp (v_andb rfl rfl hz6) (zp zN (yaZ ?_));by_cases hp6:(((v3 / 2^((ge d2 v5.toNat).1).toNat).toNat &&& (1:Int).toNat:Nat):Int)=(((v3 / 2^((ge d2 v5.toNat).2.1).toNat).toNat &&& (1:Int).toNat:Nat):Int)
            · replace h:=h.1 hp6;refine ze hp6 (yag (yah (zr ?_)));obtain ⟨hi4,h⟩:=h;refine zq (ybS H35 rfl hi4) (zM (ii (v5+1)) (yaa ?_));obtain ⟨mq,hlt,h⟩:=h;exact again2 mq _ _ _ ⟨_,_,h,rfl,H1,H6,H7,H8,H9,H25,H26,H33,H34,rfl,(hS.sel [0,1,2])⟩ hlt
            · replace h:=h.2 hp6;refine zf hp6 (zr (zq (yad H9) (zq (yan rfl underlying79 rfl yaj) (zq (zl underlying3 (Row.cell (hS.bx 3 rfl) (i:=2) rfl)) ?_))));obtain ⟨hi5,h⟩:=h;refine zq (zA hi5) (zQ (ii (v4+((ge d2 v5.toNat).2.2))) (yaa (yah (zr ?_))));obtain ⟨hi6,h⟩:=h;refine zq (ybS H35 rfl hi6) (zM (ii (v5+1)) (yaa ?_));obtain ⟨mq,hlt,h⟩:=h;exact again2 mq _ _ _ ⟨_,_,h,rfl,H1,H6,H7,H8,rfl,H25,H26,H33,H34,rfl,(hS.sel [0,1,2])⟩ hlt
          · replace h:=h.2 hp5;refine zd hp5 (yax rfl (yaf (yaf ?_)));obtain ⟨J2,hJ,h⟩:=h;refine yc1 (fun E ds w'=>J2∧ds=[]∧E 1=(Value.pointer (some ⟨g,0,none⟩))∧E 6=(ii v)∧E 7=(Value.slice Av lv cv)∧E 8=(ii v3)∧E 9=(ii v4)∧E 25=(ii ((1*2^d.toNat)-1))∧E 26=(ii v3)∧Sep w no O w' (rl [Res.box 24 g [(ii d),(.slice Ad ld cd)],Res.ro (FP.sl c3 Ad ld cd d2),Res.own cI 3 Av lv cv v2])) ?_ ?_
            · clear h hS;rintro E ds w8 ⟨h,rfl,H1,H6,H7,H8,H9,H25,H26,hS⟩;replace h:=hJ h;refine zs (zQ (.slice none 0 0) (yaa (yaf (zs (zq (yan H1 underlying24 rfl yaj) (zq (zl underlying3 (Row.cell (hS.bx 0 rfl) (i:=0) rfl)) (zM (ii 0) (yaa (yai ?_)))))))));replace hS:=hS.nil 3 rfl cI 3;obtain ⟨I4,⟨m0,h0⟩,hr⟩:=h;refine yaz (fun m E ds w'=>∃ v6 v7 Av2 lv2 cv2,I4 m v6 v7∧ds=[]∧E 1=(Value.pointer (some ⟨g,0,none⟩))∧E 6=(ii v)∧E 7=(Value.slice Av lv cv)∧E 8=(ii v3)∧E 9=(ii v4)∧E 12=(Value.slice Av2 lv2 cv2)∧E 25=(ii ((1*2^d.toNat)-1))∧E 26=(ii v3)∧E 63=(ii d)∧E 64=(ii v7)∧Sep w no O w' (rl [Res.own cI 3 Av2 lv2 cv2 v6,Res.box 24 g [(ii d),(.slice Ad ld cd)],Res.ro (FP.sl c3 Ad ld cd d2),Res.own cI 3 Av lv cv v2])) m0 ⟨_,_,_,_,_,h0,rfl,H1,H6,H7,H8,H9,rfl,H25,H26,rfl,rfl,(hS.sel [3,0,1,2])⟩ ?_;clear h0 hS;rintro m7 E ds w9 ⟨v6,v7,Av2,lv2,cv2,h,rfl,H1,H6,H7,H8,H9,H12,H25,H26,H63,H64,hS⟩ again3;replace h:=hr m7 v6 v7 h;clear hr;refine zs (zq (ydj H64 H63) (yaa (yaf ?_)));by_cases hp7:v7<d
              · replace h:=h.1 hp7;refine zc hp7 (yag (yaf (yai (zs (zq (yad H64) (zQ (ii v7) (yaa (zs (zq (yad H8) (zM (ii v7) ?_))))))))));obtain ⟨hz7,h⟩:=h;refine zq (v_shr rfl rfl hz7) ?_;obtain ⟨hz8,h⟩:=h;refine zq (v_andb rfl rfl hz8) (zq zE (yaa ?_));by_cases hp8:(((v3 / 2^v7.toNat).toNat &&& (1:Int).toNat:Nat):Int)=1
                · replace h:=h.1 hp8;refine zc hp8 (zr (zq (yad H12) (zM (ii v7) (zn (yaX (l:=[(0,(ii v7))]) (cells:=[(ii v7)]) (bp1 rfl) underlying29 yaj rfl rfl ?_)))));intro g3 w10 hN;replace hS:=hS.litf (n:=1) 4 rfl (fI .i64) hN ([v7]:List Int) rfl (by decide) rfl;clear hN;refine zb ?_;obtain ⟨hx2,h⟩:=h;refine zn (ygp (c:=cI) rfl rfl underlying29 underlying29 yaj rfl rfl (by decide) hS 0 rfl (hS.yo 4 rfl) hx2 ?_);clear hS;intro A c w11 hS;refine zb (zQ (.slice A (lv2+1) c) (yaa (yah (zr ?_))));obtain ⟨hi7,h⟩:=h;refine zq (ybS H64 rfl hi7) (zM (ii (v7+1)) (yaa ?_));obtain ⟨mq,hlt,h⟩:=h;exact again3 mq _ _ _ ⟨_,_,_,_,_,h,rfl,H1,H6,H7,H8,H9,rfl,H25,H26,H63,rfl,(hS.sel [0,1,2,3])⟩ hlt
                · replace h:=h.2 hp8;refine zd hp8 (yag (yah (zr ?_)));obtain ⟨hi8,h⟩:=h;refine zq (ybS H64 rfl hi8) (zM (ii (v7+1)) (yaa ?_));obtain ⟨mq,hlt,h⟩:=h;exact again3 mq _ _ _ ⟨_,_,_,_,_,h,rfl,H1,H6,H7,H8,H9,H12,H25,H26,H63,rfl,(hS.sel [0,1,2,3])⟩ hlt
              · replace h:=h.2 hp7;refine zd hp7 (yax rfl (zs (zq (yad H9) (zq (yad H6) (zq zL (zM (.bool (decide (v4<v))) ?_))))));by_cases hp9:v4<v
                · replace h:=h.1 hp9;refine zV rfl rfl (zT hp9) (zV rfl rfl (zT hp9) (zq (yas (v:=(.bool (true))) (zT hp9) rfl) (zM (.bool (true)) (zU (zU (zU (zU (zq (yas (v:=(.bool (true))) rfl rfl) (yaa (yar rfl (zr (zq (yad H9) (zq (yad H12) (zQ (ii v4) (zQ (.slice Av2 lv2 cv2) (yaa (yah (zr ?_))))))))))))))))));obtain ⟨hi9,h⟩:=h;refine zq (ybS H26 rfl hi9) (zM (ii (v3+1)) (yaa ?_));obtain ⟨mq,hlt,h⟩:=h;exact ag mq _ _ _ ⟨_,_,_,_,_,_,h,rfl,H1,rfl,rfl,H25,rfl,(hS.sel [0,1,2])⟩ hlt
                · replace h:=h.2 hp9;refine zW rfl rfl (zF hp9) (yad H6) (zW rfl rfl (zF hp9) zL (zq (yal (v:=(.bool (decide (v<0)))) (zF hp9) rfl) (zM (.bool (decide (v<0))) ?_)));by_cases hp10:v<0
                  · replace h:=h.1 hp10;refine zV rfl rfl (zT hp10) (zV rfl rfl (zT hp10) (zV rfl rfl (zT hp10) (zV rfl rfl (zT hp10) (zq (yas (v:=(.bool (true))) (zT hp10) rfl) (yaa (yar rfl (zr (zq (yad H9) (zq (yad H12) (zQ (ii v4) (zQ (.slice Av2 lv2 cv2) (yaa (yah (zr ?_))))))))))))));obtain ⟨hi10,h⟩:=h;refine zq (ybS H26 rfl hi10) (zM (ii (v3+1)) (yaa ?_));obtain ⟨mq,hlt,h⟩:=h;exact ag mq _ _ _ ⟨_,_,_,_,_,_,h,rfl,H1,rfl,rfl,H25,rfl,(hS.sel [0,1,2])⟩ hlt
                  · replace h:=h.2 hp10;refine zW rfl rfl (zF hp10) (yad H12) (zW rfl rfl (zF hp10) (yad H7) (rl_n (yae rfl (yac rfl (zF hp10))) rfl rfl rfl (yam rfl (am2 rfl rfl) enter_101 ((ylJ h (yaB _) (hS.rdo 0 rfl) (hS.rdo 3 rfl)).mono ?_))));rintro _ w12 ⟨r2,rfl,hC,h⟩;replace hS:=hS.pur hC.pure;clear hC;refine ⟨_,rfl,?_⟩;refine zb (zW rfl rfl (zF hp10) zL (zq (yal (v:=(.bool (decide (r2<0)))) (zF hp10) rfl) (yaa ?_)));by_cases hp11:r2<0
                    · replace h:=h.1 hp11;refine zc hp11 (zr (zq (yad H9) (zq (yad H12) (zQ (ii v4) (zQ (.slice Av2 lv2 cv2) (yaa (yah (zr ?_))))))));obtain ⟨hi11,h⟩:=h;refine zq (ybS H26 rfl hi11) (zM (ii (v3+1)) (yaa ?_));obtain ⟨mq,hlt,h⟩:=h;exact ag mq _ _ _ ⟨_,_,_,_,_,_,h,rfl,H1,rfl,rfl,H25,rfl,(hS.sel [0,1,2])⟩ hlt
                    · replace h:=h.2 hp11;refine zd hp11 (yag (yah (zr ?_)));obtain ⟨hi12,h⟩:=h;refine zq (ybS H26 rfl hi12) (zM (ii (v3+1)) (yaa ?_));obtain ⟨mq,hlt,h⟩:=h;exact ag mq _ _ _ ⟨_,_,_,_,_,_,h,rfl,H1,H6,H7,H25,rfl,(hS.sel [3,1,2])⟩ hlt
            clear hJ;intro j;refine zr (zq (yad H6) (zq (yiF rfl rfl) (zM (.bool (decide (0≤v))) ?_)));by_cases hp12:0≤v
            · replace h:=h.1 hp12;refine zW rfl rfl (zT hp12) (yad H9) (zW rfl rfl (zT hp12) (yad H6) (zW rfl rfl (zT hp12) zG (zq (yas (v:=(.bool (decide (v<v4)))) (zT hp12) rfl) (yaa ?_))));by_cases hp13:v<v4
              · replace h:=h.1 hp13;refine zc hp13 (yax rfl (zr ?_));obtain ⟨hi13,h⟩:=h;refine zq (ybS H26 rfl hi13) (zM (ii (v3+1)) (yaa ?_));obtain ⟨mq,hlt,h⟩:=h;exact ag mq _ _ _ ⟨_,_,_,_,_,_,h,rfl,H1,H6,H7,H25,rfl,(hS.sel [2,0,1])⟩ hlt
              · replace h:=h.2 hp13;exact zd hp13 (yag (j _ _ _ ⟨h,rfl,H1,H6,H7,H8,H9,H25,H26,(hS.sel [0,1,2])⟩))
            · replace h:=h.2 hp12;exact zV rfl rfl (zF hp12) (zV rfl rfl (zF hp12) (zV rfl rfl (zF hp12) (zq (yal (v:=(.bool (false))) (zF hp12) rfl) (yaa (yat rfl (yag (j _ _ _ ⟨h,rfl,H1,H6,H7,H8,H9,H25,H26,(hS.sel [0,1,2])⟩)))))))
      · replace h:=h.2 hp3;exact zd hp3 (yax rfl (zs (zq (yad H6) (zq (yad H7) (zQ (ii v) (zQ (.slice Av lv cv) (zQ (ii 0) (yaa (ybR rfl rfl rfl rfl ⟨_,_,_,_,_,_,rfl,(hS.sel [0]),h⟩)))))))))
  · replace h:=h.2 hp;refine zf hp (zs (zM (ii r) (zQ (ii 0) (zQ (.slice none 0 0) (zQ (ii r) (yaa ?_))))));replace hS:=hS.nil 2 rfl cI 3;exact ybR rfl rfl rfl rfl ⟨_,_,_,_,_,_,rfl,(hS.sel [2]),h⟩
end Go.Proofs.YtadpnlimiblniaaGreat

/- The forms of layer 40 so far. -/

/- The graph with some single edges: the reference and the program. -/
namespace Go.Proofs.YtadpnlimiblniaaGreat
open Go Go.RowKit Go.Shelf Go.Proofs.Tryz
def cellJ(T:List (List Int))(k j:Nat):Option E3:=if 0<gi (gx T k) (k+j) then some ((k:Int),((k+j:Nat):Int),gi (gx T k) (k+j)) else none
def rowJ(d:Nat)(T:List (List Int))(k:Nat):List E3:=(List.range (d-k)).filterMap (cellJ T k)
def yf2(d:Nat)(T:List (List Int)):List E3:=(List.range d).flatMap (rowJ d T)
def isE(a b:Int)(e:Int×Int):Bool:=decide (mnF e.1 e.2=a∧mxF e.1 e.2=b)
def cntE(l:List (Int×Int))(a b:Int):Int:=(l.countP (isE a b):Int)
def rowT(d:Nat)(l:List (Int×Int))(a:Nat):List Int:=(List.range d).map fun (b:Nat)=>cntE l (a:Int) (b:Int)
def tabE(d:Nat)(l:List (Int×Int)):List (List Int):=(List.range d).map (rowT d l)
theorem rowT_len(d:Nat)(l:List (Int×Int))(a:Nat):(rowT d l a).length=d:=by simp [rowT]
theorem tabE_len(d:Nat)(l:List (Int×Int)):(tabE d l).length=d:=by simp [tabE]
theorem gx_tabE{d:Nat}{l:List (Int×Int)}{a:Nat}(h:a<d):gx (tabE d l) a=rowT d l a:=by
  rw [yc3 (by rw [tabE_len];exact h)];simp [tabE]
theorem gi_rowT{d:Nat}{l:List (Int×Int)}{a b:Nat}(h:b<d):gi (rowT d l a) b=cntE l a b:=by
  rw [yaN (by rw [rowT_len];exact h)];simp [rowT]
theorem yjx(l:List (Int×Int))(e:Int×Int)(a b:Int):cntE (l++[e]) a b=cntE l a b+if mnF e.1 e.2=a∧mxF e.1 e.2=b then 1 else 0:=by
  unfold cntE
  rw [List.countP_append]
  by_cases h:mnF e.1 e.2=a∧mxF e.1 e.2=b
  · simp [List.countP_cons,isE,h]
  · simp [List.countP_cons,isE,h]
theorem cntE_nn(l:List (Int×Int))(a b:Int):0≤cntE l a b:=Int.natCast_nonneg _
structure BagOk(d:Nat)(l:List (Int×Int))(M:List (List Int×Int)):Prop where
  key:KOk 2 M
  at_:∀ p∈M,∃ a b:Nat,a≤b∧b<d∧p.1=[(a:Int),(b:Int)]∧p.2=cntE l a b∧0<p.2
  get:∀ a b:Int,(mget M [a,b]).getD 0=cntE l a b
  len:M.length≤l.length
theorem BagOk.nil(d:Nat):BagOk d [] []:=⟨KOk.nil 2,fun p h=>by simp at h,fun a b=>by simp [mget,cntE],Nat.le_refl _⟩
theorem keyOk2{d a b:Nat}(hd:d≤12)(h1:a≤b)(h2:b<d):yia 2 [(a:Int),(b:Int)]:=by
  refine ⟨rfl,fun x hx=>?_⟩
  simp only [List.mem_cons,List.not_mem_nil,or_false] at hx
  rcases hx with rfl | rfl <;> exact ⟨by omega,by omega⟩
theorem BagOk.put{d:Nat}{l:List (Int×Int)}{M:List (List Int×Int)}(h:BagOk d l M)(hd:d≤12){e:Int×Int}{a b:Nat}(h1:a≤b)(h2:b<d)(ha:mnF e.1 e.2=a)(hb:mxF e.1 e.2=b):BagOk d (l++[e]) (mput M [(a:Int),(b:Int)] (cntE l a b+1)):=by
  have hk:=h.key.put (keyOk2 hd h1 h2) (cntE l a b+1)
  refine ⟨hk,fun p hp=>?_,fun x y=>?_,by have:=h.len;rw [yjB,List.length_append,List.length_singleton];split <;> omega⟩
  · obtain ⟨j,hj⟩:=List.getElem?_of_mem hp
    have hg:=mget_at hk.1 (k:=p.1) (v:=p.2) hj
    rw [yh0] at hg
    by_cases q:[(a:Int),(b:Int)]=p.1
    · rw [if_pos q] at hg
      refine ⟨a,b,h1,h2,q.symm,?_,?_⟩
      · rw [yjx,if_pos ⟨ha,hb⟩];exact (Option.some.inj hg).symm
      · rw [←Option.some.inj hg];have:=cntE_nn l a b;omega
    · rw [if_neg q] at hg
      obtain ⟨x,y,h3,h4,h5,h6,h7⟩:=h.at_ _ (yiR hg)
      refine ⟨x,y,h3,h4,h5,?_,h7⟩
      rw [yjx,if_neg,Int.add_zero]
      · exact h6
      · rintro ⟨q1,q2⟩
        rw [ha] at q1;rw [hb] at q2
        have h5:p.1=[(x:Int),(y:Int)]:=h5
        exact q (by rw [h5,q1,q2])
  · rw [yh0,yjx,ha,hb,←h.get x y]
    by_cases q:(a:Int)=x∧(b:Int)=y
    · rw [if_pos (by rw [q.1,q.2]),if_pos q,h.get x y,←q.1,←q.2];rfl
    · rw [if_neg (fun z=>q (by simpa using z)),if_neg q,Int.add_zero]
def eM(p:List Int×Int):E3:=(gi p.1 0,gi p.1 1,p.2)
theorem nodupN_le:∀ {l K:List Nat},l.Nodup→(∀ x∈l,x∈K)→l.length≤K.length
  | [],K,_,_=>Nat.zero_le _
  | a::t,K,hn,hs=>by
    rw [List.nodup_cons] at hn
    have ha:a∈K:=hs a (by simp)
    have h2:=nodupN_le (l:=t) (K:=K.erase a) hn.2 fun x hx=>(List.mem_erase_of_ne (by rintro rfl;exact hn.1 hx)).2 (hs x (by simp [hx]))
    rw [List.length_erase_of_mem ha] at h2
    have:0<K.length:=List.length_pos_of_mem ha
    rw [List.length_cons];omega
theorem seen_lt{n j:Nat}{seen:List Nat}(hn:seen.Nodup)(hs:∀ x∈seen,x<n)(hj:j<n)(hnj:j∉seen):seen.length<n:=by
  have:=nodupN_le (l:=j::seen) (K:=List.range n) (List.nodup_cons.2 ⟨hnj,hn⟩) fun x hx=>by
    rcases List.mem_cons.1 hx with rfl | hx
    · exact List.mem_range.2 hj
    · exact List.mem_range.2 (hs x hx)
  simp at this;omega
theorem yji{d:Nat}{l:List (Int×Int)}{x:E3} : x∈yf2 d (tabE d l)↔∃ a b:Nat,a≤b∧b<d∧0<cntE l a b∧x=((a:Int),(b:Int),cntE l a b):=by
  unfold yf2
  simp only [List.mem_flatMap,List.mem_range,rowJ,List.mem_filterMap]
  constructor
  · rintro ⟨a,ha,j,hj,hx⟩
    unfold cellJ at hx
    rw [gx_tabE ha,gi_rowT (by omega)] at hx
    split at hx
    · rename_i hp
      exact ⟨a,a+j,by omega,by omega,hp,(Option.some.inj hx).symm⟩
    · cases hx
  · rintro ⟨a,b,h1,h2,h3,rfl⟩
    refine ⟨a,by omega,b-a,by omega,?_⟩
    unfold cellJ
    rw [gx_tabE (by omega),gi_rowT (by omega),show a+(b-a)=b by omega,if_pos h3]
def ltE(x y:E3):Prop:=x.1<y.1∨x.1=y.1∧x.2.1<y.2.1
theorem ygS{d:Nat}{T:List (List Int)} : (yf2 d T).Pairwise ltE:=by
  unfold yf2
  rw [List.pairwise_flatMap]
  refine ⟨fun a _=>?_,?_⟩
  · unfold rowJ
    refine List.Pairwise.filterMap (R:=fun a b=>a<b) (S:=ltE) (cellJ T a) ?_ List.pairwise_lt_range
    intro x y hxy u hu v hv
    unfold cellJ at hu hv
    split at hu
    · split at hv
      · cases hu;cases hv
        refine .inr ⟨rfl,?_⟩
        show ((a+x:Nat):Int)<((a+y:Nat):Int)
        omega
      · cases hv
    · cases hu
  · refine List.pairwise_lt_range.imp ?_
    intro a b hab u hu v hv
    simp only [rowJ,List.mem_filterMap] at hu hv
    obtain ⟨x,_,hu⟩:=hu
    obtain ⟨y,_,hv⟩:=hv
    unfold cellJ at hu hv
    split at hu
    · split at hv
      · cases hu;cases hv
        refine .inl ?_
        show (a:Int)<(b:Int)
        omega
      · cases hv
    · cases hu
theorem BagOk.mem{d:Nat}{l:List (Int×Int)}{M:List (List Int×Int)}(h:BagOk d l M)(x:E3):x∈M.map eM↔x∈yf2 d (tabE d l):=by
  rw [yji,List.mem_map]
  constructor
  · rintro ⟨p,hp,rfl⟩
    obtain ⟨a,b,h1,h2,h3,h4,h5⟩:=h.at_ p hp
    exact ⟨a,b,h1,h2,by rw [←h4];exact h5,by unfold eM;rw [h3,h4];rfl⟩
  · rintro ⟨a,b,h1,h2,h3,rfl⟩
    have hg:=h.get a b
    cases hq:mget M [(a:Int),(b:Int)] with
    | none=>rw [hq] at hg;simp at hg;omega
    | some v =>
      rw [hq] at hg
      have hg:v=cntE l a b:=hg
      exact ⟨_,yiR hq,by unfold eM;rw [hg];rfl⟩
theorem BagOk.nodup{d:Nat}{l:List (Int×Int)}{M:List (List Int×Int)}(h:BagOk d l M):(M.map eM).Nodup:=by
  unfold List.Nodup
  rw [List.pairwise_map]
  refine h.key.1.imp_of_mem ?_
  intro p q hp hq hne he
  obtain ⟨a,b,_,_,h3,_,_⟩:=h.at_ p hp
  obtain ⟨a',b',_,_,h3',_,_⟩:=h.at_ q hq
  apply hne
  unfold eM at he
  rw [h3,h3'] at he ⊢
  have e1:(a:Int)=a':=congrArg Prod.fst he
  have e2:(b:Int)=b':=congrArg (fun z:E3=>z.2.1) he
  rw [e1,e2]
theorem sorted_unique{d:Nat}{T:List (List Int)}{zs:List E3}(hp:zs.Perm (yf2 d T))(hs:zs.Pairwise (fun a b=>¬ydR b.1 b.2.1 a.1 a.2.1<0)):zs=yf2 d T:=by
  have hsd:=ygS (d:=d) (T:=T)
  have hJ:(yf2 d T).Pairwise (fun a b:E3=>¬ydR b.1 b.2.1 a.1 a.2.1<0):=hsd.imp fun {a b} h=>by
    rw [yf4]
    unfold ltE at h
    omega
  refine List.Perm.eq_of_pairwise (le:=fun a b:E3=>¬ydR b.1 b.2.1 a.1 a.2.1<0) (fun a b ha hb h1 h2=>?_) hs hJ hp
  rw [yf4] at h1 h2
  have ha:=hp.subset ha
  have e:a.1=b.1∧a.2.1=b.2.1:=by omega
  rcases Classical.em (a=b) with q | q
  · exact q
  · exfalso
    have key:∀ x y:E3,x∈yf2 d T→y∈yf2 d T→x≠y→x.1=y.1∧x.2.1=y.2.1→False:=by
      intro x y hx hy hne he
      have p1:(yf2 d T).Pairwise (fun x y:E3=>x≠y→¬(x.1=y.1∧x.2.1=y.2.1)):=hsd.imp fun {a b} h _ he=>by unfold ltE at h;omega
      have p2:(yf2 d T).Pairwise (flip fun x y:E3=>x≠y→¬(x.1=y.1∧x.2.1=y.2.1)):=hsd.imp fun {a b} h=>by
        show b≠a→¬(b.1=a.1∧b.2.1=a.2.1)
        intro _ he;unfold ltE at h;omega
      have:=List.Pairwise.forall_of_forall_of_flip (R:=fun x y:E3=>x≠y→¬(x.1=y.1∧x.2.1=y.2.1)) (fun z _ h=>absurd rfl h) p1 p2
      exact this hx hy hne he
    exact key a b ha hb q e
theorem p_bag_graph{d:Nat}{l:List (Int×Int)}{M:List (List Int×Int)}(h:BagOk d l M)(hn:l.length≤4096){R:Int→List E3→Prop}(hR:R d (yf2 d (tabE d l))):ycK M d R:=by
  have hML:=h.len
  refine ⟨fun m g seen=>seen.Nodup∧(∀ j∈seen,j<M.length)∧g=seen.map (fun j=>eM (M.getD j default))∧m+seen.length=M.length,⟨M.length,List.nodup_nil,by simp,rfl,by simp⟩,?_⟩
  rintro m g seen ⟨h1,h2,rfl,h3⟩
  refine ⟨h.key,fun j ka kb kv hj hns=>?_,fun hall=>?_⟩
  · have hjl:j<M.length:=(List.getElem?_eq_some_iff.1 hj).1
    have hlt:=seen_lt h1 h2 hjl hns
    refine ⟨by rw [List.length_map];omega,m-1,by omega,?_,?_,?_,?_⟩
    · rw [List.nodup_append]
      exact ⟨h1,by simp,fun a ha b hb=>by rw [List.mem_singleton] at hb;subst hb;exact fun q=>hns (q▸ha)⟩
    · intro x hx
      rcases List.mem_append.1 hx with hx | hx
      · exact h2 x hx
      · rw [List.mem_singleton] at hx;subst hx;exact hjl
    · rw [List.map_append]
      simp [List.getD_eq_getElem?_getD,hj,eM,gi]
    · rw [List.length_append,List.length_singleton];omega
  · have hp:seen.Perm (List.range M.length):=(List.perm_ext_iff_of_nodup h1 List.nodup_range).2 fun a=>⟨fun q=>List.mem_range.2 (h2 a q),fun q=>hall a (List.mem_range.1 q)⟩
    have he:(List.range M.length).map (fun j=>eM (M.getD j default))=M.map eM:=by
      apply List.ext_getElem?
      intro k
      by_cases hk:k<M.length
      · simp [hk,List.getD_eq_getElem?_getD]
      · simp [hk]
    have hp2:(seen.map fun j=>eM (M.getD j default)).Perm (yf2 d (tabE d l)):=by
      refine (hp.map _).trans ?_
      rw [he]
      exact (List.perm_ext_iff_of_nodup h.nodup (ygS.imp fun {a b} q=>by rintro rfl;unfold ltE at q;omega)).2 h.mem
    refine ⟨by rw [List.length_map];have:=seen.length;omega,fun zs hz hs=>?_⟩
    rw [sorted_unique (hz.trans hp2) hs]
    exact hR
end Go.Proofs.YtadpnlimiblniaaGreat

/- The facts of a graph that is made of ends: in normal form, its size, its degrees (the latter half of XGn, where layer 38 is in the seat too). -/
namespace Go.Proofs.YtadpnlimiblniaaGreat
open Go Go.RowKit Go.Shelf Go.Proofs.Tryz
def EndsOk(d:Nat)(l:List (Int×Int)):Prop:=∀ e∈l,(0≤e.1∧e.1<d)∧0≤e.2∧e.2<d
def made(d:Nat)(l:List (Int×Int)):List E3:=yf2 d (tabE d l)
theorem gchk_zero{n:Int} : ∀ (es:List E3) (a b:Int),(∀ x∈es,(0≤x.1∧x.1<n)∧(0≤x.2.1∧x.2.1<n)∧1≤x.2.2∧x.2.2≤50∧x.1≤x.2.1)→es.Pairwise ltE→(∀ x∈es,ydR a b x.1 x.2.1<0)→gchk n a b es=0
  | [],_,_,_,_,_=>rfl
  | x::t,a,b,h,hp,h0=>by
    have hx:=h x (by simp)
    rw [gchk,if_pos ⟨hx.1,hx.2.1,hx.2.2.1,hx.2.2.2.1⟩,if_pos ⟨hx.2.2.2.2,h0 x (by simp)⟩]
    rw [List.pairwise_cons] at hp
    exact gchk_zero t _ _ (fun y hy=>h y (by simp [hy])) hp.2 fun y hy=>yf4.2 (by have:=hp.1 y hy;unfold ltE at this;exact this)
theorem made_ok{d:Nat}(h1:1≤d)(hd:d≤12){l:List (Int×Int)}(hm:∀ a b,cntE l a b≤50):yav d (made d l)=0:=by
  unfold yav
  rw [if_pos (by omega)]
  refine gchk_zero _ _ _ (fun x hx=>?_) ygS fun x hx=>?_
  · obtain ⟨a,b,h2,h3,h4,rfl⟩:=yji.1 hx
    have:=hm a b
    simp only
    omega
  · obtain ⟨a,b,h2,h3,h4,rfl⟩:=yji.1 hx
    exact yf4.2 (.inl (by simp only;omega))
theorem mn_nat{d:Nat}{e:Int×Int}(h:(0≤e.1∧e.1<d)∧0≤e.2∧e.2<d):∃ a b:Nat,mnF e.1 e.2=a∧mxF e.1 e.2=b∧a≤b∧b<d:=by
  refine ⟨(mnF e.1 e.2).toNat,(mxF e.1 e.2).toNat,?_,?_,?_,?_⟩ <;> simp only [mnF,mxF] <;> (try split) <;> (try split) <;> omega
def Joins(l:List (Int×Int))(v u:Nat):Prop:=((v:Int),(u:Int))∈l∨((u:Int),(v:Int))∈l
theorem W_made{d:Nat}{l:List (Int×Int)}(h1:1≤d)(hd:d≤12)(hm:∀ a b,cntE l a b≤50){v u:Nat}(hv:v<d)(hu:u<d)(hne:v≠u):W (made d l) v u=cntE l (mnF v u) (mxF v u):=by
  have hg:=made_ok h1 hd hm
  rw [←yjy v u hne _ (-1) (-1) (ydZ hg)]
  obtain ⟨a,b,ha,hb,hab,hbd⟩:=mn_nat (d:=d) (e:=((v:Int),(u:Int))) ⟨⟨by omega,by simp only;omega⟩,by omega,by simp only;omega⟩
  simp only at ha hb
  rw [ha,hb]
  cases hf:(made d l).find? fun x=>decide (x.1=(a:Int)∧x.2.1=(b:Int)) with
  | none =>
    have h0:=cntE_nn l a b
    rcases Classical.em (0<cntE l a b) with q | q
    · have:=List.find?_eq_none.1 hf _ (yji.2 ⟨a,b,hab,hbd,q,rfl⟩)
      simp at this
    · simp;omega
  | some x =>
    have hx:=List.mem_of_find?_eq_some hf
    have hp:=List.find?_some hf
    simp only [decide_eq_true_eq] at hp
    obtain ⟨a',b',_,_,_,rfl⟩:=yji.1 hx
    simp only at hp
    simp [hp.1,hp.2]
end Go.Proofs.YtadpnlimiblniaaGreat

/- Sets of vertices and the graphs on them: the program and the reference. -/
namespace Go.Proofs.YtadpnlimiblniaaGreat
open Go Go.RowKit Go.Shelf Go.Proofs.Tryz
def ydU(n:Int)(l:List Int)(i:Nat):Int:=if 0≤gi l i∧gi l i<n then (if 0<i∧gi l i≤gi l (i-1) then 9 else 0) else 2
def subR(n:Int)(l:List Int):Nat→Nat→Int
  | 0,_=>0
  | k+1,i=>if ydU n l i=0 then subR n l k (i+1) else ydU n l i
def subF(n:Int)(l:List Int):Int:=subR n l l.length 0
theorem subR_zero{n:Int}{l:List Int} : ∀ (k i:Nat),subR n l k i=0↔∀ j,i≤j→j<i+k→ydU n l j=0
  | 0,i=>by simp [subR];intro j h1 h2;omega
  | k+1,i=>by
    rw [subR]
    by_cases c:ydU n l i=0
    · rw [if_pos c,subR_zero k (i+1)]
      refine ⟨fun h j h1 h2=>?_,fun h j h1 h2=>h j (by omega) (by omega)⟩
      by_cases e:j=i
      · rw [e];exact c
      · exact h j (by omega) (by omega)
    · rw [if_neg c]
      exact ⟨fun h=>absurd h c,fun h=>absurd (h i (Nat.le_refl _) (by omega)) c⟩
theorem subF_zero{n:Int}{l:List Int} : subF n l=0↔(∀ k,k<l.length→0≤gi l k∧gi l k<n)∧∀ k,k+1<l.length→gi l k<gi l (k+1):=by
  unfold subF
  rw [subR_zero]
  constructor
  · intro h
    refine ⟨fun k hk=>?_,fun k hk=>?_⟩
    · have:=h k (by omega) (by omega)
      unfold ydU at this
      split at this
      · assumption
      · cases this
    · have:=h (k+1) (by omega) (by omega)
      unfold ydU at this
      split at this
      · split at this
        · cases this
        · rename_i c
          exact Int.not_le.1 fun q=>c ⟨by omega,by simpa using q⟩
      · cases this
  · rintro ⟨h1,h2⟩ j _ hj
    unfold ydU
    rw [if_pos (h1 j (by omega)),if_neg]
    rintro ⟨q1,q2⟩
    obtain ⟨i,rfl⟩:∃ i,j=i+1:=⟨j-1,by omega⟩
    have:=h2 i (by omega)
    rw [Nat.add_sub_cancel] at q2;omega
theorem sub_pre{n:Int}{l:List Int}{j:Nat}(h:∀ i,i<j→ydU n l i=0):∀ i,i<j→(i:Int)≤gi l i∧gi l i<n:=by
  intro i
  induction i with
  | zero =>
    intro hi
    have:=h 0 hi
    unfold ydU at this
    split at this
    · rename_i c;exact ⟨c.1,c.2⟩
    · cases this
  | succ i ih =>
    intro hi
    have h1:=ih (by omega)
    have:=h (i+1) hi
    unfold ydU at this
    split at this
    · rename_i c
      split at this
      · cases this
      · rename_i c2
        have:¬gi l (i+1)≤gi l i:=fun q=>c2 ⟨by omega,by simpa using q⟩
        exact ⟨by omega,c.2⟩
    · cases this
theorem yjj{n v:Int}{R:Bool→Prop}(h:R (decide (0≤v∧v<n))):ybx n v R:=by
  refine ⟨fun q=>?_,fun q=>?_⟩
  · rw [show decide (0≤v∧v<n)=decide (v<n) from by simp [q]] at h;exact h
  · rw [show decide (0≤v∧v<n)=false from by simp [q]] at h;exact h
theorem p_graph_Subset' {n:Int}{es:List E3}{l:List Int}{R:Int→Prop}(hel:es.length≤1000000000)(hn:n≤1000)(hg:yav n es=0)(h:R (subF n l)):ybz n es l R:=by
  refine ydK hel ⟨fun _=>?_,fun q=>absurd hg q⟩
  refine ⟨fun m v=>∃ j:Nat,v=j∧j+m=l.length∧subF n l=subR n l m j∧∀ i,i<j→ydU n l i=0,⟨l.length,0,rfl,by omega,rfl,fun i hi=>by omega⟩,?_⟩
  rintro m v ⟨j,rfl,hj,he,hpre⟩
  have hjn:j≤1001:=by
    by_cases e:j=0
    · omega
    · have:=sub_pre hpre (j-1) (by omega);omega
  rw [he] at h
  refine ⟨fun hlt=>⟨⟨by omega,hlt⟩,yjj ⟨fun q=>?_,fun q=>?_⟩⟩,fun q=>?_⟩
  · have q:=of_decide_eq_true q
    obtain ⟨m,rfl⟩:∃ i,m=i+1:=⟨m-1,by omega⟩
    rw [Int.toNat_natCast] at q ⊢
    rw [subR] at h he
    have e1:((j:Int)-1).toNat=j-1:=by omega
    rw [e1]
    have nx:ydU n l j=0→In64 ((j:Int)+1)∧∃ m3,m3<m+1∧∃ j_1:Nat,(j:Int)+1=j_1∧j_1+m3=l.length∧subF n l=subR n l m3 j_1∧∀ i,i<j_1→ydU n l i=0:=fun z=>by
      rw [if_pos z] at he
      exact ⟨⟨by omega,by omega⟩,m,by omega,j+1,by omega,by omega,he,fun i hi=>by
        by_cases e:i=j
        · rw [e];exact z
        · exact hpre i (by omega)⟩
    refine ⟨fun h0=>⟨⟨by omega,by omega⟩,⟨by omega,by omega⟩,fun h9=>?_,fun h9=>nx ?_⟩,fun h0=>nx ?_⟩
    · have:ydU n l j=9:=by unfold ydU;rw [if_pos q,if_pos ⟨by omega,h9⟩]
      rw [this] at h;exact h
    · unfold ydU;rw [if_pos q,if_neg (fun z=>h9 z.2)]
    · unfold ydU;rw [if_pos q,if_neg (fun z=>h0 (by omega))]
  · have q:¬(0≤gi l j∧gi l j<n):=fun z=>q (decide_eq_true (by rw [Int.toNat_natCast];exact z))
    obtain ⟨m,rfl⟩:∃ i,m=i+1:=⟨m-1,by omega⟩
    have:ydU n l j=2:=by unfold ydU;rw [if_neg q]
    rw [subR,this] at h;exact h
  · have:m=0:=by omega
    subst this;exact h
def btwF(es:List E3)(a b:Int):Int:=((es.find? fun x=>decide (x.1=a∧x.2.1=b)).map (·.2.2)).getD 0
theorem gchk_pairI{n:Int} : ∀ (es:List E3) (a b:Int),gchk n a b es=0→(∀ x∈es,a<x.1∨a=x.1∧b<x.2.1)∧es.Pairwise ltE
  | [],_,_,_=>⟨fun x hx=>by simp at hx,List.Pairwise.nil⟩
  | y::t,a,b,h=>by
    rw [gchk] at h
    split at h
    case isFalse=>cases h
    split at h
    case isFalse=>cases h
    rename_i h2
    obtain ⟨i1,i2⟩:=gchk_pairI t _ _ h
    have hp:=(yh6 _ _ _ _).1 h2.2
    refine ⟨fun x hx=>?_,List.pairwise_cons.2 ⟨fun x hx=>?_,i2⟩⟩
    · rcases List.mem_cons.1 hx with rfl | hx
      · exact hp
      · have:=i1 x hx;omega
    · exact i1 x hx
structure NrmE(n:Nat)(es:List E3):Prop where
  g:yav n es=0
  p:es.Pairwise ltE
  le:∀ x∈es,x.1≤x.2.1
  ok:EOk n es
theorem nrm_of{n:Nat}{es:List E3}(hg:yav n es=0):NrmE n es :=
  ⟨hg,(gchk_pairI es _ _ (ydZ hg)).2,fun x hx=>(gchk_lt es _ _ (ydZ hg) x hx).2,(ybW hg).1⟩
theorem yjk(x:E3)(es:List E3)(a b:Int):btwF (x::es) a b=if x.1=a∧x.2.1=b then x.2.2 else btwF es a b:=by
  unfold btwF
  rw [List.find?_cons]
  by_cases h:x.1=a∧x.2.1=b
  · rw [if_pos h,decide_eq_true h];rfl
  · rw [if_neg h,decide_eq_false h]
theorem btwF_none{es:List E3}{a b:Int}(h:∀ x∈es,¬(x.1=a∧x.2.1=b)):btwF es a b=0:=by
  induction es with
  | nil=>rfl
  | cons x t ih=>rw [yjk,if_neg (h x (by simp)),ih fun y hy=>h y (by simp [hy])]
theorem btwF_le{n:Nat}{es:List E3}(h:EOk n es)(a b:Int):0≤btwF es a b∧btwF es a b≤50:=by
  induction es with
  | nil=>exact ⟨Int.le_refl _,by show (0:Int)≤50;omega⟩
  | cons x t ih =>
    rw [yjk]
    have:=h x (by simp)
    split
    · omega
    · exact ih fun y hy=>h y (by simp [hy])
theorem btwF_W{n:Nat}{es:List E3}(h:NrmE n es){u v:Nat}(huv:u<v):btwF es u v=W es u v:=by
  have:=yjy u v (by omega) es (-1) (-1) (ydZ h.g)
  rw [show mnF (u:Int) v=u by unfold mnF;rw [if_neg (by omega)],show mxF (u:Int) v=v by unfold mxF;rw [if_pos (by omega)]] at this
  exact this
structure SetOk(n:Nat)(l:List Int):Prop where
  r:∀ k,k<l.length→0≤gi l k∧gi l k<n
  s:∀ j k,j<k→k<l.length→gi l j<gi l k
theorem yiY{n:Nat}{l:List Int}(h:subF n l=0):SetOk n l:=by
  obtain ⟨h1,h2⟩:=subF_zero.1 h
  refine ⟨h1,fun j k hjk hk=>?_⟩
  induction k with
  | zero=>omega
  | succ k ih =>
    by_cases e:j=k
    · subst e;exact h2 j hk
    · have:=ih (by omega) (by omega);have:=h2 k hk;omega
theorem setOk_sub{n:Nat}{l:List Int}(h:SetOk n l):subF n l=0:=subF_zero.2 ⟨h.r,fun k hk=>h.s k (k+1) (by omega) hk⟩
section
variable {n : Nat} {l : List Int} (h : SetOk n l)
include h
theorem SetOk.ge{k:Nat}(hk:k<l.length):(k:Int)≤gi l k:=by
  induction k with
  | zero=>exact (h.r 0 hk).1
  | succ k ih=>have:=ih (by omega);have:=h.s k (k+1) (by omega) hk;omega
theorem SetOk.len:l.length≤n:=by
  by_cases e:l.length=0
  · omega
  · have h1:=h.ge (k:=l.length-1) (by omega);have h2:=h.r (l.length-1) (by omega);omega
theorem SetOk.inj{j k:Nat}(hj:j<l.length)(hk:k<l.length)(e:gi l j=gi l k):j=k:=by
  rcases Nat.lt_trichotomy j k with q | q | q
  · have:=h.s j k q hk;omega
  · exact q
  · have:=h.s k j q hj;omega
theorem SetOk.idx{k:Nat}(hk:k<l.length):l.idxOf (gi l k)=k:=by
  have hm:gi l k∈l:=by rw [yaN hk];exact List.getElem_mem hk
  have hi:=List.idxOf_lt_length_of_mem hm
  refine h.inj hi hk ?_
  rw [yaN hi,List.getElem_idxOf]
omit h in
theorem yjb{v:Int}(hm:v∈l):l.idxOf v<l.length∧gi l (l.idxOf v)=v:=by
  have hi:=List.idxOf_lt_length_of_mem hm
  exact ⟨hi,by rw [yaN hi,List.getElem_idxOf]⟩
omit h in
theorem yjo{k:Nat}(hk:k<l.length):gi l k∈l:=by rw [yaN hk];exact List.getElem_mem hk
theorem SetOk.mono{a b:Int}(ha:a∈l)(hb:b∈l)(hab:a≤b):l.idxOf a≤l.idxOf b:=by
  obtain ⟨h1,h2⟩:=yjb ha;obtain ⟨h3,h4⟩:=yjb hb
  refine Nat.not_lt.1 fun q=>?_
  have:=h.s _ _ q h1;omega
end
def indX(l:List Int)(x:E3):List (Int×Int):=if x.1∈l∧x.2.1∈l then List.replicate x.2.2.toNat ((l.idxOf x.1:Int),(l.idxOf x.2.1:Int)) else []
def indL(es:List E3)(l:List Int):List (Int×Int):=es.flatMap (indX l)
theorem yiM(l l':List (Int×Int))(a b:Int):cntE (l++l') a b=cntE l a b+cntE l' a b:=by
  unfold cntE;rw [List.countP_append];omega
theorem yi0(e:Int×Int)(m:Nat)(a b:Int):cntE (List.replicate m e) a b=if mnF e.1 e.2=a∧mxF e.1 e.2=b then (m:Int) else 0:=by
  unfold cntE isE
  rw [List.countP_replicate]
  by_cases c:mnF e.1 e.2=a∧mxF e.1 e.2=b
  · rw [if_pos (decide_eq_true c),if_pos c]
  · rw [if_neg (by simpa using c),if_neg c];rfl
theorem mn_nn{a b:Nat}(h:a≤b):mnF (a:Int) b=a∧mxF (a:Int) b=b:=by
  unfold mnF mxF
  by_cases e:a=b
  · subst e;simp
  · rw [if_neg (by omega),if_pos (by omega)];exact ⟨rfl,rfl⟩
section
variable {n : Nat} {l : List Int} (h : SetOk n l)
include h
theorem cnt_indX{x:E3}(hx:x.1≤x.2.1∧0≤x.2.2){a b:Nat}(ha:a<l.length)(hb:b<l.length):cntE (indX l x) a b=if x.1=gi l a∧x.2.1=gi l b then x.2.2 else 0:=by
  unfold indX
  by_cases c:x.1∈l∧x.2.1∈l
  · obtain ⟨m1,m2⟩:=mn_nn (h.mono c.1 c.2 hx.1)
    rw [if_pos c,yi0,m1,m2]
    obtain ⟨a1,a2⟩:=yjb c.1;obtain ⟨b1,b2⟩:=yjb c.2
    by_cases q:x.1=gi l a∧x.2.1=gi l b
    · rw [if_pos q,if_pos ⟨by rw [q.1,h.idx ha],by rw [q.2,h.idx hb]⟩];omega
    · rw [if_neg q,if_neg]
      rintro ⟨z1,z2⟩
      refine q ⟨?_,?_⟩
      · rw [←a2,show l.idxOf x.1=a by omega]
      · rw [←b2,show l.idxOf x.2.1=b by omega]
  · rw [if_neg c,if_neg]
    · rfl
    · rintro ⟨z1,z2⟩
      exact c ⟨by rw [z1];exact yjo ha,by rw [z2];exact yjo hb⟩
theorem ykL{es:List E3}(hp:es.Pairwise ltE)(hx:∀ x∈es,x.1≤x.2.1∧0≤x.2.2){a b:Nat}(ha:a<l.length)(hb:b<l.length):cntE (indL es l) a b=btwF es (gi l a) (gi l b):=by
  induction es with
  | nil=>rfl
  | cons x t ih =>
    have hp:=List.pairwise_cons.1 hp
    show cntE (indX l x++indL t l) a b=_
    rw [yiM,cnt_indX h (hx x (by simp)) ha hb,yjk,ih hp.2 fun y hy=>hx y (by simp [hy])]
    split
    · rename_i q
      rw [btwF_none fun y hy z=>by have:=hp.1 y hy;unfold ltE at this;omega];omega
    · omega
omit h in
theorem ind_ends{es:List E3} : EndsOk l.length (indL es l):=fun e he=>by
  obtain ⟨x,hx,he⟩:=List.mem_flatMap.1 he
  unfold indX at he
  split at he
  · rename_i c
    rw [(List.mem_replicate.1 he).2]
    have:=List.idxOf_lt_length_of_mem c.1;have:=List.idxOf_lt_length_of_mem c.2
    simp only;omega
  · simp at he
theorem ind_le50{es:List E3}(hN:NrmE n es)(a b:Int):cntE (indL es l) a b≤50:=by
  by_cases q:0<cntE (indL es l) a b
  · have q2:=q
    unfold cntE at q2
    obtain ⟨e,he,hp⟩:=List.countP_pos_iff.1 (show 0<(indL es l).countP (isE a b) by omega)
    obtain ⟨z1,z2⟩:=of_decide_eq_true hp
    obtain ⟨a',b',h1,h2,h3,h4⟩:=mn_nat (ind_ends e he)
    rw [←z1,←z2,h1,h2,ykL h hN.p (fun x hx=>⟨hN.le x hx,by have:=hN.ok x hx;omega⟩) (by omega) h4]
    exact (btwF_le hN.ok _ _).2
  · omega
omit h in
theorem ind_len{es:List E3}(hE:EOk n es):(indL es l).length≤50*es.length:=by
  induction es with
  | nil=>simp [indL]
  | cons x t ih =>
    show (indX l x++indL t l).length≤_
    have:=ih fun y hy=>hE y (by simp [hy])
    have hx:=hE x (by simp)
    rw [List.length_append,List.length_cons]
    have:(indX l x).length≤50:=by
      unfold indX;split
      · rw [List.length_replicate];omega
      · simp
    omega
theorem ind_ok{es:List E3}(hN:NrmE n es)(hn:n≤12)(hne:l≠[]):yav l.length (made l.length (indL es l))=0 :=
  made_ok (by cases l with | nil=>exact absurd rfl hne | cons=>simp) (by have:=h.len;omega) (ind_le50 h hN)
theorem W_ind{es:List E3}(hN:NrmE n es)(hn:n≤12){i j:Nat}(hi:i<l.length)(hj:j<l.length)(hne:i≠j):W (made l.length (indL es l)) i j=W es (gi l i).toNat (gi l j).toNat:=by
  have key:∀ {i j:Nat},i<j→j<l.length→W (made l.length (indL es l)) i j=W es (gi l i).toNat (gi l j).toNat:=fun {i j} hij hj=>by
    have hlen:=h.len
    rw [W_made (by omega) (by omega) (ind_le50 h hN) (by omega) hj (by omega),(mn_nn (Nat.le_of_lt hij)).1,(mn_nn (Nat.le_of_lt hij)).2,ykL h hN.p (fun x hx=>⟨hN.le x hx,by have:=hN.ok x hx;omega⟩) (by omega) hj]
    have h1:=h.r i (by omega);have h2:=h.r j hj;have h3:=h.s i j hij hj
    rw [←btwF_W hN (u:=(gi l i).toNat) (v:=(gi l j).toNat) (by omega),Int.toNat_of_nonneg h1.1,Int.toNat_of_nonneg h2.1]
  rcases Nat.lt_or_gt_of_ne hne with q | q
  · exact key q hj
  · rw [ye0,key q hi,ye0]
end
theorem egg_of{n:Nat}{es:List E3}{l:List Int}(hN:NrmE n es)(hn:n≤12)(hs:SetOk n l)(hne:l≠[])(hc:ydD l.length (made l.length (indL es l))=true):EggP n es (fun v=>decide ((v:Int)∈l)):=by
  have hok:=ind_ok hs hN hn hne
  obtain ⟨hE,h1,h12⟩:=ybW hok
  refine ⟨⟨(gi l 0).toNat,?_,?_⟩,?_⟩
  · have:=hs.r 0 (by omega);omega
  · have:=hs.r 0 (by omega)
    refine decide_eq_true ?_
    rw [Int.toNat_of_nonneg this.1];exact yjo (by omega)
  · rintro S ⟨a,ha,haE,haS⟩ ⟨b,hb,hbE,hbS⟩
    have haE:=of_decide_eq_true haE;have hbE:=of_decide_eq_true hbE
    obtain ⟨a1,a2⟩:=yjb haE;obtain ⟨b1,b2⟩:=yjb hbE
    obtain ⟨i,j,hi,hj,h3,h4,h5⟩:=(yi7 hE h1 h12 b1).1 hc (fun k=>S (gi l k).toNat) (by show S (gi l (l.idxOf (b:Int))).toNat=false;rw [b2];exact hbS) ⟨l.idxOf (a:Int),a1,by show S (gi l (l.idxOf (a:Int))).toNat=true;rw [a2];exact haS⟩
    have hij:i≠j:=by rintro rfl;have h3:S (gi l i).toNat=true:=h3;have h4:S (gi l i).toNat=false:=h4;rw [h3] at h4;cases h4
    rw [W_ind hs hN hn hi hj hij] at h5
    have r1:=hs.r i hi;have r2:=hs.r j hj
    refine ⟨(gi l i).toNat,(gi l j).toNat,by omega,by omega,decide_eq_true (by rw [Int.toNat_of_nonneg r1.1];exact yjo hi),h3,decide_eq_true (by rw [Int.toNat_of_nonneg r2.1];exact yjo hj),h4,h5⟩
theorem BagOk.putm{d:Nat}{L:List (Int×Int)}{M:List (List Int×Int)}(h:BagOk d L M)(hd:d≤12){e:Int×Int}{a b m:Nat}(h1:a≤b)(h2:b<d)(ha:mnF e.1 e.2=a)(hb:mxF e.1 e.2=b)(hm:1≤m)(h0:cntE L a b=0):BagOk d (L++List.replicate m e) (mput M [(a:Int),(b:Int)] m):=by
  have hk:=h.key.put (keyOk2 hd h1 h2) (m:Int)
  refine ⟨hk,fun p hp=>?_,fun x y=>?_,by have:=h.len;rw [yjB,List.length_append,List.length_replicate];split <;> omega⟩
  · obtain ⟨j,hj⟩:=List.getElem?_of_mem hp
    have hg:=mget_at hk.1 (k:=p.1) (v:=p.2) hj
    rw [yh0] at hg
    by_cases q:[(a:Int),(b:Int)]=p.1
    · rw [if_pos q] at hg
      refine ⟨a,b,h1,h2,q.symm,?_,?_⟩
      · rw [yiM,yi0,if_pos ⟨ha,hb⟩,h0,Int.zero_add];exact (Option.some.inj hg).symm
      · rw [←Option.some.inj hg];omega
    · rw [if_neg q] at hg
      obtain ⟨x,y,h3,h4,h5,h6,h7⟩:=h.at_ _ (yiR hg)
      refine ⟨x,y,h3,h4,h5,?_,h7⟩
      rw [yiM,yi0,if_neg,Int.add_zero]
      · exact h6
      · rintro ⟨q1,q2⟩
        rw [ha] at q1;rw [hb] at q2
        have h5:p.1=[(x:Int),(y:Int)]:=h5
        exact q (by rw [h5,q1,q2])
  · rw [yh0,yiM,yi0,ha,hb,←h.get x y]
    by_cases q:(a:Int)=x∧(b:Int)=y
    · rw [if_pos (by rw [q.1,q.2]),if_pos q,h.get x y,←q.1,←q.2,h0];simp
    · rw [if_neg (fun z=>q (by simpa using z)),if_neg q,Int.add_zero]
theorem indL_take{es:List E3}{l:List Int}{k:Nat}(hk:k<es.length):indL (es.take (k+1)) l=indL (es.take k) l++indX l (ge es k):=by
  unfold indL
  rw [List.take_add_one,List.getElem?_eq_getElem hk,yc4 hk,List.flatMap_append]
  simp
theorem yht{l:List Int}(hl:l.length≤1000){v:Int}{R:Int→Prop}(h1:v∈l→R (l.idxOf v))(h2:v∉l→R (-1))(hs:∀ k,k<l.length→l.idxOf (gi l k)=k):ybY v l R:=by
  refine yhd (by omega) (fun k hk e=>?_) (fun h=>?_)
  · have:=h1 (by rw [←e];exact yjo hk)
    rw [←e,hs k hk] at this;exact this
  · refine h2 fun hm=>?_
    obtain ⟨h3,h4⟩:=yjb hm
    exact h _ h3 h4
theorem p_graph_moved{n:Nat}{es:List E3}{l:List Int}(hN:NrmE n es)(hn:n≤12)(hs:SetOk n l)(hne:l≠[])(hl:es.length≤40){m:Int}{R:Int→List E3→Prop}(h:R (l.length:Nat) (made l.length (indL es l))) :
    yd7 m es ((l.length:Nat):Int) (fun x R=>ybY x l R) R:=by
  have hlen:=hs.len
  refine ⟨fun m v M=>∃ k:Nat,v=k∧k+m=es.length∧BagOk l.length (indL (es.take k) l) M,⟨es.length,0,rfl,by omega,BagOk.nil _⟩,?_⟩
  rintro m' v M ⟨k,rfl,hm',hB⟩
  refine ⟨fun hlt=>⟨⟨by omega,hlt⟩,?_⟩,fun hge=>?_⟩
  · have hk:k<es.length:=by omega
    rw [Int.toNat_natCast]
    have hx:ge es k∈es:=by rw [yc4 hk];exact List.getElem_mem hk
    have hox:=hN.ok _ hx
    have hT:=indL_take (l:=l) hk
    have nx:indX l (ge es k)=[]→In64 ((k:Int)+1)∧∃ m5,m5<m'∧∃ k2:Nat,(k:Int)+1=k2∧k2+m5=es.length∧BagOk l.length (indL (es.take k2) l) M:=fun e=>by
      refine ⟨⟨by omega,by omega⟩,m'-1,by omega,k+1,by omega,by omega,?_⟩
      show BagOk l.length (indL (es.take (k+1)) l) M
      rw [hT,e,List.append_nil];exact hB
    refine yht (by omega) (fun c1=>?_) (fun c1=>?_) fun _=>hs.idx
    · refine yht (by omega) (fun c2=>?_) (fun c2=>?_) fun _=>hs.idx
      · refine ⟨True,fun _=>?_,fun _=>⟨fun _=>trivial,fun q=>by omega⟩,fun q=>by omega⟩
        obtain ⟨e1,e2⟩:=mn_nn (hs.mono c1 c2 (hN.le _ hx))
        obtain ⟨a1,a2⟩:=yjb c1;obtain ⟨b1,b2⟩:=yjb c2
        unfold ydP
        rw [e1,e2]
        refine ⟨hB.key,keyOk2 (by omega) (hs.mono c1 c2 (hN.le _ hx)) b1,⟨by omega,by omega⟩,m'-1,by omega,k+1,by omega,by omega,?_⟩
        have e3:indX l (ge es k)=List.replicate (ge es k).2.2.toNat ((l.idxOf (ge es k).1:Int),(l.idxOf (ge es k).2.1:Int)):=by unfold indX;rw [if_pos ⟨c1,c2⟩]
        show BagOk l.length (indL (es.take (k+1)) l) _
        rw [hT,e3]
        have:=hB.putm (by omega) (e:=((l.idxOf (ge es k).1:Int),(l.idxOf (ge es k).2.1:Int))) (hs.mono c1 c2 (hN.le _ hx)) b1 e1 e2 (m:=(ge es k).2.2.toNat) (by omega) (by
          rw [ykL hs (hN.p.sublist (List.take_sublist k es)) (fun x hx=>by have hx:=List.mem_of_mem_take hx;exact ⟨hN.le x hx,by have:=hN.ok x hx;omega⟩) a1 b1,a2,b2]
          refine btwF_none fun y hy z=>?_
          obtain ⟨j,hj,ej⟩:=List.mem_iff_getElem.1 hy
          rw [List.length_take] at hj
          have hlt:=(List.pairwise_iff_getElem.1 hN.p) j k (by omega) hk (by omega)
          rw [List.getElem_take] at ej
          rw [ej,←yc4 hk] at hlt
          unfold ltE at hlt;omega)
        rw [Int.toNat_of_nonneg (by omega)] at this
        exact this
      · have e:indX l (ge es k)=[]:=by unfold indX;rw [if_neg (fun z=>c2 z.2)]
        exact ⟨False,fun q=>q.elim,fun _=>⟨fun q=>by omega,fun _=>nx e⟩,fun q=>by omega⟩
    · have e:indX l (ge es k)=[]:=by unfold indX;rw [if_neg (fun z=>c1 z.1)]
      refine yht (R:=fun r2=>_) (by omega) (fun c2=>?_) (fun c2=>?_) fun _=>hs.idx
      · exact ⟨False,fun q=>q.elim,fun q=>by omega,fun _=>nx e⟩
      · exact ⟨False,fun q=>q.elim,fun q=>by omega,fun _=>nx e⟩
  · have hk2:k=es.length:=by omega
    rw [hk2,List.take_length] at hB
    exact p_bag_graph hB (by have:=ind_len (l:=l) hN.ok;omega) h
theorem yjE{n:Nat}{es:List E3}{l:List Int}(hN:NrmE n es)(hn:n≤12)(hl:es.length≤40){R:Int→List E3→Int→Prop}(h1:subF n l≠0→R 0 [] (subF n l))(h2:subF n l=0→l=[]→R 0 [] 14)
    (h3:subF n l=0→l≠[]→R (l.length:Nat) (made l.length (indL es l)) 0):ydp (n:Int) es l R:=by
  refine p_graph_Subset' (by omega) (by omega) hN.g ⟨fun c=>⟨fun q=>h2 c (List.length_eq_zero_iff.1 (by omega)),fun q=>?_⟩,fun c=>h1 c⟩
  have hne:l≠[]:=by rintro rfl;exact q rfl
  exact p_graph_moved hN hn (yiY c) hne hl (h3 c hne)
end Go.Proofs.YtadpnlimiblniaaGreat

/- Gonality: all sets of vertices in order; the least value. -/
namespace Go.Proofs.YtadpnlimiblniaaGreat
open Go Go.RowKit Go.Shelf Go.Proofs.Tryz
theorem p_sets_from{n:Nat}{L:List (List Int)}(hn:n≤1000):∀ (k:Nat) (s:List Int) (pre:List (List Int)) {R:List (List Int)→Bool→List Int→Prop},k≤n→s.length+k≤1000→(pre++s::subG n k s) <+: L→R (pre++s::subG n k s) true s →
    ∀ fu,k<fu→ybs (· <+: L) fu ((n-k:Nat):Int) s n pre R:=by
  intro k
  induction k using Nat.strongRecOn with
  | _ k ih =>
    intro s pre R hk hs hp hR fu hfu
    obtain ⟨fu,rfl⟩:∃ f,fu=f+1:=⟨fu-1,by omega⟩
    rw [show ybs (· <+: L) (fu+1)=fun v cap cap2 pre R=>yb4 (· <+: L) (ybs (· <+: L) fu) v cap cap2 pre R from rfl]
    have hp0:(pre++[s]) <+: L:=by
      refine List.IsPrefix.trans ?_ hp
      exact ⟨subG n k s,by simp⟩
    refine ⟨hp0,?_,trivial⟩
    refine ⟨fun m pre2 v2 v3=>∃ j,m=j∧j≤k∧v2=((n-j:Nat):Int)∧v3=s∧pre2++subG n j s=pre++s::subG n k s,⟨k,k,rfl,Nat.le_refl _,rfl,rfl,by simp⟩,?_⟩
    rintro m2 pre2 _ _ ⟨j,rfl,hj,rfl,rfl,he⟩
    refine ⟨fun hlt=>?_,fun hge=>?_⟩
    · obtain ⟨j,rfl⟩:∃ i,m2=i+1:=⟨m2-1,by omega⟩
      refine ⟨by omega,⟨by omega,by omega⟩,?_⟩
      have e1:((n-(j+1):Nat):Int)+1=((n-j:Nat):Int):=by omega
      rw [e1]
      refine ih j (by omega) _ _ (by omega) (by simp;omega) ?_ ?_ fu (by omega)
      · refine List.IsPrefix.trans ?_ hp
        rw [←he,subG]
        exact ⟨_,List.append_assoc _ _ _⟩
      · refine ⟨fun _=>⟨⟨by rw [List.length_append,List.length_singleton];omega,by rw [List.length_append,List.length_singleton];omega⟩,⟨by rw [List.length_append,List.length_singleton];omega,by omega⟩,j,by omega,j,rfl,by omega,rfl,?_,?_⟩,fun q=>absurd rfl q⟩
        · simp
        · rw [←he,subG];simp
    · have:m2=0:=by omega
      subst this
      rw [subG,List.append_nil] at he
      rw [he];exact hR
theorem p_sets_1{n:Nat}(hn:n≤500):yb0 (n:Int) (· <+: yeV n) (· = yeV n):=by
  refine ⟨n+1,?_⟩
  have h:=p_sets_from (n:=n) (L:=yeV n) (by omega) n [] [] (R:=fun pre _ _=>pre=yeV n) (Nat.le_refl _) (by simp;omega) (by rw [List.nil_append];exact List.prefix_refl _) rfl (n+1) (by omega)
  rw [Nat.sub_self] at h
  exact h
theorem yhZ{s:List Int}{R:List Int→Prop}(hl:s.length≤1000000000)(h:R s):ybc s R:=by
  intro nil hnil
  refine ⟨fun q=>?_,fun q=>⟨by omega,by simpa using h⟩⟩
  rw [hnil q] at h;exact h
theorem p_least{n:Nat}(hn:n≤500){F:List Int→(Int→Bool→Prop)→Prop}{val:List Int→Int×Bool}(hF:∀ y∈yeV n,y.length≤1000000000∧∀ R':Int→Bool→Prop,R' (val y).1 (val y).2→F y R'){R:Int→List Int→Prop}
    (h:R (lstF val (yeV n) (-1,[])).1 (lstF val (yeV n) (-1,[])).2):yc2 (n:Int) F R:=by
  show ∃ Pr Rr:List (List Int)→Prop,_
  refine ⟨_,_,p_sets_1 hn,fun pre best first=>(best,first)=lstF val pre (-1,[]),rfl,?_,?_⟩
  · intro pre y best first hI hPr
    have hy:y∈yeV n:=hPr.subset (by simp)
    obtain ⟨hl,hf⟩:=hF y hy
    have hs:=yhX val pre y (-1,[])
    have hI:(best,first)=lstF val pre (-1,[]):=hI
    rw [←hI] at hs
    refine hf _ ⟨fun q=>⟨fun q2=>yhZ hl ?_,fun q2=>⟨fun q3=>yhZ hl ?_,fun q3=>?_⟩⟩,fun q=>?_⟩
    · exact (hs.trans (if_pos ⟨q, .inl q2⟩)).symm
    · exact (hs.trans (if_pos ⟨q, .inr q3⟩)).symm
    · exact (hs.trans (if_neg (fun z=>z.2.elim q2 q3))).symm
    · exact (hs.trans (if_neg (fun z=>q z.1))).symm
  · intro ys best first hI hR
    have hR:ys=yeV n:=hR
    subst hR
    have hI:(best,first)=lstF val (yeV n) (-1,[]):=hI
    rw [←hI] at h
    exact h
end Go.Proofs.YtadpnlimiblniaaGreat
