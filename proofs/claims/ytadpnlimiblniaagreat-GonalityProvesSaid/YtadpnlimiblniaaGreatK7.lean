/- Texts laid together: Srt, SrtK, Pcm, LayE, SrtE, PGa, TabT. -/
import Derived.Shelf.SlSortCmp.NoneTotal
import Derived.Shelf.SlLaysF0
import Derived.Test.YtadpnlimiblniaaGreatChecked
import Derived.Test.YtadpnlimiblniaaGreatK6
set_option linter.unusedVariables false
set_option linter.unusedSimpArgs false
set_option linter.unusedSectionVars false
namespace Go.Proofs.YtadpnlimiblniaaGreat
open Go Go.RowKit Go.Shelf Go.Lib Go.Sort Go.Proofs.Tryz
theorem yjs{α:Type} [Inhabited α](enc:α→Value)(w:World)(blk off m:Nat)(d:Array α)(os:Array Obj):Keeps (fun k=>k=blk) w (sortWorld enc w blk off m d os):=by
  refine ⟨rfl,rfl,rfl,?_,fun k hk hn=>?_⟩
  · show w.heap.size≤((w.heap.modify blk (onCells (putCells enc off d)))++os).size
    simp
  · show ((w.heap.modify blk (onCells (putCells enc off d)))++os)[k]? = _
    rw [Array.getElem?_append_left (by simpa using hk),Array.getElem?_modify,if_neg (fun q=>hn q.symm)]
theorem sortWorld_at{α:Type} [Inhabited α](enc:α→Value)(w:World)(blk off m:Nat)(d:Array α)(os:Array Obj){cur:Array Value}{e:TypeId}{fr:Nat×Nat}(h:w.heap[blk]? = some (.cells cur e fr)):(sortWorld enc w blk off m d os).heap[blk]? = some (.cells (putCells enc off d cur) e fr):=by
  show ((w.heap.modify blk (onCells (putCells enc off d)))++os)[blk]? = _
  have hb:=(Array.getElem?_eq_some_iff.1 h).1
  rw [Array.getElem?_append_left (by simpa using hb),Array.getElem?_modify,if_pos rfl,h]
  rfl
section
variable {P : Program} {ρ : Ren} {τ : Type} {c : Cod τ} {cf : τ → τ → Int} {g : Nat}
end
theorem flatK_at{τ:Type} [Inhabited τ]{f:Fl τ}{d:Array τ}{k j:Nat}{x:τ}{u:Value}(hx:d[k]? = some x)(hu:(f.enc x)[j]? = some u):k*f.sz+j<d.size*f.sz∧(flatK f.enc f.sz d)[k*f.sz+j]? = some u:=by
  have hk:=(Array.getElem?_eq_some_iff.1 hx).1
  have hj:=(List.getElem?_eq_some_iff.1 hu).1
  rw [f.len] at hj
  have hlt:k*f.sz+j<d.size*f.sz:=by
    have:(k+1)*f.sz≤d.size*f.sz:=Nat.mul_le_mul_right _ hk
    rw [Nat.add_mul] at this;omega
  refine ⟨hlt,?_⟩
  have h1:=get_flatK f.enc f.sz d (k*f.sz+j) hlt
  have e1:(k*f.sz+j) / f.sz=k:=by
    rw [Nat.mul_comm,Nat.mul_add_div (by omega),Nat.div_eq_of_lt hj];omega
  have e2:(k*f.sz+j) % f.sz=j:=by
    rw [Nat.mul_comm,Nat.mul_add_mod,Nat.mod_eq_of_lt hj]
  rw [e1,e2] at h1
  have e3:d[k]! = x:=by rw [getElem!_pos d k hk];rw [Array.getElem?_eq_getElem hk] at hx;exact Option.some.inj hx
  rw [e3,getElem!_pos _ _ (by simpa using hlt),getElem!_pos _ _ (by rw [f.len];exact hj)] at h1
  rw [Array.getElem?_eq_getElem (by simpa using hlt),h1]
  rw [List.getElem?_eq_getElem (by rw [f.len];exact hj)] at hu
  exact hu
section
variable {P : Program} {ρ : Ren} {τ : Type} [Inhabited τ] {f : Fl τ} {cf : τ → τ → Int} {g : Nat}
theorem srt_ownK(L:SlLaysF0.n6 P ρ)(aE:∀ w,(isAgg (ρ.t 24)).run P w = .ok true w)(zE:∀ w,(Go.sizeOf (ρ.t 24)).run P w = .ok f.sz w)(hO:SWO (ltOf cf))(eg:Enters P g)
    {w:World} {S O:Nat→Prop} {e:TypeId} {A:Option Addr} {l cap:Nat} {xs:List τ} {R:List τ→Prop}
    (hcmp:∀ W x y,Calls P g #[.agg (f.enc x).toArray, .agg (f.enc y).toArray] W fun e w'=>e = .returned (.int .i64 (cf x y))∧∃ q os',w'=grow (W.drewN q) os')
    (hlen:xs.length≤1000000000) (h:∀ zs,zs.Perm xs→zs.Pairwise (fun a b=>¬cf b a<0)→R zs)
    (hS:Sep w S O w (rl [Res.own f.cod e A l cap xs])):Calls P (ρ.f 6) #[.slice A l cap, .func (.func g) #[] #[]] w fun e' w'=>∃ zs,e' = .returned (.tuple #[])∧Sep w S O w' (rl [Res.own f.cod e A l cap zs])∧R zs:=by
  obtain ⟨hl,cells,ho,hc⟩:=hS.own 0 rfl
  by_cases h0:xs=[]
  · subst h0
    simp at hl
    subst hl
    refine (AnyF.slices_SortFunc_none { L with } A cap _ w).mono ?_
    rintro _ w' ⟨rfl,rfl⟩
    exact ⟨[],rfl,hS,h [] (List.Perm.refl _) List.Pairwise.nil⟩
  · have hlp:0<xs.length:=List.length_pos_iff.2 h0
    rcases ho.2 with ⟨_,q,_⟩ | ⟨gb,o,cur,rfl,hb,hg,hlc,hcm,hsz,hcur⟩
    · omega
    · have hsz2:o+cap*f.sz≤cur.size:=hsz
      have hlt:gb<w.heap.size:=(Array.getElem?_eq_some_iff.1 hg).1
      have hll:l=xs.toArray.size:=by rw [hl];simp
      have hcm2:xs.toArray.size<4611686018427387904:=by rw [←hll,hl];exact Nat.lt_of_le_of_lt hlen (by decide)
      have hmain:=AnyQ.slices_SortFunc L f.sz aE zE f.enc f.len f.one cf hO g #[] gb o cap xs.toArray w eg
        (fun m os dk _ x y=>by rw [Array.append_empty];exact hcmp _ x y)
        (fun t ht=>by
          have ht:t<xs.toArray.size*f.sz:=by simpa using ht
          have hz : 0 < f.sz := by rcases Nat.eq_zero_or_pos f.sz with q | q; · rw [q] at ht; simp at ht
                                   · exact q
          have hk:t / f.sz<xs.length:=by have:=Nat.div_lt_of_lt_mul (by rw [Nat.mul_comm] at ht;exact ht:t<f.sz*xs.toArray.size);simpa using this
          have hj:t % f.sz<f.sz:=Nat.mod_lt _ hz
          obtain ⟨vs,hR,hv⟩:=hc (t / f.sz) xs[t / f.sz] (List.getElem?_eq_getElem hk)
          have hR:vs=f.enc xs[t / f.sz]:=hR
          subst hR
          have hu:(f.enc xs[t / f.sz])[t % f.sz]? = some ((f.enc xs[t / f.sz])[t % f.sz]'(by rw [f.len];exact hj)):=List.getElem?_eq_getElem _
          have hcell:=hv _ _ hu
          have e1:t / f.cod.sz*f.cod.sz+t % f.sz=t:=by
            show t / f.sz*f.sz+t % f.sz=t
            rw [Nat.mul_comm];exact Nat.div_add_mod t f.sz
          have e1':t / f.sz*f.cod.sz+t % f.sz=t:=e1
          rw [e1'] at hcell
          obtain ⟨g',o',e',_,h1,h2⟩:=ho.cellAt hcell
          cases e'
          have hfl:=(flatK_at (f:=f) (d:=xs.toArray) (k:=t / f.sz) (by simp [List.getElem?_eq_getElem hk]) hu).2
          have e2:t / f.sz*f.sz+t % f.sz=t:=e1
          rw [e2] at hfl
          refine ⟨?_,h2⟩
          rw [h1,getElem!_pos _ t (by simpa using ht)]
          rw [Array.getElem?_eq_getElem (by simpa using ht)] at hfl
          rw [Option.some.inj hfl];rfl) hlt hcm2
      rw [←hll] at hmain
      refine hmain.mono ?_
      rintro _ w' ⟨rfl,d',n,os,⟨p1,p2,p3⟩,hs,rfl⟩
      have hd'l:d'.size=l:=by rw [p1,hll]
      have hp:d'.toList.Perm xs:=by
        have e1:d'.extract 0 l=d':=by rw [←hd'l];exact Array.extract_size
        have e2:xs.toArray.extract 0 l=xs.toArray:=by rw [hll];exact Array.extract_size
        rwa [e1,e2] at p3
      refine ⟨d'.toList,rfl,?_,h _ hp ?_⟩
      · have hK:=yjs (id:Value→Value) w gb o n (flatK f.enc f.sz d') os
        have hfs:(flatK f.enc f.sz d').size=l*f.sz:=by rw [size_flatK,hd'l]
        refine (hS.upd 0 (Res.own f.cod e (some ⟨gb,o,none⟩) l cap d'.toList) hK (fun k _ hk=>by rw [hk];rfl) (fun k hk => .inl hk) ?_).sel [0] (by decide)
        have hlm:l*f.sz≤cap*f.sz:=Nat.mul_le_mul_right _ hlc
        refine ⟨by simp [hd'l],(flatK f.enc f.sz d').toList,⟨by rw [Array.length_toList,hfs];rfl, .inr ⟨gb,o,_,rfl,Nat.zero_le _,sortWorld_at _ w gb o n (flatK f.enc f.sz d') os hg,hlc,hcm,by show o+cap*f.sz≤_;simpa [putCells] using hsz2,?_⟩⟩,fun k x hx=>?_⟩
        · show List.take (l*f.sz) _=_
          apply List.ext_getElem?
          intro i
          rw [List.getElem?_take]
          by_cases hi:i<l*f.sz
          · rw [if_pos hi,List.getElem?_drop,Array.getElem?_toList]
            have hic:o+i<cur.size:=by omega
            rw [putCells,Array.getElem?_mapIdx,Array.getElem?_eq_getElem hic,Option.map_some,if_pos ⟨by omega,by omega⟩,show o+i-o=i by omega,Array.getElem?_toList,Array.getElem?_eq_getElem (by omega),getElem!_pos _ _ (by omega)]
            rfl
          · rw [if_neg hi,List.getElem?_eq_none (by rw [Array.length_toList];omega)]
        · refine ⟨f.enc x,rfl,fun j u hj=>?_⟩
          rw [Array.getElem?_toList] at hx ⊢
          exact (flatK_at hx hj).2
      · rw [List.pairwise_iff_getElem]
        intro i j hi hj hij
        have hj':j<d'.size:=by simpa using hj
        have:=hs i j (Nat.zero_le _) hij (by omega)
        rw [getElem!_pos d' j hj',getElem!_pos d' i (by omega)] at this
        simpa [ltOf] using this
end
end Go.Proofs.YtadpnlimiblniaaGreat

namespace Go.Proofs.YtadpnlimiblniaaGreat
open Go Go.RowKit Go.Sort Go.Proofs.Tryz
set_option maxRecDepth 100000
set_option maxHeartbeats 400000
def Gr(w w':World):Prop:=∃ (q:Nat) (os':Array Obj),w'=grow (w.drewN q) os'
theorem Gr.refl(w:World):Gr w w:=⟨0,#[],by rw [grow_empty];rfl⟩
theorem Gr.drewN{a w:World}(h:Gr a w)(n:Nat):Gr a (w.drewN n):=by
  obtain ⟨q,os',rfl⟩:=h
  exact ⟨q+n,os',by unfold grow World.drewN;simp [Nat.add_assoc]⟩
theorem Gr.drew{a w:World}(h:Gr a w):Gr a w.drew:=h.drewN 1
theorem Gr.alloc{a w:World}(h:Gr a w)(o:Obj):Gr a (w.alloc o):=by
  obtain ⟨q,os',rfl⟩:=h
  exact ⟨q,os' ++ #[o],by rw [alloc_eq_grow,grow_grow]⟩
theorem Gr.trans{a b c:World}(h:Gr a b)(k:Gr b c):Gr a c:=by
  obtain ⟨q,os',rfl⟩:=h
  obtain ⟨q2,os2,rfl⟩:=k
  refine ⟨q+q2,os'++os2,?_⟩
  rw [←grow_grow]
  unfold grow World.drewN
  simp [Nat.add_assoc]
theorem pcompareG(a b c d:Int)(w:World):Calls Tryz.prog 133 #[.agg #[.int .i64 a, .int .i64 b], .agg #[.int .i64 c, .int .i64 d]] w fun e w' =>
    e = .returned (.int .i64 (ydR a b c d))∧Gr w w':=by
  go_enter func133,ntmps133
  go_wp2
  go_region_held3 (fun w'=>w'.cell? ⟨w.heap.size,0,none⟩=some (.int .i64 a)∧w'.cell? ⟨w.heap.size,1,none⟩=some (.int .i64 b)∧w'.cell? ⟨w.heap.size+1,0,none⟩=some (.int .i64 c)∧w'.cell? ⟨w.heap.size+1,1,none⟩=some (.int .i64 d)) (simp [go_sem,World.cell?_alloc_past])
    (first
      | (go_at_call 134;refine (yjc _ _ _).mono ?_;rintro e w' ⟨rfl,rfl⟩)
      | (go_at_call 156;refine (or_two _ _ (cmpF a c) (cmpF b d) _ (by simp [go_sem]) (by simp [go_sem])).mono ?_;rintro e w' ⟨rfl,rfl⟩))
  go_wp2
  go_ret
  exact ⟨rfl,by repeat (first | exact Gr.refl _ | assumption | refine Gr.drew ?_ | refine Gr.drewN ?_ _ | refine Gr.alloc ?_ _)⟩
theorem edge_order(x y:E3)(w:World):Calls Tryz.prog 161 #[.agg #[.int .i64 x.1, .int .i64 x.2.1, .int .i64 x.2.2], .agg #[.int .i64 y.1, .int .i64 y.2.1, .int .i64 y.2.2]] w fun e w' =>
    e = .returned (.int .i64 (ydR x.1 x.2.1 y.1 y.2.1))∧Gr w w':=by
  go_enter func161,ntmps161
  go_wp2_with (first | (go_at_call 133;refine (pcompareG _ _ _ _ _).mono ?_;rintro e w' ⟨rfl,hG⟩))
  go_ret
  exact ⟨rfl,by first | (refine Gr.trans ?_ hG;repeat (first | exact Gr.refl _ | assumption | refine Gr.drew ?_ | refine Gr.drewN ?_ _ | refine Gr.alloc ?_ _)) | (repeat (first | exact Gr.refl _ | assumption | refine Gr.drew ?_ | refine Gr.drewN ?_ _ | refine Gr.alloc ?_ _))⟩
end Go.Proofs.YtadpnlimiblniaaGreat

namespace Go.Proofs.YtadpnlimiblniaaGreat
open Go Go.Shelf Go.Proofs.Tryz
def sortE_ren:Go.Shelf.Ren:=⟨fun | 6=>160 | 15=>173 | 14=>172 | 28=>189 | 29=>190 | 20=>181 | 21=>182 | 22=>183 | 23=>184 | 24=>185 | 25=>186 | 26=>187 | 27=>188 | 46=>194 | 47=>195 | 48=>196 | 49=>197 | 50=>198 | 57=>201 | n=>n,fun | 22=>22 | 24=>79 | 25=>187 | 3=>3 | 39=>201 | 0=>0 | 53=>217 | 55=>219 | 4=>4 | 46=>211 | 45=>210 | 50=>123 | 5=>5 | 9=>9 | 66=>224 | 70=>228 | 76=>232 | 77=>37 | n=>n,fun | n=>n⟩
theorem sortE:Go.Proofs.SlLaysF0.n6 Tryz.prog sortE_ren:={
  mixed:=by kernel_rfl
  f6:=⟨Tryz.f160.name,by decide,func160.trans (congrArg some (by kernel_rfl))⟩
  f14:=⟨Tryz.f172.name,by decide,func172.trans (congrArg some (by kernel_rfl))⟩
  f15:=func173.trans (congrArg some (by kernel_rfl))
  f20:=⟨Tryz.f181.name,by decide,func181.trans (congrArg some (by kernel_rfl))⟩
  f21:=⟨Tryz.f182.name,by decide,func182.trans (congrArg some (by kernel_rfl))⟩
  f22:=⟨Tryz.f183.name,by decide,func183.trans (congrArg some (by kernel_rfl))⟩
  f23:=⟨Tryz.f184.name,by decide,func184.trans (congrArg some (by kernel_rfl))⟩
  f24:=⟨Tryz.f185.name,by decide,func185.trans (congrArg some (by kernel_rfl))⟩
  f25:=⟨Tryz.f186.name,by decide,func186.trans (congrArg some (by kernel_rfl))⟩
  f26:=⟨Tryz.f187.name,by decide,func187.trans (congrArg some (by kernel_rfl))⟩
  f27:=⟨Tryz.f188.name,by decide,func188.trans (congrArg some (by kernel_rfl))⟩
  f28:=func189.trans (congrArg some (by kernel_rfl))
  f29:=func190.trans (congrArg some (by kernel_rfl))
  f46:=⟨Tryz.f194.name,by decide,func194.trans (congrArg some (by kernel_rfl))⟩
  f47:=func195.trans (congrArg some (by kernel_rfl))
  f48:=func196.trans (congrArg some (by kernel_rfl))
  f49:=⟨Tryz.f197.name,by decide,func197.trans (congrArg some (by kernel_rfl))⟩
  f50:=⟨Tryz.f198.name,by decide,func198.trans (congrArg some (by kernel_rfl))⟩
  f57:=⟨Tryz.f201.name,by decide,func201.trans (congrArg some (by kernel_rfl))⟩
  t0:=underlying0
  a0:=Tryz.isAgg0
  z0:=Tryz.sizeOf0
  v0:=Tryz.zeroValue0
  t3:=underlying3
  a3:=Tryz.isAgg3
  z3:=Tryz.sizeOf3
  v3:=Tryz.zeroValue3
  t4:=underlying4
  a4:=Tryz.isAgg4
  z4:=Tryz.sizeOf4
  v4:=Tryz.zeroValue4
  t5:=underlying5
  a5:=Tryz.isAgg5
  z5:=Tryz.sizeOf5
  v5:=Tryz.zeroValue5
  t9:=underlying9
  a9:=Tryz.isAgg9
  z9:=Tryz.sizeOf9
  v9:=Tryz.zeroValue9
  t22:=underlying22
  a22:=Tryz.isAgg22
  z22:=Tryz.sizeOf22
  v22:=Tryz.zeroValue22
  t25:=underlying187
  a25:=Tryz.isAgg187
  z25:=Tryz.sizeOf187
  v25:=Tryz.zeroValue187
  t39:=underlying201
  a39:=Tryz.isAgg201
  z39:=Tryz.sizeOf201
  v39:=Tryz.zeroValue201
  t45:=underlying210
  a45:=Tryz.isAgg210
  z45:=Tryz.sizeOf210
  v45:=Tryz.zeroValue210
  t46:=underlying211
  a46:=Tryz.isAgg211
  z46:=Tryz.sizeOf211
  v46:=Tryz.zeroValue211
  t50:=underlying123
  a50:=Tryz.isAgg123
  z50:=Tryz.sizeOf123
  v50:=Tryz.zeroValue123
  t53:=underlying217
  a53:=Tryz.isAgg217
  z53:=Tryz.sizeOf217
  v53:=Tryz.zeroValue217
  t55:=underlying219
  a55:=Tryz.isAgg219
  z55:=Tryz.sizeOf219
  v55:=Tryz.zeroValue219
  t66:=underlying224
  a66:=Tryz.isAgg224
  z66:=Tryz.sizeOf224
  v66:=Tryz.zeroValue224
  t70:=underlying228
  a70:=Tryz.isAgg228
  z70:=Tryz.sizeOf228
  v70:=Tryz.zeroValue228
  t76:=underlying232
  a76:=Tryz.isAgg232
  z76:=Tryz.sizeOf232
  v76:=Tryz.zeroValue232
  t77:=underlying37
  a77:=Tryz.isAgg37
  z77:=Tryz.sizeOf37
  v77:=Tryz.zeroValue37 }
end Go.Proofs.YtadpnlimiblniaaGreat

namespace Go.Proofs.YtadpnlimiblniaaGreat
open Go Go.RowKit Go.Shelf Go.Sort Go.Proofs.Tryz
set_option maxRecDepth 100000
set_option maxHeartbeats 400000
theorem yf4{a b c d:Int} : ydR a b c d<0↔a<c∨(a=c∧b<d):=by
  unfold ydR orF cmpF
  by_cases h1:a<c <;> by_cases h2:c<a <;> by_cases h3:b<d <;> by_cases h4:d<b <;> simp [h1,h2,h3,h4] <;> omega
theorem swo_edges:SWO (ltOf fun x y:E3=>ydR x.1 x.2.1 y.1 y.2.1):=by
  refine ⟨fun a=>?_,fun a b d h1 h2=>?_,fun a b d h1 h2=>?_⟩
  · simp only [ltOf,decide_eq_false_iff_not,yf4];omega
  · simp only [ltOf,decide_eq_true_iff,yf4] at *;omega
  · simp only [ltOf,decide_eq_false_iff_not,yf4] at *;omega
def yhR(xs:List E3)(R:List E3→Prop):Prop:=xs.length≤1000000000∧∀ zs:List E3,zs.Perm xs→zs.Pairwise (fun a b=>¬ydR b.1 b.2.1 a.1 a.2.1<0)→R zs
theorem pok_sort_edges{S O:Nat→Prop}{w:World}{xs:List E3}{A:Option Addr}{l c:Nat}{t:TypeId}{R:List E3→Prop}(h:yhR xs R)(hS:Sep w S O w (rl [Res.own c3 t A l c xs])) :
    Calls Tryz.prog 160 #[.slice A l c, .func (.func 161) #[] #[]] w fun e w'=>∃ z:List E3,e = .returned (.tuple #[])∧Sep w S O w' (rl [Res.own c3 t A l c z])∧R z :=
  (srt_ownK (f:=fP (fI .i64) (fP (fI .i64) (fI .i64))) (cf:=fun x y:E3=>ydR x.1 x.2.1 y.1 y.2.1) sortE (fun w=>yf6 (t:=79) underlying79 rfl w) (fun w=>ybB (t:=79) yaK w) swo_edges enter_161 (fun W x y=>(edge_order x y W).mono fun e w' ⟨h1,h2⟩=>⟨h1,h2⟩) h.1 h.2 hS).mono fun e w' ⟨z,h1,h2,h3⟩=>⟨z,h1,h2,h3⟩
end Go.Proofs.YtadpnlimiblniaaGreat

namespace Go.Proofs.YtadpnlimiblniaaGreat
open Go Go.RowKit Go.Shelf Go.Proofs.Tryz
set_option maxRecDepth 100000
set_option maxHeartbeats 8000000
def ygV(s:List (List Int))(R:Bool→Prop):Prop :=
(∃ I2:Nat→Int→Prop,(∃ m0,I2 m0 0)∧∀ m2 i,I2 m2 i → 
(∃ J2:Prop,(J2→((0≤i∧i<(s.length:Int)) ∧
((20<((gx s i.toNat).length:Int) →
R false) ∧
(¬(20<((gx s i.toNat).length:Int)) →
(In64 (i+1) ∧
∃ m3,m3<m2∧I2 m3 (i+1)))))) ∧
((i<(s.length:Int) →
((i<20 →
J2) ∧
(¬(i<20) →
(((s.length:Int)≤12 →
R true) ∧
(¬((s.length:Int)≤12) →
((256<(s.length:Int) →
R (decide ((s.length:Int)<512))) ∧
(¬(256<(s.length:Int)) →
R false))))))) ∧
(¬(i<(s.length:Int)) →
(((s.length:Int)≤12 →
R true) ∧
(¬((s.length:Int)≤12) →
((256<(s.length:Int) →
R (decide ((s.length:Int)<512))) ∧
(¬(256<(s.length:Int)) →
R false))))))))
theorem pok_r40_Few{O:Nat→Prop}{w:World}{s As ls cs}{R:Bool→Prop}(h:ygV s R)(hO:∀ k,O k→k<w.heap.size)(hA0:(FP.sl (cL cI) As ls cs s).P O w) :
    Calls Tryz.prog 12 #[.slice As ls cs] w fun e w'=>∃ r,e = .returned (.bool (r))∧Sep w no O w' (rl [])∧R r:=by
  unfold ygV at h;have hS:Sep w no O w (rl [Res.ro (FP.sl (cL cI) As ls cs s)]):=Sep.startl hO [(FP.sl (cL cI) As ls cs s)] ⟨hA0,trivial⟩;refine yap (l:=[.slice As ls cs]) func12 rfl ntmps12 zY (zs (zQ (.bool (false)) (yaa (yaf (zs (zQ (ii 0) (yaa (yai ?_))))))));obtain ⟨I2,⟨m0,h0⟩,hr⟩:=h;refine yaz (fun m E ds w'=>∃ i,I2 m i∧ds=[]∧E 0 = .slice As ls cs∧E 3=(ii i)∧Sep w no O w' (rl [Res.ro (FP.sl (cL cI) As ls cs s)])) m0 ⟨_,h0,rfl,rfl,rfl,hS.sel [0]⟩ ?_;clear h0 hS;rintro m2 E ds w2 ⟨i,h,rfl,H0,H3,hS⟩ ag;replace h:=hr m2 i h;clear hr;refine yaf (yaf ?_);obtain ⟨J2,hJ,h⟩:=h;refine yc1 (fun E ds w'=>J2∧ds=[]∧E 0 = .slice As ls cs∧E 3=(ii i)∧Sep w no O w' (rl [Res.ro (FP.sl (cL cI) As ls cs s)])) ?_ ?_
  · clear h hS;rintro E ds w3 ⟨h,rfl,H0,H3,hS⟩;replace h:=hJ h;refine yaf (yai (zs (zH H0 (zH H3 ?_))));obtain ⟨hx,h⟩:=h;refine zq (zi underlying25 yaL (yaP (hS.rdr 0 rfl) hx)) ?_;obtain ⟨A,l,c,hc,hq⟩:=hS.el 0 rfl hx 1 2 rfl rfl (by decide);replace hS:=hq;clear hq;refine zq (yau (v:=(.slice A l c)) rfl underlying29 rfl (hS.clr 2 rfl)) (zq (yaF (n:=(gx s i.toNat).length) rfl underlying29 (yaE (hS.rdr 1 rfl))) (zq zG (yaa ?_)));by_cases hp:20<((gx s i.toNat).length:Int)
    · replace h:=h.1 hp;exact zc hp (zs (zQ (.bool (false)) (yaa (yak rfl rfl ⟨_,rfl,hS.sel [],h⟩))))
    · replace h:=h.2 hp;refine zd hp (yag (yah (zr (zH H3 ?_))));obtain ⟨hi,h⟩:=h;refine zq (zA hi) (zQ (ii (i+1)) (yaa ?_));obtain ⟨mq,hlt,h⟩:=h;exact ag mq _ _ _ ⟨_,h,rfl,H0,rfl,hS.sel [0]⟩ hlt
  clear hJ;intro j;refine zr (zH H3 (zH H0 (zq (yaF (n:=s.length) rfl underlying25 (yaE (hS.rdr 0 rfl))) (zq zL (zM (.bool (decide (i<(s.length:Int)))) ?_)))));by_cases hp2:i<(s.length:Int)
  · replace h:=h.1 hp2;refine zW rfl rfl (zT hp2) (yad H3) (zW rfl rfl (zT hp2) zL (zq (yas (v:=(.bool (decide (i<20)))) (zT hp2) rfl) (yaa ?_)));by_cases hp3:i<20
    · replace h:=h.1 hp3;exact zc hp3 (yag (j _ _ _ ⟨h,rfl,H0,H3,hS.sel [0]⟩))
    · replace h:=h.2 hp3;refine zd hp3 (yax rfl (zs (zH H0 (zq (yaF (n:=s.length) rfl underlying25 (yaE (hS.rdr 0 rfl))) (zq (yl1 rfl rfl) (zM (.bool (decide ((s.length:Int)≤12))) ?_))))));by_cases hp4:(s.length:Int)≤12
      · replace h:=h.1 hp4;exact zV rfl rfl (zT hp4) (zV rfl rfl (zT hp4) (zV rfl rfl (zT hp4) (zV rfl rfl (zT hp4) (zX (zX (zX (zV rfl rfl (zT hp4) (zq (yas (v:=(.bool (true))) (zT hp4) rfl) (zQ (.bool (true)) (yaa (yak rfl rfl ⟨_,rfl,hS.sel [],h⟩)))))))))))
      · replace h:=h.2 hp4;refine zW rfl rfl (zF hp4) (yad H0) (zW rfl rfl (zF hp4) (yaF (n:=s.length) rfl underlying25 (yaE (hS.rdr 0 rfl))) (zW rfl rfl (zF hp4) zG (zW rfl rfl (zF hp4) (zm (.bool (decide (256<(s.length:Int))))) ?_)));by_cases hp5:256<(s.length:Int)
        · replace h:=h.1 hp5;exact zW rfl rfl (zT hp5) (yad H0) (zW rfl rfl (zT hp5) (yaF (n:=s.length) rfl underlying25 (yaE (hS.rdr 0 rfl))) (zW rfl rfl (zT hp5) zL (zW rfl rfl (zF hp4) (yas (v:=(.bool (decide ((s.length:Int)<512)))) (zT hp5) rfl) (zq (yal (v:=(.bool (decide ((s.length:Int)<512)))) (zF hp4) rfl) (zQ (.bool (decide ((s.length:Int)<512))) (yaa (yak rfl rfl ⟨_,rfl,hS.sel [],h⟩)))))))
        · replace h:=h.2 hp5;exact zV rfl rfl (zF hp5) (zV rfl rfl (zF hp5) (zV rfl rfl (zF hp5) (zW rfl rfl (zF hp4) (yal (v:=(.bool (false))) (zF hp5) rfl) (zq (yal (v:=(.bool (false))) (zF hp4) rfl) (zQ (.bool (false)) (yaa (yak rfl rfl ⟨_,rfl,hS.sel [],h⟩)))))))
  · replace h:=h.2 hp2;refine zV rfl rfl (zF hp2) (zV rfl rfl (zF hp2) (zq (yal (v:=(.bool (false))) (zF hp2) rfl) (yaa (yat rfl (yax rfl (zs (zH H0 (zq (yaF (n:=s.length) rfl underlying25 (yaE (hS.rdr 0 rfl))) (zq (yl1 rfl rfl) (zM (.bool (decide ((s.length:Int)≤12))) ?_))))))))));by_cases hp6:(s.length:Int)≤12
    · replace h:=h.1 hp6;exact zV rfl rfl (zT hp6) (zV rfl rfl (zT hp6) (zV rfl rfl (zT hp6) (zV rfl rfl (zT hp6) (zX (zX (zX (zV rfl rfl (zT hp6) (zq (yas (v:=(.bool (true))) (zT hp6) rfl) (zQ (.bool (true)) (yaa (yak rfl rfl ⟨_,rfl,hS.sel [],h⟩)))))))))))
    · replace h:=h.2 hp6;refine zW rfl rfl (zF hp6) (yad H0) (zW rfl rfl (zF hp6) (yaF (n:=s.length) rfl underlying25 (yaE (hS.rdr 0 rfl))) (zW rfl rfl (zF hp6) zG (zW rfl rfl (zF hp6) (zm (.bool (decide (256<(s.length:Int))))) ?_)));by_cases hp7:256<(s.length:Int)
      · replace h:=h.1 hp7;exact zW rfl rfl (zT hp7) (yad H0) (zW rfl rfl (zT hp7) (yaF (n:=s.length) rfl underlying25 (yaE (hS.rdr 0 rfl))) (zW rfl rfl (zT hp7) zL (zW rfl rfl (zF hp6) (yas (v:=(.bool (decide ((s.length:Int)<512)))) (zT hp7) rfl) (zq (yal (v:=(.bool (decide ((s.length:Int)<512)))) (zF hp6) rfl) (zQ (.bool (decide ((s.length:Int)<512))) (yaa (yak rfl rfl ⟨_,rfl,hS.sel [],h⟩)))))))
      · replace h:=h.2 hp7;exact zV rfl rfl (zF hp7) (zV rfl rfl (zF hp7) (zV rfl rfl (zF hp7) (zW rfl rfl (zF hp6) (yal (v:=(.bool (false))) (zF hp7) rfl) (zq (yal (v:=(.bool (false))) (zF hp6) rfl) (zQ (.bool (false)) (yaa (yak rfl rfl ⟨_,rfl,hS.sel [],h⟩)))))))
def ybd(g:Int)(g2:List E3)(R:Int→Prop):Prop :=
ydf g g2 (fun r r2 =>
((r2=0 →
((r=true →
R 0) ∧
(¬(r=true) →
R 13))) ∧
(¬(r2=0) →
R r2)))
theorem ybP{O:Nat→Prop}{w:World}{g g2 Ag lg cg}{R:Int→Prop}(h:ybd g g2 R)(hO:∀ k,O k→k<w.heap.size)(hA0:(FP.sl c3 Ag lg cg g2).P O w) :
    Calls Tryz.prog 69 #[(.agg #[ii g,.slice Ag lg cg])] w fun e w'=>∃ r3,e = .returned (ii r3)∧Sep w no O w' (rl [])∧R r3:=by
  unfold ybd at h;have hS:Sep w no O w (rl [Res.ro (FP.sl c3 Ag lg cg g2)]):=Sep.startl hO [(FP.sl c3 Ag lg cg g2)] ⟨hA0,trivial⟩;refine yap (l:=[(.agg #[ii g,.slice Ag lg cg])]) func69 rfl ntmps69 zY (zs (zn (ya8 (v:=(.agg #[ii g,.slice Ag lg cg])) rfl ?_)));intro g3 w2 hN;replace hS:=hS.neu 1 [ii g,.slice Ag lg cg] hN;clear hN;refine zb (zQ (ii 0) (yaa (zs (zq (yaq (vs:=[ii g,.slice Ag lg cg]) rfl underlying24 rfl yao ⟨hS.bc 1 0,hS.bc 1 1,trivial⟩) (zn (yam rfl (am1 rfl) enter_112 ((yem h (yaB _) (hS.rdr 0 rfl)).mono ?_)))))));rintro _ w3 ⟨r,r2,rfl,hC,h⟩;replace hS:=hS.pur hC.pure;refine ⟨_,rfl,?_⟩;refine zb (zM (.tuple #[(.bool (r)),ii r2]) (zq (zx (.bool (r))) (zq (zx (ii r2)) (zQ (.bool (r)) (zQ (ii r2) (yaa (yaf (yai (zs (zM (ii r2) (zq zN (zQ (.bool (!(decide (r2=0)))) (yaa ?_)))))))))))));by_cases hp:r2=0
  · replace h:=h.1 hp;refine ze hp (zs (zM (.bool (r)) (zq (ycX rfl) (zQ (.bool (!(r))) (yaa ?_)))));by_cases hp2:r=true
    · replace h:=h.1 hp2;exact yat (zC (zB hp2)) (yag (yah (zs (zQ (ii 0) (yaa (yak rfl rfl ⟨_,rfl,hS.sel [],h⟩))))))
    · replace h:=h.2 hp2;exact yar (zC (zB (zI hp2))) (zs (zQ (ii 13) (yaa (yak rfl rfl ⟨_,rfl,hS.sel [],h⟩))))
  · replace h:=h.2 hp;exact zf hp (zs (zM (ii r2) (zQ (ii r2) (yaa (yak rfl rfl ⟨_,rfl,hS.sel [],h⟩)))))
def ydP(a:Int)(b:Int)(R:Int→Int→Prop):Prop :=
R (mnF a b) (mxF a b)
theorem yiE{O:Nat→Prop}{w:World}{a b}{R:Int→Int→Prop}(h:ydP a b R)(hO:∀ k,O k→k<w.heap.size) :
    Calls Tryz.prog 142 #[ii a,ii b] w fun e w'=>∃ r r2,e = .returned (.agg #[ii r,ii r2])∧Sep w no O w' (rl [])∧R r r2:=by
  unfold ydP at h;have hS:Sep w no O w (rl []):=Sep.start w hO;refine yap (l:=[ii a,ii b]) func142 rfl ntmps142 zY (zs (zn (yaO ybl ?_)));intro g w2 hN;replace hS:=hS.neu 0 [ii 0,ii 0] hN;clear hN;refine zb (yaa (zs (zM (ii a) (zM (ii b) (zq (yja rfl rfl) (zM (ii a) (zM (ii b) (zq (v_max2 rfl rfl) (zn (yck (l:=[(0,(ii (mnF a b))),(1,(ii (mxF a b)))]) (cells:=[(ii (mnF a b)),(ii (mxF a b))]) (places:=[(0,1),(1,1)]) (bp2 rfl rfl) underlying133 ybl (by kernel_rfl) rfl ?_))))))))));refine zb (zo (yaV (b:=g) (o:=0) (cells:=#[(ii (mnF a b)),(ii (mxF a b))]) rfl rfl ybl rfl rfl (yaI (hS.bx 0 rfl) zY) ?_));intro w3 e1;replace hS:=hS.bstn 0 rfl 0 [(ii (mnF a b)),(ii (mxF a b))] e1;clear e1;exact zb (yaa (yg1 rfl (rv_n (vs:=[(ii (mnF a b)),(ii (mxF a b))]) rfl underlying133 rfl ybl ⟨hS.bc 0 0,hS.bc 0 1,trivial⟩) ⟨_,_,rfl,hS.sel [],h⟩))
def ycK(m2:List (List Int×Int))(n:Int)(R:Int→(List E3)→Prop):Prop :=
(∃ I2:Nat→(List E3)→(List Nat)→Prop,(∃ m0,I2 m0 ([]) ([]))∧∀ m3 g4 seen,I2 m3 g4 seen → 
(KOk 2 m2 ∧
((∀ (j:Nat) (ka kb:Int) (kv:Int),m2[j]? = some ([ka,kb],kv)→j∉seen →
(g4.length+1≤1000000000 ∧
∃ m4,m4<m3∧I2 m4 (g4++[(ka,kb,kv)]) (seen++[j]))) ∧
((∀ j:Nat,j<m2.length→j∈seen) →
yhR g4 (fun y =>
R n y)))))
theorem yhr{S O:Nat→Prop}{w:World}{m2 n gm}{R:Int→(List E3)→Prop}(h:ycK m2 n R)(hS:Sep w S O w (rl [Res.obj gm (mapO (Value.int .i64) m2)])) :
    Calls Tryz.prog 143 #[(Value.map (some gm)),ii n] w fun e w'=>∃ r r2 Ar lr cr,e = .returned (.agg #[ii r,.slice Ar lr cr])∧Sep w S O w' (rl [Res.obj gm (mapO (Value.int .i64) m2),Res.own c3 79 Ar lr cr r2])∧R r r2:=by
  unfold ycK at h;refine yap (l:=[(Value.map (some gm)),ii n]) func143 rfl ntmps143 zY (zs (zn (yaO yao ?_)));intro g w2 hN;replace hS:=hS.neu 1 [ii 0,.slice none 0 0] hN;clear hN;refine zb (yaa (zs (zM (ii n) (zn (yck (l:=[(0,(ii n))]) (cells:=[ii n,.slice none 0 0]) (places:=[(0,1),(1,1)]) (bp1 rfl) underlying24 yao (by kernel_rfl) rfl ?_)))));refine zb (zn (yaO yao ?_));intro g2 w3 hN;replace hS:=hS.neu 2 [ii 0,.slice none 0 0] hN;clear hN;refine zb (zo (yaV (b:=g2) (o:=0) (cells:=#[ii n,.slice none 0 0]) rfl rfl yao rfl rfl (yaI (hS.bx 2 rfl) zY) ?_));intro w4 e1;replace hS:=hS.bstn 2 rfl 0 [ii n,.slice none 0 0] e1;clear e1;refine zb (yaa (yaf (zs (zM (Value.map (some gm)) (zn (n_range rfl underlying170 (hS.mp 0 rfl) ?_))))));intro g3 w5 e1 e2;replace hS:Sep w S O w5 (stl _ 3 (Res.obj g3 (mitO gm m2.length ([])))):=hS.newm 3 rfl e1 e2;clear e1 e2;refine zb (yaa (yai ?_));replace hS:=hS.nil 4 rfl c3 79;obtain ⟨I2,⟨m0,h0⟩,hr⟩:=h;refine yaz (fun m E ds w'=>∃ g4 seen Ag lg cg,I2 m g4 seen∧ds=[]∧E 0 = .map (some gm)∧E 4 = .pointer (some ⟨g,0,none⟩)∧E 5 = .pointer (some ⟨g2,0,none⟩)∧E 11 = .pointer (some ⟨g3,0,none⟩)∧Sep w S O w' (rl [Res.obj gm (mapO (Value.int .i64) m2),Res.box 24 g [ii 0,.slice none 0 0],Res.box 24 g2 [ii n,.slice Ag lg cg],Res.own c3 79 Ag lg cg g4,Res.obj g3 (mitO gm m2.length seen)])) m0 ⟨_,_,_,_,_,h0,rfl,rfl,rfl,rfl,rfl,hS.sel [0,1,2,4,3]⟩ ?_;clear h0 hS;rintro m3 E ds w6 ⟨g4,seen,Ag,lg,cg,h,rfl,H0,H4,H5,H11,hS⟩ ag;replace h:=hr m3 g4 seen h;clear hr;refine zs ?_;obtain ⟨hx,h⟩:=h;refine zn (n_next2 (vE:=(Value.int .i64)) (seen:=seen) hx H11 (hS.mp 4 rfl) (hS.mp 0 rfl) ?_ ?_)
  · intro hall;replace h:=h.2 hall;clear hall;refine zb (zq (zx (.bool (false))) (yaa (yaf (yat rfl (yax rfl (zs (zq (yan H5 underlying24 rfl ybv) (zq (zl underlying22 (hS.bc 2 1)) ?_))))))));have hB:=hS.lend (asc [(3,0)]) [3] (by decide) ⟨.inl (ybE rfl),trivial⟩;refine zn (ydx (vs:=#[.slice Ag lg cg,(.func (Fn.func 161) #[] #[])]) (us:=#[]) rfl (am2 rfl rfl) enter_160 ((ya4 (by simp) (pok_sort_edges h hB)).mono ?_));rintro _ w13 ⟨y,rfl,hC,h⟩;replace hS:=hS.back (asc [(3,0)]) (yey (by decide)) hC;clear hC hB;refine ⟨_,rfl,?_⟩;refine zb (yaa (zs (zq (yaq (vs:=[ii n,.slice Ag lg cg]) H5 underlying24 rfl yao ⟨hS.bc 2 0,hS.bc 2 1,trivial⟩) (zo (yaV (b:=g) (o:=0) (cells:=#[ii n,.slice Ag lg cg]) H4 rfl yao rfl rfl (yaI (hS.bx 1 rfl) zY) ?_)))));intro w14 e1;replace hS:=hS.bstn 1 rfl 0 [ii n,.slice Ag lg cg] e1;clear e1;exact zb (yaa (yg1 rfl (rv_n (vs:=[ii n,.slice Ag lg cg]) H4 underlying24 rfl yao ⟨hS.bc 1 0,hS.bc 1 1,trivial⟩) ⟨_,_,_,_,_,rfl,hS.sel [0,3],h⟩))
  · intro j ka kb kv w7 hj hns e1 e2;replace h:=h.1 j ka kb kv hj hns;replace hS:=hS.mst 4 rfl e1 e2;clear e1 e2;refine zb (zq (zx (.bool (true))) (yaa (yaf (yar rfl (yag (yai (zs (zq (v_entry (vE:=(Value.int .i64)) hj H11 (hS.mp 4 rfl) (hS.mp 0 rfl)) (zq (zx (.agg #[ii ka,ii kb])) (zq (zx (ii kv)) (zn (yaO ybl ?_))))))))))));intro g5 w8 hN;replace hS:=hS.neu 5 [ii 0,ii 0] hN;clear hN;refine zb (zo (yaV (b:=g5) (o:=0) (cells:=#[ii ka,ii kb]) rfl rfl ybl rfl rfl (yaI (hS.bx 5 rfl) zY) ?_));intro w9 e1;replace hS:=hS.bstn 5 rfl 0 [ii ka,ii kb] e1;clear e1;refine zb (zQ (ii kv) (yaa (zr (zq (yan H5 underlying24 rfl ybv) (zq (zl underlying22 (hS.bc 2 1)) (zq (yan rfl underlying133 rfl yaj) (zq (zl underlying3 (hS.bc 5 0)) (zq (yan rfl underlying133 rfl yaj) (zq (zl underlying3 (hS.bc 5 1)) (zM (ii kv) (zn (yck (l:=[(0,(ii ka)),(1,(ii kb)),(2,(ii kv))]) (cells:=[ii ka,ii kb,ii kv]) (places:=[(0,1),(1,1),(2,1)]) (bp3 rfl rfl rfl) underlying79 yaK (by kernel_rfl) rfl ?_))))))))))));refine zb (zn (yaX (l:=[(0,(.agg #[ii ka,ii kb,ii kv]))]) (cells:=[ii ka,ii kb,ii kv]) (bp1 rfl) underlying22 yaK rfl rfl ?_));intro g6 w10 hN;replace hS:=hS.litf (n:=1) 6 rfl (fP (fI .i64) (fP (fI .i64) (fI .i64))) hN ([(ka,kb,kv)]:List E3) rfl (by decide) rfl;clear hN;refine zb ?_;obtain ⟨hx2,h⟩:=h;refine zn (ygp (c:=c3) rfl rfl underlying22 underlying22 yaK rfl rfl (by decide) hS 3 rfl (hS.yo 6 rfl) hx2 ?_);clear hS;intro A c w11 hS;refine zb (zq (yan H5 underlying24 rfl ybv) (zo (zt (.slice A (lg+1) c) ybv (hS.bwr 2 rfl (j:=1) rfl) ?_)));intro w12 e1;replace hS:=hS.bst 2 rfl 1 (.slice A (lg+1) c) e1;clear e1;refine zb (yaa (yah ?_));obtain ⟨mq,hlt,h⟩:=h;exact ag mq _ _ _ ⟨_,_,_,_,_,h,rfl,H0,H4,H5,H11,hS.sel [0,1,2,3,4]⟩ hlt
def yd7(g:Int)(g2:List E3)(n:Int)(Fto:Int→(Int→Prop)→Prop)(R:Int→(List E3)→Prop):Prop :=
(∃ I2:Nat→Int→(List (List Int×Int))→Prop,(∃ m0,I2 m0 0 ([]:List (List Int×Int)))∧∀ m2 v m3,I2 m2 v m3 → 
((v<(g2.length:Int) →
((0≤v∧v<(g2.length:Int)) ∧
Fto ((ge g2 v.toNat).1) (fun (r:Int) =>
Fto ((ge g2 v.toNat).2.1) (fun (r2:Int) =>
(∃ J2:Prop,(J2→ydP r r2 (fun r3 r4 =>
(KOk 2 m3 ∧
yia 2 ([r3,r4]) ∧
(In64 (v+1) ∧
∃ m4,m4<m2∧I2 m4 (v+1) (mput m3 ([r3,r4]) ((ge g2 v.toNat).2.2)))))) ∧
((0≤r →
((0≤r2 →
J2) ∧
(¬(0≤r2) →
(In64 (v+1) ∧
∃ m5,m5<m2∧I2 m5 (v+1) m3)))) ∧
(¬(0≤r) →
(In64 (v+1) ∧
∃ m6,m6<m2∧I2 m6 (v+1) m3)))))))) ∧
(¬(v<(g2.length:Int)) →
ycK m3 n (fun r5 r6 =>
R r5 r6))))
theorem yjL{O:Nat→Prop}{w:World}{g:Int}{g2:List (Int×Int×Int)}{n:Int}{Fto:Int→(Int→Prop)→Prop}{Ag:Option Addr}{lg:Nat}{cg:Nat}{to:Value}{R:Int→(List (Int×Int×Int))→Prop}(h:yd7 g g2 n Fto R)(hO:∀ k,O k→k<w.heap.size)(hA0:(FP.sl c3 Ag lg cg g2).P O w)(hA1:(FP.st fun w'=>∃ (fid:Nat) (us:Array Value),to=Value.func (.func fid) #[] us∧Enters Tryz.prog fid∧∀ (x0:Int) (R:Int→Prop),Fto x0 R→Calls Tryz.prog fid (#[(Value.int .i64 x0)]++us) w' fun e w''=>∃ r0:Int,e = .returned (Value.int .i64 r0)∧Sep w' no no w'' (rl [])∧R r0).P O w) :
    Calls Tryz.prog 114 #[(.agg #[ii g,.slice Ag lg cg]),ii n,to] w fun e w'=>∃ r7 r8 Ar2 lr2 cr2,e = .returned (.agg #[ii r7,.slice Ar2 lr2 cr2])∧Sep w no O w' (rl [Res.own c3 79 Ar2 lr2 cr2 r8])∧R r7 r8:=by
  unfold yd7 at h;have hS:Sep w no O w (rl [Res.ro (FP.sl c3 Ag lg cg g2),Res.ro (FP.st fun w'=>∃ (fid:Nat) (us:Array Value),to=Value.func (.func fid) #[] us∧Enters Tryz.prog fid∧∀ (x0:Int) (R:Int→Prop),Fto x0 R→Calls Tryz.prog fid (#[(Value.int .i64 x0)]++us) w' fun e w''=>∃ r0:Int,e = .returned (Value.int .i64 r0)∧Sep w' no no w'' (rl [])∧R r0)]):=Sep.startl hO [(FP.sl c3 Ag lg cg g2),(FP.st fun w'=>∃ (fid:Nat) (us:Array Value),to=Value.func (.func fid) #[] us∧Enters Tryz.prog fid∧∀ (x0:Int) (R:Int→Prop),Fto x0 R→Calls Tryz.prog fid (#[(Value.int .i64 x0)]++us) w' fun e w''=>∃ r0:Int,e = .returned (Value.int .i64 r0)∧Sep w' no no w'' (rl [])∧R r0)] ⟨hA0,hA1,trivial⟩;refine yap (l:=[(Value.agg #[(Value.int .i64 g),(Value.slice Ag lg cg)]),(Value.int .i64 n),to]) func114 rfl ntmps114 (Nat.le_of_ble_eq_true rfl) ?_;refine yaf ?_;refine yay yaD ?_;refine rl_n rfl rfl rfl rfl (ya8 (v:=(.agg #[(.int .i64 g),.slice Ag lg cg])) rfl ?_);intro g3 w2 hN;replace hS:Sep w no O w2 (stl _ 2 (Res.box 24 g3 [(Value.int .i64 g),(Value.slice Ag lg cg)])):=hS.new 2 rfl hN;clear hN;refine ⟨Stb.none _,?_⟩;refine rl_n rfl rfl rfl rfl (yaO yao ?_);intro g4 w3 hN;replace hS:Sep w no O w3 (stl _ 3 (Res.box 24 g4 [(Value.int .i64 0),(Value.slice none 0 0)])):=hS.new 3 rfl hN;clear hN;refine ⟨Stb.none _,?_⟩;refine yaa ?_;refine yaf ?_;refine yay yaD ?_;refine rl_n rfl rfl rfl rfl (n_mkmap (vE:=(Value.int .i64)) rfl ?_);intro g5 w4 e1 e2;replace hS:Sep w no O w4 (stl _ 4 (Res.obj g5 (mapO (Value.int .i64) ([]:List (List Int×Int))))):=hS.newm 4 rfl e1 e2;clear e1 e2;refine ⟨Stb.none _,?_⟩;refine rl_q rfl rfl rfl (ybI (v:=(Value.map (some g5))) rfl) ?_;refine yaa ?_;refine yaf ?_;refine yaf ?_;refine yay yaD ?_;refine rl_q rfl rfl rfl (yan rfl underlying24 rfl ybv) ?_;refine rl_q rfl rfl rfl (yau rfl underlying22 rfl (Row.cell (hS.bx 2 rfl) (i:=1) rfl)) ?_;refine rl_q rfl rfl rfl (yaF (n:=g2.length) rfl underlying22 (yaE (hS.rdr 0 rfl))) ?_;refine rl_q rfl rfl rfl (yad (v:=(.int .i64 0)) rfl) ?_;refine yaa ?_;refine yai ?_;obtain ⟨I2,⟨m0,h0⟩,hr⟩:=h;refine yaz (fun m E ds w'=>∃ v:Int,∃ m3:List (List Int×Int),I2 m v m3∧ds=[]∧E 1=(Value.int .i64 n)∧E 2=to∧E 6=(Value.pointer (some (⟨g4,0,none⟩:Addr)))∧E 7=(Value.map (some g5))∧E 14=(Value.slice Ag lg cg)∧E 15=(Value.int .i64 ((g2.length:Nat):Int))∧E 16=(Value.int .i64 v)∧Sep w no O w' (rl [Res.ro (FP.st fun w'=>∃ (fid:Nat) (us:Array Value),to=Value.func (.func fid) #[] us∧Enters Tryz.prog fid∧∀ (x0:Int) (R:Int→Prop),Fto x0 R→Calls Tryz.prog fid (#[(Value.int .i64 x0)]++us) w' fun e w''=>∃ r0:Int,e = .returned (Value.int .i64 r0)∧Sep w' no no w'' (rl [])∧R r0),Res.box 24 g4 [(Value.int .i64 0),(Value.slice none 0 0)],Res.obj g5 (mapO (Value.int .i64) m3),Res.ro (FP.sl c3 Ag lg cg g2)])) m0 ⟨_,_,h0,rfl,rfl,rfl,rfl,rfl,rfl,rfl,rfl,(hS.sel [1,3,4,0] (by decide))⟩ ?_;clear h0 hS;rintro m2 E ds w5 ⟨v,m3,h,rfl,H1,H2,H6,H7,H14,H15,H16,hS⟩ ag;replace h:=hr m2 v m3 h;clear hr;refine yaf ?_;refine yay yaD ?_;refine rl_q rfl rfl rfl (ydj H16 H15) ?_;refine yaa ?_;refine yaf ?_;by_cases hp:v<((g2.length:Nat):Int)
  · replace h:=h.1 hp;refine yar (congrArg Value.bool (decide_eq_true hp)) ?_;refine yag ?_;refine yaf ?_;refine yai ?_;refine yaf ?_;refine yay yaD ?_;obtain ⟨hx,h⟩:=h;refine rl_q rfl rfl rfl (ycI H14 H16 underlying22 yaK (yaP (hS.rdr 3 rfl) hx)) ?_;refine rl_q rfl rfl rfl (yaq (vs:=[(.int .i64 ((ge g2 v.toNat).1)),(.int .i64 ((ge g2 v.toNat).2.1)),(.int .i64 ((ge g2 v.toNat).2.2))]) rfl underlying79 rfl yaK (rd_fs (hS.rdr 3 rfl) hx (fun q=>ydu q))) ?_;refine rl_n rfl rfl rfl rfl (yaO yaK ?_);intro g6 w6 hN;replace hS:Sep w no O w6 (stl _ 4 (Res.box 79 g6 [(Value.int .i64 0),(Value.int .i64 0),(Value.int .i64 0)])):=hS.new 4 rfl hN;clear hN;refine ⟨Stb.none _,?_⟩;refine rl_n0 rfl rfl rfl (yaV (b:=g6) (o:=0) (cells:=#[(.int .i64 ((ge g2 v.toNat).1)),(.int .i64 ((ge g2 v.toNat).2.1)),(.int .i64 ((ge g2 v.toNat).2.2))]) rfl rfl yaK rfl rfl (yaI (hS.bx 4 rfl) (Nat.le_of_ble_eq_true rfl)) ?_);intro w7 e1;replace hS:=hS.bstn 4 rfl 0 [(Value.int .i64 ((ge g2 v.toNat).1)),(Value.int .i64 ((ge g2 v.toNat).2.1)),(Value.int .i64 ((ge g2 v.toNat).2.2))] e1;clear e1;refine ⟨Stb.none _,?_⟩;refine yaa ?_;refine yaf ?_;refine yaT [0,1,2,4,5,6,3,7,8,9] (fun i=>match i with | 3=>[4,5,6] | _=>[]) yaD (by kernel_rfl) (by kernel_rfl) ?_;replace hS:=hS.drew;refine rp_q rfl rfl rfl (yad (v:=to) H2) ?_;refine rp_q rfl rfl rfl (yan rfl underlying79 rfl yaj) ?_;refine rp_q rfl rfl rfl (yau rfl underlying3 rfl (Row.cell (hS.bx 4 rfl) (i:=0) rfl)) ?_;refine rp_q rfl rfl rfl (yad (v:=to) H2) ?_;refine rp_q rfl rfl rfl (yan rfl underlying79 rfl yaj) ?_;refine rp_q rfl rfl rfl (yau rfl underlying3 rfl (Row.cell (hS.bx 4 rfl) (i:=1) rfl)) ?_;obtain ⟨fid,us,hf,he,hcl⟩:=hS.ro 0 rfl _ (Keeps.refl _ _);replace h:=hcl _ _ h;clear hcl;refine rp_n rfl rfl rfl rfl (ydx (hf) (am1 rfl) he (h.mono ?_));clear hf he;rintro _ w8 ⟨r,rfl,hC,h⟩;replace hS:=hS.pur hC.pure;refine ⟨_,rfl,?_⟩;refine ⟨⟨fun _=>(yau rfl underlying3 rfl (Row.cell (hS.bx 4 rfl) (i:=1) rfl)),⟨fun _=>(yan rfl underlying79 rfl yaj),⟨fun _=>(yad (v:=to) H2),⟨fun hh=>Bool.noConfusion (show false=true from hh),⟨fun hh=>Bool.noConfusion (show false=true from hh),⟨fun hh=>Bool.noConfusion (show false=true from hh),trivial⟩⟩⟩⟩⟩⟩,?_⟩;obtain ⟨fid,us,hf,he,hcl⟩:=hS.ro 0 rfl _ (Keeps.refl _ _);replace h:=hcl _ _ h;clear hcl;refine rp_n rfl rfl rfl rfl (ydx (hf) (am1 rfl) he (h.mono ?_));clear hf he;rintro _ w9 ⟨r2,rfl,hC,h⟩;replace hS:=hS.pur hC.pure;refine ⟨_,rfl,?_⟩;refine ⟨Stb.none _,?_⟩;refine rp_q rfl rfl rfl (ybI (v:=(.int .i64 r)) rfl) ?_;refine rp_q rfl rfl rfl (ybI (v:=(.int .i64 r2)) rfl) ?_;refine yaZ ?_;refine yaf ?_;obtain ⟨J2,hJ,h⟩:=h;refine wt_cutA1 (fun E ds w'=>J2∧ds=[]∧E 1=(Value.int .i64 n)∧E 2=to∧E 6=(Value.pointer (some (⟨g4,0,none⟩:Addr)))∧E 7=(Value.map (some g5))∧E 9=(Value.pointer (some (⟨g6,0,none⟩:Addr)))∧E 10=(Value.int .i64 r)∧E 11=(Value.int .i64 r2)∧E 14=(Value.slice Ag lg cg)∧E 15=(Value.int .i64 ((g2.length:Nat):Int))∧E 16=(Value.int .i64 v)∧Sep w no O w' (rl [Res.ro (FP.st fun w'=>∃ (fid:Nat) (us:Array Value),to=Value.func (.func fid) #[] us∧Enters Tryz.prog fid∧∀ (x0:Int) (R:Int→Prop),Fto x0 R→Calls Tryz.prog fid (#[(Value.int .i64 x0)]++us) w' fun e w''=>∃ r0:Int,e = .returned (Value.int .i64 r0)∧Sep w' no no w'' (rl [])∧R r0),Res.box 24 g4 [(Value.int .i64 0),(Value.slice none 0 0)],Res.obj g5 (mapO (Value.int .i64) m3),Res.box 79 g6 [(Value.int .i64 ((ge g2 v.toNat).1)),(Value.int .i64 ((ge g2 v.toNat).2.1)),(Value.int .i64 ((ge g2 v.toNat).2.2))],Res.ro (FP.sl c3 Ag lg cg g2)])) ?_ ?_
    · clear h hS;rintro E ds w10 ⟨h,rfl,H1,H2,H6,H7,H9,H10,H11,H14,H15,H16,hS⟩;replace h:=hJ h;refine yaT [0,1,2,4,5,3,6] (fun i=>match i with | 3=>[0,4,5] | _=>[]) yaD (by kernel_rfl) (by kernel_rfl) ?_;replace hS:=hS.drew;refine zp (yad H7) (zp (yad H10) (zp (yad H11) (zp (yan H9 underlying79 rfl yaj) (zp (zl underlying3 (hS.bc 3 2)) (rp_n rfl rfl rfl rfl (yam rfl (am2 rfl rfl) enter_142 ((yiE h (yaB _)).mono ?_)))))));rintro _ w11 ⟨r3,r4,rfl,hC,h⟩;replace hS:=hS.pur hC.pure;refine ⟨_,rfl,?_⟩;refine ⟨⟨fun _=>(zl underlying3 (hS.bc 3 2)),⟨fun _=>(yan H9 underlying79 rfl yaj),⟨fun hh=>zZ hh,⟨fun hh=>zZ hh,⟨fun _=>(yad H7),trivial⟩⟩⟩⟩⟩,?_⟩;obtain ⟨hx2,h⟩:=h;obtain ⟨hx3,h⟩:=h;refine yjg rfl rfl rfl (n_mput (vE:=(Value.int .i64)) (keyt_133) hx2 hx3 (v:=((ge g2 v.toNat).2.2)) rfl rfl rfl underlying170 (hS.mp 2 rfl) ?_);intro w12 e1 e2;replace hS:=hS.mst 2 rfl e1 e2;clear e1 e2;refine zb (yaZ (yah (zr ?_)));obtain ⟨hi,h⟩:=h;refine zq (ybS H16 rfl hi) (zM (ii (v+1)) (yaa ?_));obtain ⟨mq,hlt,h⟩:=h;exact ag mq _ _ _ ⟨_,_,h,rfl,H1,H2,H6,H7,H14,H15,rfl,hS.sel [0,1,2,4]⟩ hlt
    clear hJ;intro j;refine zr (zM (ii r) (zq (yiF rfl rfl) (zM (.bool (decide (0≤r))) ?_)));by_cases hp2:0≤r
    · replace h:=h.1 hp2;refine zW rfl rfl (zT hp2) (zm (ii r2)) (zW rfl rfl (zT hp2) (yiF rfl rfl) (zq (yas (v:=(.bool (decide (0≤r2)))) (zT hp2) rfl) (yaa ?_)));by_cases hp3:0≤r2
      · replace h:=h.1 hp3;exact zc hp3 (j _ _ _ ⟨h,rfl,H1,H2,H6,H7,rfl,rfl,rfl,H14,H15,H16,hS.sel [0,1,2,4,3]⟩)
      · replace h:=h.2 hp3;refine zd hp3 (yag (yah (zr ?_)));obtain ⟨hi2,h⟩:=h;refine zq (ybS H16 rfl hi2) (zM (ii (v+1)) (yaa ?_));obtain ⟨mq,hlt,h⟩:=h;exact ag mq _ _ _ ⟨_,_,h,rfl,H1,H2,H6,H7,H14,H15,rfl,hS.sel [0,1,2,3]⟩ hlt
    · replace h:=h.2 hp2;refine zV rfl rfl (zF hp2) (zV rfl rfl (zF hp2) (zq (yal (v:=(.bool (false))) (zF hp2) rfl) (yaa (yat rfl (yag (yah (zr ?_)))))));obtain ⟨hi3,h⟩:=h;refine zq (ybS H16 rfl hi3) (zM (ii (v+1)) (yaa ?_));obtain ⟨mq,hlt,h⟩:=h;exact ag mq _ _ _ ⟨_,_,h,rfl,H1,H2,H6,H7,H14,H15,rfl,hS.sel [0,1,2,3]⟩ hlt
  · replace h:=h.2 hp;refine zd hp (yax rfl (zs (zH H7 (zH H1 ?_))));have hB:=hS.lend (asc [(2,0),(4,1)]) [2] (by decide) ⟨.inl (ybE rfl),trivial⟩;refine zn (ydx (vs:=#[(Value.map (some g5)),ii n]) (us:=#[]) rfl (am2 rfl rfl) enter_143 ((ya4 (by simp) (yhr h hB)).mono ?_));rintro _ w13 ⟨r5,r6,Ar,lr,cr,rfl,hC,h⟩;replace hS:=hS.back (asc [(2,0),(4,1)]) (yey (by decide)) hC;clear hC hB;refine ⟨_,rfl,?_⟩;refine zb (zo (yaV (b:=g4) (o:=0) (cells:=#[ii r5,.slice Ar lr cr]) H6 rfl yao rfl rfl (yaI (hS.bx 1 rfl) zY) ?_));intro w14 e1;replace hS:=hS.bstn 1 rfl 0 [ii r5,.slice Ar lr cr] e1;clear e1;exact zb (yaa (yg1 rfl (rv_n (vs:=[ii r5,.slice Ar lr cr]) H6 underlying24 rfl yao ⟨hS.bc 1 0,hS.bc 1 1,trivial⟩) ⟨_,_,_,_,_,rfl,hS.sel [4],h⟩))
def ybY(v:Int)(cap:List Int)(R:Int→Prop):Prop :=
ybq cap v (fun r =>
R r)
theorem yhu{O:Nat→Prop}{w:World}{v cap gc Aa Ab Ac}{R:Int→Prop}(h:ybY v cap R)(hO:∀ k,O k→k<w.heap.size)(hA0:(FP.bx 29 gc [(Value.slice Aa Ab Ac)]).P O w)(hA1:(FP.sl cI Aa Ab Ac cap).P O w) :
    Calls Tryz.prog 115 #[ii v,(.pointer (some ⟨gc,0,none⟩))] w fun e w'=>∃ r2,e = .returned (ii r2)∧Sep w no O w' (rl [])∧R r2:=by
  unfold ybY at h;have hS:Sep w no O w (rl [Res.ro (FP.bx 29 gc [.slice Aa Ab Ac]),Res.ro (FP.sl cI Aa Ab Ac cap)]):=Sep.startl hO [(FP.bx 29 gc [.slice Aa Ab Ac]),(FP.sl cI Aa Ab Ac cap)] ⟨hA0,hA1,trivial⟩;refine yap (l:=[ii v,(.pointer (some ⟨gc,0,none⟩))]) func115 rfl ntmps115 zY (zs (zQ (ii 0) (yaa (zs (zq (zl underlying29 (hS.br 0 0)) (zM (ii v) (zn (yam rfl (am2 rfl rfl) enter_116 ((yep h (yaB _) (hS.rdr 1 rfl)).mono ?_)))))))));rintro _ w2 ⟨r,rfl,hC,h⟩;replace hS:=hS.pur hC.pure;refine ⟨_,rfl,?_⟩;exact zb (zQ (ii r) (yaa (yak rfl rfl ⟨_,rfl,hS.sel [],h⟩)))
def ydp(g:Int)(g2:List E3)(set2:List Int)(R:Int→(List E3)→Int→Prop):Prop :=
ybz g g2 set2 (fun r =>
((r=0 →
(((set2.length:Int)=0 →
R 0 ([]) 14) ∧
(¬((set2.length:Int)=0) →
yd7 g g2 (set2.length:Int) (fun x R=>ybY x set2 R) (fun r2 r3 =>
R r2 r3 0)))) ∧
(¬(r=0) →
R 0 ([]) r)))
theorem yh4{O:Nat→Prop}{w:World}{g g2 set2 Ag lg cg Aa Ab Ac}{R:Int→(List E3)→Int→Prop}(h:ydp g g2 set2 R)(hO:∀ k,O k→k<w.heap.size)(hA0:(FP.sl c3 Ag lg cg g2).P O w)(hA1:(FP.sl cI Aa Ab Ac set2).P O w) :
    Calls Tryz.prog 71 #[(.agg #[ii g,.slice Ag lg cg]),.slice Aa Ab Ac] w fun e w'=>∃ r4 r5 r6 Ar2 lr2 cr2,e = .returned (.tuple #[(.agg #[ii r4,.slice Ar2 lr2 cr2]),ii r6])∧Sep w no O w' (rl [Res.own c3 79 Ar2 lr2 cr2 r5])∧R r4 r5 r6:=by
  unfold ydp at h;have hS:Sep w no O w (rl [Res.ro (FP.sl c3 Ag lg cg g2),Res.ro (FP.sl cI Aa Ab Ac set2)]):=Sep.startl hO [(FP.sl c3 Ag lg cg g2),(FP.sl cI Aa Ab Ac set2)] ⟨hA0,hA1,trivial⟩;refine yap (l:=[(.agg #[ii g,.slice Ag lg cg]),.slice Aa Ab Ac]) func71 rfl ntmps71 zY (zs (zn (ya8 (v:=(.agg #[ii g,.slice Ag lg cg])) rfl ?_)));intro g3 w2 hN;replace hS:=hS.neu 2 [ii g,.slice Ag lg cg] hN;clear hN;refine zb (zn (ya8 (v:=(.slice Aa Ab Ac)) rfl ?_));intro g4 w3 hN;replace hS:=hS.neu 3 [.slice Aa Ab Ac] hN;clear hN;refine zb (zn (yaO yao ?_));intro g5 w4 hN;replace hS:=hS.neu 4 [ii 0,.slice none 0 0] hN;clear hN;refine zb (zQ (ii 0) (yaa (yaf (zs (zq (yaq (vs:=[ii g,.slice Ag lg cg]) rfl underlying24 rfl yao ⟨hS.bc 2 0,hS.bc 2 1,trivial⟩) (zq (zl underlying29 (hS.bc 3 0)) (zn (yam rfl (am2 rfl rfl) enter_70 ((yes h (yaB _) (hS.rdr 0 rfl) (hS.rdr 1 rfl)).mono ?_)))))))));rintro _ w5 ⟨r,rfl,hC,h⟩;replace hS:=hS.pur hC.pure;refine ⟨_,rfl,?_⟩;refine zb (zQ (ii r) (yaa (zs (zM (ii r) (zq zN (yaa ?_))))));by_cases hp:r=0
  · replace h:=h.1 hp;refine ze hp (yag (yaf (zs (zq (zl underlying29 (hS.bc 3 0)) (zq (yaF (n:=set2.length) rfl underlying29 (yaE (hS.rdr 1 rfl))) (zq zE (yaa ?_)))))));by_cases hp2:(set2.length:Int)=0
    · replace h:=h.1 hp2;refine zc hp2 (zs (zn (yck (l:=[]) (cells:=[ii 0,.slice none 0 0]) (places:=[(0,1),(1,1)]) (bp0) underlying24 yao (by kernel_rfl) rfl ?_)));refine zb (zo (yaV (b:=g5) (o:=0) (cells:=#[ii 0,.slice none 0 0]) rfl rfl yao rfl rfl (yaI (hS.bx 4 rfl) zY) ?_));intro w6 e1;replace hS:=hS.bstn 4 rfl 0 [ii 0,.slice none 0 0] e1;clear e1;refine zb (zQ (ii 14) (yaa ?_));replace hS:=hS.nil 5 rfl c3 79;exact yg3 rfl (rv_n (vs:=[ii 0,.slice none 0 0]) rfl underlying24 rfl yao ⟨hS.bc 4 0,hS.bc 4 1,trivial⟩) (rv_t rfl) ⟨_,_,_,_,_,_,rfl,hS.sel [5],h⟩
    · replace h:=h.2 hp2;refine zd hp2 (yag (zs (zq (yaq (vs:=[ii g,.slice Ag lg cg]) rfl underlying24 rfl yao ⟨hS.bc 2 0,hS.bc 2 1,trivial⟩) (zq (zl underlying29 (hS.bc 3 0)) (zq (yaF (n:=set2.length) rfl underlying29 (yaE (hS.rdr 1 rfl))) (zq (yeZ (am0) (am1 rfl)) ?_))))));replace hS:=hS.frzb 3 rfl;refine zn (yam rfl (am3 rfl rfl rfl) enter_114 ((yjL h (yaB _) (hS.rdr 0 rfl) (fun w' hk=>⟨115,#[(.pointer (some ⟨g4,0,none⟩))],rfl,enter_115,fun x R hF=>ya4 (by simp) (yhu hF (yaB _) (FP.sub _ (FP.keep _ (FP.sub _ (hS.ro 3 rfl) (fun _ _ h=>h.elim):FP.P _ no _) hk) fun _ _ h=>h.elim) (FP.sub _ (FP.keep _ (FP.sub _ (hS.ro 1 rfl) (fun _ _ h=>h.elim):FP.P _ no _) hk) fun _ _ h=>h.elim))⟩)).mono ?_));rintro _ w7 ⟨r2,r3,Ar,lr,cr,rfl,hC,h⟩;replace hS:=hS.call1 (hC.widen (yde (ya0 (fP (fI .i64) (fP (fI .i64) (fI .i64))) _ _ _ _ _) ydA) hS.blt) 5 0 rfl;clear hC;refine ⟨_,rfl,?_⟩;refine zb (zo (yaV (b:=g5) (o:=0) (cells:=#[ii r2,.slice Ar lr cr]) rfl rfl yao rfl rfl (yaI (hS.bx 4 rfl) zY) ?_));intro w8 e1;replace hS:=hS.bstn 4 rfl 0 [ii r2,.slice Ar lr cr] e1;clear e1;exact zb (zQ (ii 0) (yaa (yg3 rfl (rv_n (vs:=[ii r2,.slice Ar lr cr]) rfl underlying24 rfl yao ⟨hS.bc 4 0,hS.bc 4 1,trivial⟩) (rv_t rfl) ⟨_,_,_,_,_,_,rfl,hS.sel [5],h⟩)))
  · replace h:=h.2 hp;refine zf hp (zs (zn (yck (l:=[]) (cells:=[ii 0,.slice none 0 0]) (places:=[(0,1),(1,1)]) (bp0) underlying24 yao (by kernel_rfl) rfl ?_)));refine zb (zM (ii r) (zo (yaV (b:=g5) (o:=0) (cells:=#[ii 0,.slice none 0 0]) rfl rfl yao rfl rfl (yaI (hS.bx 4 rfl) zY) ?_)));intro w9 e1;replace hS:=hS.bstn 4 rfl 0 [ii 0,.slice none 0 0] e1;clear e1;refine zb (zQ (ii r) (yaa ?_));replace hS:=hS.nil 5 rfl c3 79;exact yg3 rfl (rv_n (vs:=[ii 0,.slice none 0 0]) rfl underlying24 rfl yao ⟨hS.bc 4 0,hS.bc 4 1,trivial⟩) (rv_t rfl) ⟨_,_,_,_,_,_,rfl,hS.sel [5],h⟩
def ybN(g:Int)(g2:List E3)(s:List (List Int))(R:Int→Prop):Prop :=
ybd g g2 (fun r =>
((r=0 →
((256<(s.length:Int) →
R 5) ∧
(¬(256<(s.length:Int)) →
(∃ I2:Nat→Int→Prop,(∃ m0,I2 m0 0)∧∀ m2 v,I2 m2 v → 
((v<(s.length:Int) →
((0≤v∧v<(s.length:Int)) ∧
ybz g g2 (gx s v.toNat) (fun r2 =>
((r2=0 →
ydp g g2 (gx s v.toNat) (fun r3 r4 r5 =>
((r5=0 →
ybd r3 r4 (fun r6 =>
((r6=0 →
(In64 (v+1) ∧
∃ m3,m3<m2∧I2 m3 (v+1))) ∧
(¬(r6=0) →
R r6)))) ∧
(¬(r5=0) →
R r5)))) ∧
(¬(r2=0) →
R r2))))) ∧
(¬(v<(s.length:Int)) →
R 0)))))) ∧
(¬(r=0) →
R r)))
theorem ydL{O:Nat→Prop}{w:World}{g g2 s Ag lg cg As ls cs}{R:Int→Prop}(h:ybN g g2 s R)(hO:∀ k,O k→k<w.heap.size)(hA0:(FP.sl c3 Ag lg cg g2).P O w)(hA1:(FP.sl (cL cI) As ls cs s).P O w) :
    Calls Tryz.prog 20 #[(.agg #[ii g,.slice Ag lg cg]),.slice As ls cs] w fun e w'=>∃ r7,e = .returned (ii r7)∧Sep w no O w' (rl [])∧R r7:=by
  unfold ybN at h;have hS:Sep w no O w (rl [Res.ro (FP.sl c3 Ag lg cg g2),Res.ro (FP.sl (cL cI) As ls cs s)]):=Sep.startl hO [(FP.sl c3 Ag lg cg g2),(FP.sl (cL cI) As ls cs s)] ⟨hA0,hA1,trivial⟩;refine yap (l:=[(.agg #[ii g,.slice Ag lg cg]),.slice As ls cs]) func20 rfl ntmps20 zY (zs (zn (ya8 (v:=(.agg #[ii g,.slice Ag lg cg])) rfl ?_)));intro g3 w2 hN;replace hS:=hS.neu 2 [ii g,.slice Ag lg cg] hN;clear hN;refine zb (zQ (ii 0) (yaa (yaf (zs (zq (yaq (vs:=[ii g,.slice Ag lg cg]) rfl underlying24 rfl yao ⟨hS.bc 2 0,hS.bc 2 1,trivial⟩) (zn (yam rfl (am1 rfl) yhH ((ybP h (yaB _) (hS.rdr 0 rfl)).mono ?_))))))));rintro _ w3 ⟨r,rfl,hC,h⟩;replace hS:=hS.pur hC.pure;refine ⟨_,rfl,?_⟩;refine zb (zQ (ii r) (yaa (zs (zM (ii r) (zq zN (yaa ?_))))));by_cases hp:r=0
  · replace h:=h.1 hp;refine ze hp (yag (yaf (zs (zM (.slice As ls cs) (zq (yaF (n:=s.length) rfl underlying25 (yaE (hS.rdr 1 rfl))) (zq zG (yaa ?_)))))));by_cases hp2:256<(s.length:Int)
    · replace h:=h.1 hp2;exact zc hp2 (zs (zQ (ii 5) (yaa (yak rfl rfl ⟨_,rfl,hS.sel [],h⟩))))
    · replace h:=h.2 hp2;refine zd hp2 (yag (yaf (zs (zM (.slice As ls cs) (zq (yaF (n:=s.length) rfl underlying25 (yaE (hS.rdr 1 rfl))) (zM (ii 0) (yaa (yai ?_))))))));obtain ⟨I2,⟨m0,h0⟩,hr⟩:=h;refine yaz (fun m E ds w'=>∃ v,I2 m v∧ds=[]∧E 2 = .pointer (some ⟨g3,0,none⟩)∧E 20 = .slice As ls cs∧E 21=(ii (s.length:Int))∧E 22=(ii v)∧Sep w no O w' (rl [Res.box 24 g3 [ii g,.slice Ag lg cg],Res.ro (FP.sl c3 Ag lg cg g2),Res.ro (FP.sl (cL cI) As ls cs s)])) m0 ⟨_,h0,rfl,rfl,rfl,rfl,rfl,hS.sel [2,0,1]⟩ ?_;clear h0 hS;rintro m2 E ds w4 ⟨v,h,rfl,H2,H20,H21,H22,hS⟩ ag;replace h:=hr m2 v h;clear hr;refine zs (zq (ydj H22 H21) (yaa (yaf ?_)));by_cases hp3:v<(s.length:Int)
      · replace h:=h.1 hp3;refine zc hp3 (yag (yaf (yai (zs ?_))));obtain ⟨hx,h⟩:=h;refine zq (ycI H20 H22 underlying25 yaL (yaP (hS.rdr 2 rfl) hx)) ?_;obtain ⟨A,l,c,hc,hq⟩:=hS.el 2 rfl hx 3 4 rfl rfl (by decide);replace hS:=hq;clear hq;refine zq (yau (v:=(.slice A l c)) rfl underlying29 rfl (hS.clr 4 rfl)) (zQ (.slice A l c) (yaa (yaf (zs (zq (yaq (vs:=[ii g,.slice Ag lg cg]) H2 underlying24 rfl yao ⟨hS.bc 0 0,hS.bc 0 1,trivial⟩) (zM (.slice A l c) (zn (yam rfl (am2 rfl rfl) enter_70 ((yes h (yaB _) (hS.rdr 1 rfl) (hS.rdr 3 rfl)).mono ?_)))))))));rintro _ w5 ⟨r2,rfl,hC,h⟩;replace hS:=hS.pur hC.pure;refine ⟨_,rfl,?_⟩;refine zb (zQ (ii r2) (yaa (zs (zM (ii r2) (zq zN (yaa ?_))))));by_cases hp4:r2=0
        · replace h:=h.1 hp4;refine ze hp4 (yag (zs (zq (yaq (vs:=[ii g,.slice Ag lg cg]) H2 underlying24 rfl yao ⟨hS.bc 0 0,hS.bc 0 1,trivial⟩) (zM (.slice A l c) (zn (yam rfl (am2 rfl rfl) enter_71 ((yh4 h (yaB _) (hS.rdr 1 rfl) (hS.rdr 3 rfl)).mono ?_)))))));rintro _ w6 ⟨r3,r4,r5,Ar,lr,cr,rfl,hC,h⟩;replace hS:=hS.call1 (hC.widen (yde (ya0 (fP (fI .i64) (fP (fI .i64) (fI .i64))) _ _ _ _ _) ydA) hS.blt) 5 0 rfl;clear hC;refine ⟨_,rfl,?_⟩;refine zb (zM (.tuple #[(.agg #[ii r3,.slice Ar lr cr]),ii r5]) (zq (zx (.agg #[ii r3,.slice Ar lr cr])) (zq (zx (ii r5)) (zn (yaO yao ?_)))));intro g4 w7 hN;replace hS:=hS.neu 6 [ii 0,.slice none 0 0] hN;clear hN;refine zb (zo (yaV (b:=g4) (o:=0) (cells:=#[ii r3,.slice Ar lr cr]) rfl rfl yao rfl rfl (yaI (hS.bx 6 rfl) zY) ?_));intro w8 e1;replace hS:=hS.bstn 6 rfl 0 [ii r3,.slice Ar lr cr] e1;clear e1;refine zb (zQ (ii r5) (yaa (yaf (zs (zM (ii r5) (zq zN (yaa ?_)))))));by_cases hp5:r5=0
          · replace h:=h.1 hp5;refine ze hp5 (yag (zs (zq (yaq (vs:=[ii r3,.slice Ar lr cr]) rfl underlying24 rfl yao ⟨hS.bc 6 0,hS.bc 6 1,trivial⟩) (zn (yam rfl (am1 rfl) yhH ((ybP h (yaB _) (hS.rdo 5 rfl)).mono ?_))))));rintro _ w9 ⟨r6,rfl,hC,h⟩;replace hS:=hS.pur hC.pure;refine ⟨_,rfl,?_⟩;refine zb (zQ (ii r6) (yaa (zs (zM (ii r6) (zq zN (yaa ?_))))));by_cases hp6:r6=0
            · replace h:=h.1 hp6;refine ze hp6 (yag (yah (zr ?_)));obtain ⟨hi,h⟩:=h;refine zq (ybS H22 rfl hi) (zM (ii (v+1)) (yaa ?_));obtain ⟨mq,hlt,h⟩:=h;exact ag mq _ _ _ ⟨_,h,rfl,H2,H20,H21,rfl,hS.sel [0,1,2]⟩ hlt
            · replace h:=h.2 hp6;exact zf hp6 (zs (zM (ii r6) (zQ (ii r6) (yaa (yak rfl rfl ⟨_,rfl,hS.sel [],h⟩)))))
          · replace h:=h.2 hp5;exact zf hp5 (zs (zM (ii r5) (zQ (ii r5) (yaa (yak rfl rfl ⟨_,rfl,hS.sel [],h⟩)))))
        · replace h:=h.2 hp4;exact zf hp4 (zs (zM (ii r2) (zQ (ii r2) (yaa (yak rfl rfl ⟨_,rfl,hS.sel [],h⟩)))))
      · replace h:=h.2 hp3;exact zd hp3 (yax rfl (zs (zQ (ii 0) (yaa (yak rfl rfl ⟨_,rfl,hS.sel [],h⟩)))))
  · replace h:=h.2 hp;exact zf hp (zs (zM (ii r) (zQ (ii r) (yaa (yak rfl rfl ⟨_,rfl,hS.sel [],h⟩)))))
def ydo(n:Int)(R:Prop):Prop :=
R
theorem yfJ{O:Nat→Prop}{w:World}{n}{R:Prop}(h:ydo n R)(hO:∀ k,O k→k<w.heap.size) :
    Calls Tryz.prog 102 #[ii n] w fun e w'=>∃ gr,e = .returned (.func (Fn.func 135) #[] #[(.pointer (some ⟨gr,0,none⟩))])∧Sep w no O w' (rl [Res.box 3 gr [ii n]])∧R:=by
  unfold ydo at h;have hS:Sep w no O w (rl []):=Sep.start w hO;refine yap (l:=[ii n]) func102 rfl ntmps102 zY (zs (zn (ya8 (v:=(ii n)) rfl ?_)));intro g w2 hN;replace hS:=hS.neu 0 [ii n] hN;clear hN;exact zb (zQ Value.nilFunc (yaa (zs (zq (yeZ (am0) (am1 rfl)) (zQ (.func (Fn.func 135) #[] #[(.pointer (some ⟨g,0,none⟩))]) (yaa (yak rfl rfl ⟨_,rfl,hS.sel [0],h⟩)))))))
def ybc(s:List Int)(R:(List Int)→Prop):Prop :=
(∀ nil:Bool,(nil=true→s=[]) →
((nil=true →
R ([])) ∧
(¬(nil=true) →
(0+s.length≤1000000000 ∧
R ([]++s)))))
theorem yb6{O:Nat→Prop}{w:World}{s As ls cs}{R:(List Int)→Prop}(h:ybc s R)(hO:∀ k,O k→k<w.heap.size)(hA0:(FP.sl cI As ls cs s).P O w) :
    Calls Tryz.prog 103 #[.slice As ls cs] w fun e w'=>∃ r Ar lr cr,e = .returned (.slice Ar lr cr)∧Sep w no O w' (rl [Res.own cI 3 Ar lr cr r])∧R r:=by
  unfold ybc at h;have hS:Sep w no O w (rl [Res.ro (FP.sl cI As ls cs s)]):=Sep.startl hO [(FP.sl cI As ls cs s)] ⟨hA0,trivial⟩;refine yap (l:=[.slice As ls cs]) func103 rfl ntmps103 zY (zs (zQ (.slice none 0 0) (yaa (yaf (zs (zM (.slice As ls cs) ?_))))));obtain ⟨nil,hn⟩:∃ b,Option.isNone As=b:=⟨_,rfl⟩;replace h:=h nil (by rw [←hn];exact rd_nil (hS.rdr 0 rfl));refine zq (v_seqlx rfl rfl underlying29 hn) (yaa ?_);by_cases hp:nil=true
  · replace h:=h.1 hp;refine yar (zC hp) (zs (zQ (.slice none 0 0) (yaa ?_)));replace hS:=hS.nil 1 rfl cI 3;exact yak rfl rfl ⟨_,_,_,_,rfl,hS.sel [1],h⟩
  · replace h:=h.2 hp;refine yat (zC (zI hp)) (yag (zs (zn (yaX (l:=[]) (cells:=[]) (bp0) underlying29 yaj rfl rfl ?_))));intro g w2 hN;replace hS:=hS.litf (n:=0) 1 rfl (fI .i64) hN ([]:List Int) rfl (by decide) rfl;clear hN;refine zb (zM (.slice As ls cs) ?_);obtain ⟨hx,h⟩:=h;refine zn (ygp (c:=cI) rfl rfl underlying29 underlying29 yaj rfl rfl (by decide) hS 1 rfl (hS.yr 0 rfl) hx ?_);clear hS;intro A c w3 hS;exact zb (zQ (.slice A (0+ls) c) (yaa (yak rfl rfl ⟨_,_,_,_,rfl,hS.sel [1],h⟩)))
def yb4(Pr:List (List Int)→Prop)(Rec:Int→(List Int)→Int→List (List Int)→(List (List Int)→Bool→(List Int)→Prop)→Prop)(v:Int)(cap:List Int)(cap2:Int)(pre:List (List Int))(R:List (List Int)→Bool→(List Int)→Prop):Prop :=
(Pr (pre++[cap]) ∧
((∃ I2:Nat→(List (List Int))→Int→(List Int)→Prop,(∃ m0,I2 m0 (pre++[cap]) v cap)∧∀ m2 pre2 v2 v3,I2 m2 pre2 v2 v3 → 
((v2<cap2 →
(v3.length+1≤1000000000 ∧
(In64 (v2+1) ∧
Rec (v2+1) (v3++[v2]) cap2 pre2 (fun pre3 r y =>
((r=true →
(In64 ((y.length:Int)-1) ∧
((0≤((y.length:Int)-1)∧((y.length:Int)-1)≤(y.length:Int)) ∧
∃ m3,m3<m2∧I2 m3 pre3 (v2+1) (y.take ((y.length:Int)-1).toNat)))) ∧
(¬(r=true) →
R pre3 false y)))))) ∧
(¬(v2<cap2) →
R pre2 true v3))) ∧
True))
def ybs(Pr:List (List Int)→Prop):Nat→Int→(List Int)→Int→List (List Int)→(List (List Int)→Bool→(List Int)→Prop)→Prop
  | 0=>fun _ _ _ _ _=>False
  | nf+1=>fun v cap cap2 pre R=>yb4 Pr (ybs Pr nf) v cap cap2 pre R
theorem ygj{l}{J Jx:BS→BS→List (List Int)→World→Prop}{Pr:List (List Int)→Prop}(hs:SessHP Tryz.prog l (fun (x:List Int) (b:(Option Addr×Nat×Nat×Hd))=>#[(Value.slice b.1 b.2.1 b.2.2.1)]) (PsI cI) Pr J Jx){Rec:Int→(List Int)→Int→List (List Int)→(List (List Int)→Bool→(List Int)→Prop)→Prop}(hrec:∀ {T G:BS} {wb w:World} {v cap cap2 pre gc gc2 Aa Ab Ac gc3 gc4} {R:List (List Int)→Bool→(List Int)→Prop} (h:Rec v cap cap2 pre R) (hJ:J T G pre wb) (hS:Sep wb G T w (rl [Res.box 83 gc [(Value.func (.yield l) #[] #[])],Res.box 29 gc2 [(Value.slice Aa Ab Ac)],Res.own cI 3 Aa Ab Ac cap,Res.box 3 gc3 [(Value.int .i64 cap2)],Res.box 105 gc4 [(Value.func (Fn.func 136) #[] #[(Value.pointer (some ⟨gc,0,none⟩)),(Value.pointer (some ⟨gc2,0,none⟩)),(Value.pointer (some ⟨gc3,0,none⟩)),(Value.pointer (some ⟨gc4,0,none⟩))])]])),Calls Tryz.prog 136 #[(Value.int .i64 v),(Value.pointer (some ⟨gc,0,none⟩)),(Value.pointer (some ⟨gc2,0,none⟩)),(Value.pointer (some ⟨gc3,0,none⟩)),(Value.pointer (some ⟨gc4,0,none⟩))] w fun e w'=>(∃ (T' G':BS) (wb':World) (pre':List (List Int)) (r2:Bool) (z:List Int) (Az:Option Addr) (lz:Nat) (cz:Nat),e = .returned (Value.bool (r2))∧J T' G' pre' wb'∧Sep wb' G' T' w' (rl [Res.box 83 gc [(Value.func (.yield l) #[] #[])],Res.box 29 gc2 [(Value.slice Az lz cz)],Res.own cI 3 Az lz cz z,Res.box 3 gc3 [(Value.int .i64 cap2)],Res.box 105 gc4 [(Value.func (Fn.func 136) #[] #[(Value.pointer (some ⟨gc,0,none⟩)),(Value.pointer (some ⟨gc2,0,none⟩)),(Value.pointer (some ⟨gc3,0,none⟩)),(Value.pointer (some ⟨gc4,0,none⟩))])]])∧R pre' r2 z)∨∃ (T' G':BS) (wb':World) (pre':List (List Int)),e = .returned (.bool false)∧Jx T' G' pre' wb'∧Sep wb' G' T' w' (rl [])){T G:BS}{wb w:World}{v cap cap2 pre gc gc2 Aa Ab Ac gc3 gc4}{R:List (List Int)→Bool→(List Int)→Prop}(h:yb4 Pr Rec v cap cap2 pre R)(hJ:J T G pre wb)(hS:Sep wb G T w (rl [Res.box 83 gc [(Value.func (.yield l) #[] #[])],Res.box 29 gc2 [(Value.slice Aa Ab Ac)],Res.own cI 3 Aa Ab Ac cap,Res.box 3 gc3 [(Value.int .i64 cap2)],Res.box 105 gc4 [(Value.func (Fn.func 136) #[] #[(Value.pointer (some ⟨gc,0,none⟩)),(Value.pointer (some ⟨gc2,0,none⟩)),(Value.pointer (some ⟨gc3,0,none⟩)),(Value.pointer (some ⟨gc4,0,none⟩))])]])) :
    Calls Tryz.prog 136 #[ii v,(.pointer (some ⟨gc,0,none⟩)),(.pointer (some ⟨gc2,0,none⟩)),(.pointer (some ⟨gc3,0,none⟩)),(.pointer (some ⟨gc4,0,none⟩))] w fun e w'=>(∃ (T' G':BS) (wb':World) (pre':List (List Int)) (r2:Bool) (z:List Int) (Az:Option Addr) (lz:Nat) (cz:Nat),e = .returned (.bool (r2))∧J T' G' pre' wb'∧Sep wb' G' T' w' (rl [Res.box 83 gc [(.func (.yield l) #[] #[])],Res.box 29 gc2 [.slice Az lz cz],Res.own cI 3 Az lz cz z,Res.box 3 gc3 [ii cap2],Res.box 105 gc4 [(.func (Fn.func 136) #[] #[(.pointer (some ⟨gc,0,none⟩)),(.pointer (some ⟨gc2,0,none⟩)),(.pointer (some ⟨gc3,0,none⟩)),(.pointer (some ⟨gc4,0,none⟩))])]])∧R pre' r2 z)∨∃ (T' G':BS) (wb':World) (pre':List (List Int)),e = .returned (.bool false)∧Jx T' G' pre' wb'∧Sep wb' G' T' w' (rl []):=by
  unfold yb4 at h;refine yap (l:=[ii v,(.pointer (some ⟨gc,0,none⟩)),(.pointer (some ⟨gc2,0,none⟩)),(.pointer (some ⟨gc3,0,none⟩)),(.pointer (some ⟨gc4,0,none⟩))]) func136 rfl ntmps136 zY (zs (zQ (.bool (false)) (yaa (yaf (zs (zq (zl underlying83 (hS.bc 0 0)) (zq (zl underlying29 (hS.bc 1 0)) ?_)))))));obtain ⟨hd,hat,hrd⟩:=hS.handed 2 rfl;obtain ⟨hPr,hyes,hno⟩:=h;refine zn (n_yield (m:=1) rfl (am1 rfl) (gen_yieldHP (x:=cap) (b:=(Aa,Ab,Ac,hd)) hs hJ hS hPr ⟨hat,hrd⟩ ?_ ?_))
  · clear hno hJ hS;have h:=hyes;clear hyes;intro T2 w2 hJ hS;generalize OwnB _=G2 at hJ hS;refine ⟨_,rfl,?_⟩;refine zb (zq (ycX rfl) (yaa (yat (zC (zB rfl)) (yag (yaf (yai ?_))))));obtain ⟨I2,⟨m0,h0⟩,hr⟩:=h;refine yaz (fun m E ds w'=>∃ pre2 v2 v3,∃ T3:BS,∃ G3:BS,∃ wb2:World,∃ Av lv cv,I2 m pre2 v2 v3∧ds=[]∧E 0=(ii v2)∧E 1 = .pointer (some ⟨gc,0,none⟩)∧E 2 = .pointer (some ⟨gc2,0,none⟩)∧E 3 = .pointer (some ⟨gc3,0,none⟩)∧E 4 = .pointer (some ⟨gc4,0,none⟩)∧J T3 G3 pre2 wb2∧Sep wb2 G3 T3 w' (rl [Res.box 83 gc [(.func (.yield l) #[] #[])],Res.box 29 gc2 [.slice Av lv cv],Res.own cI 3 Av lv cv v3,Res.box 3 gc3 [ii cap2],Res.box 105 gc4 [(.func (Fn.func 136) #[] #[(.pointer (some ⟨gc,0,none⟩)),(.pointer (some ⟨gc2,0,none⟩)),(.pointer (some ⟨gc3,0,none⟩)),(.pointer (some ⟨gc4,0,none⟩))])]])) m0 ⟨_,_,_,_,_,_,_,_,_,h0,rfl,rfl,rfl,rfl,rfl,rfl,hJ,hS.sel [0,1,2,3,4]⟩ ?_;clear h0 hS hJ;rintro m2 E ds w3 ⟨pre2,v2,v3,T3,G3,wb2,Av,lv,cv,h,rfl,H0,H1,H2,H3,H4,hJ,hS⟩ ag;replace h:=hr m2 pre2 v2 v3 h;clear hr;refine yaf (zs (zH H0 (zq (yau H3 underlying3 rfl (hS.bc 3 0)) (zq zL (yaa ?_)))));by_cases hp:v2<cap2
    · replace h:=h.1 hp;refine zc hp (yag (yaf (yai (zs (zq (yau H2 underlying29 rfl (hS.bc 1 0)) (zH H0 (zn (yaX (l:=[(0,(ii v2))]) (cells:=[ii v2]) (bp1 rfl) underlying29 yaj rfl rfl ?_))))))));intro g w4 hN;replace hS:=hS.litf (n:=1) 5 rfl (fI .i64) hN ([v2]:List Int) rfl (by decide) rfl;clear hN;refine zb ?_;obtain ⟨hx,h⟩:=h;refine zn (ygp (c:=cI) rfl rfl underlying29 underlying29 yaj rfl rfl (by decide) hS 2 rfl (hS.yo 5 rfl) hx ?_);clear hS;intro A c w5 hS;refine zb (zo (yhn (v:=(.slice A (lv+1) c)) H2 rfl rfl yaL (hS.bwr 1 rfl (j:=0) rfl) ?_));intro w6 e1;replace hS:=hS.bst 1 rfl 0 (.slice A (lv+1) c) e1;clear e1;refine zb (yaa (yaf (zs (zq (yau H4 underlying105 rfl (hS.bc 4 0)) (zH H0 ?_)))));obtain ⟨hi,h⟩:=h;refine zq (zA hi) ?_;have hB:=hS.sel [0,1,2,3,4];clear hS;refine zn (ydx (vs:=#[(ii (v2+1))]) (us:=#[(.pointer (some ⟨gc,0,none⟩)),(.pointer (some ⟨gc2,0,none⟩)),(.pointer (some ⟨gc3,0,none⟩)),(.pointer (some ⟨gc4,0,none⟩))]) rfl (am1 rfl) enter_136 ((ya4 (by simp) (hrec h hJ hB)).mono ?_));clear hJ hB h;rintro _ w7 (⟨T4,G4,wb3,pre3,r,y,A2,l2,c4,rfl,hJ,hS,h⟩ | ⟨T4,G4,wb3,pre3,rfl,hJ,hS⟩)
      · refine ⟨_,rfl,?_⟩;refine zb (zq (ycX rfl) (yaa ?_));by_cases hp2:r=true
        · replace h:=h.1 hp2;refine yat (zC (zB hp2)) (yag (zr (zq (yau H2 underlying29 rfl (hS.bc 1 0)) (zq (yau H2 underlying29 rfl (hS.bc 1 0)) (zq (yaF (n:=y.length) rfl underlying29 (yaE (hS.rdo 2 rfl))) ?_)))));obtain ⟨hi2,h⟩:=h;refine zq (zS hi2) ?_;obtain ⟨hx2,h⟩:=h;have hc:=le_cap (hS.rdo 2 rfl) hx2;replace hS:=hS.cuti 2 rfl hx2;refine zq (ykR rfl rfl underlying29 yaj hc) (zo (yhn (v:=(.slice A2 (((y.length:Int)-1).toNat) c4)) H2 rfl rfl yaL (hS.bwr 1 rfl (j:=0) rfl) ?_));intro w8 e1;replace hS:=hS.bst 1 rfl 0 (.slice A2 (((y.length:Int)-1).toNat) c4) e1;clear e1;refine zb (yaa (yah (zr (zH H0 (zq (zA hi) (zQ (ii (v2+1)) (yaa ?_)))))));obtain ⟨mq,hlt,h⟩:=h;exact ag mq _ _ _ ⟨_,_,_,_,_,_,_,_,_,h,rfl,rfl,H1,H2,H3,H4,hJ,hS.sel [0,1,2,3,4]⟩ hlt
        · replace h:=h.2 hp2;exact yar (zC (zB (zI hp2))) (zs (zQ (.bool (false)) (yaa (yak rfl rfl (.inl ⟨_,_,_,_,_,_,_,_,_,rfl,hJ,hS.sel [0,1,2,3,4],h⟩)))))
      · refine ⟨_,rfl,?_⟩;exact zb (zq (ycX rfl) (yaa (yar (zC (zB rfl)) (zs (zQ (.bool (false)) (yaa (yak rfl rfl (.inr ⟨_,_,_,_,rfl,hJ,hS.sel []⟩))))))))
    · replace h:=h.2 hp;exact zd hp (yax rfl (zs (zQ (.bool (true)) (yaa (yak rfl rfl (.inl ⟨_,_,_,_,_,_,_,_,_,rfl,hJ,hS.sel [0,1,2,3,4],h⟩))))))
  · clear hyes hJ hS;have h:=hno;clear hno;intro T5 w9 hJ hS;generalize OwnB _=G5 at hJ hS;refine ⟨_,rfl,?_⟩;exact zb (zq (ycX rfl) (yaa (yar (zC (zB rfl)) (zs (zQ (.bool (false)) (yaa (yak rfl rfl (.inr ⟨_,_,_,_,rfl,hJ,hS.sel []⟩))))))))
theorem ygR{l}{J Jx:BS→BS→List (List Int)→World→Prop}{Pr:List (List Int)→Prop}(hs:SessHP Tryz.prog l (fun (x:List Int) (b:(Option Addr×Nat×Nat×Hd))=>#[(Value.slice b.1 b.2.1 b.2.2.1)]) (PsI cI) Pr J Jx){nf} : ∀ {T G:BS} {wb w:World} {v cap cap2 pre gc gc2 Aa Ab Ac gc3 gc4} {R:List (List Int)→Bool→(List Int)→Prop} (h:ybs Pr nf v cap cap2 pre R) (hJ:J T G pre wb) (hS:Sep wb G T w (rl [Res.box 83 gc [(Value.func (.yield l) #[] #[])],Res.box 29 gc2 [(Value.slice Aa Ab Ac)],Res.own cI 3 Aa Ab Ac cap,Res.box 3 gc3 [(Value.int .i64 cap2)],Res.box 105 gc4 [(Value.func (Fn.func 136) #[] #[(Value.pointer (some ⟨gc,0,none⟩)),(Value.pointer (some ⟨gc2,0,none⟩)),(Value.pointer (some ⟨gc3,0,none⟩)),(Value.pointer (some ⟨gc4,0,none⟩))])]])),Calls Tryz.prog 136 #[(Value.int .i64 v),(Value.pointer (some ⟨gc,0,none⟩)),(Value.pointer (some ⟨gc2,0,none⟩)),(Value.pointer (some ⟨gc3,0,none⟩)),(Value.pointer (some ⟨gc4,0,none⟩))] w fun e w'=>(∃ (T' G':BS) (wb':World) (pre':List (List Int)) (r2:Bool) (z:List Int) (Az:Option Addr) (lz:Nat) (cz:Nat),e = .returned (Value.bool (r2))∧J T' G' pre' wb'∧Sep wb' G' T' w' (rl [Res.box 83 gc [(Value.func (.yield l) #[] #[])],Res.box 29 gc2 [(Value.slice Az lz cz)],Res.own cI 3 Az lz cz z,Res.box 3 gc3 [(Value.int .i64 cap2)],Res.box 105 gc4 [(Value.func (Fn.func 136) #[] #[(Value.pointer (some ⟨gc,0,none⟩)),(Value.pointer (some ⟨gc2,0,none⟩)),(Value.pointer (some ⟨gc3,0,none⟩)),(Value.pointer (some ⟨gc4,0,none⟩))])]])∧R pre' r2 z)∨∃ (T' G':BS) (wb':World) (pre':List (List Int)),e = .returned (.bool false)∧Jx T' G' pre' wb'∧Sep wb' G' T' w' (rl []):=by
  induction nf with
  | zero=>intros;rename_i h _ _;exact h.elim
  | succ nf ih=>intro T G wb w v cap cap2 pre gc gc2 Aa Ab Ac gc3 gc4 R h hJ hS;exact ygj hs ih h hJ hS
def yb0(cap:Int)(Pr R:List (List Int)→Prop):Prop :=
(∃ fu,ybs Pr fu 0 ([]) cap ([]) (fun pre2 r y =>
R pre2))
theorem yeX{w:World}{T0 G0:BS}{cap gc}{Pr R:List (List Int)→Prop}(h:yb0 cap Pr R)(hS0:Sep w G0 T0 w (rl [Res.box 3 gc [(Value.int .i64 cap)]])) :
    yhG Tryz.prog 135 #[(.pointer (some ⟨gc,0,none⟩))] (fun (x:List Int) (b:(Option Addr×Nat×Nat×Hd))=>#[(.slice b.1 b.2.1 b.2.2.1)]) (PsI cI) Pr R T0 G0 w:=by
  unfold yb0 at h;intro l J Jx T1 w1 hs hJ hp hT;obtain ⟨G,hJ,hS⟩:=gen_startHP hS0 hs hJ hp hT;clear hS0 hp hT;refine yhi (l:=[(.func (.yield l) #[] #[]),(.pointer (some ⟨gc,0,none⟩))]) func135 rfl ntmps135 zY rfl (zs (zn (ya8 (v:=(Value.func (.yield l) #[] #[])) rfl ?_)));intro g w2 hN;replace hS:=hS.neu 1 [(.func (.yield l) #[] #[])] hN;clear hN;refine zb (yaa (zs (zn (yaO yaL ?_))));intro g2 w3 hN;replace hS:=hS.neu 2 [.slice none 0 0] hN;clear hN;refine zb (yaa (zs (zn (yaO info_105 ?_))));intro g3 w4 hN;replace hS:=hS.neu 3 [Value.nilFunc] hN;clear hN;refine zb (yaa (zs (zq (yeZ (am0) (am4 rfl rfl rfl rfl)) (zo (zt (.func (Fn.func 136) #[] #[(.pointer (some ⟨g,0,none⟩)),(.pointer (some ⟨g2,0,none⟩)),(.pointer (some ⟨gc,0,none⟩)),(.pointer (some ⟨g3,0,none⟩))]) info_105 (hS.bwr 3 rfl (j:=0) rfl) ?_)))));intro w5 e1;replace hS:=hS.bst 3 rfl 0 (.func (Fn.func 136) #[] #[(.pointer (some ⟨g,0,none⟩)),(.pointer (some ⟨g2,0,none⟩)),(.pointer (some ⟨gc,0,none⟩)),(.pointer (some ⟨g3,0,none⟩))]) e1;clear e1;refine zb (yaa (zr (zq (zl underlying105 (hS.bc 3 0)) ?_)));replace hS:=hS.nil 4 rfl cI 3;obtain ⟨fu,h⟩:=h;have hB:=hS.sel [1,2,4,0,3];clear hS;refine zn (ydx (vs:=#[ii 0]) (us:=#[(.pointer (some ⟨g,0,none⟩)),(.pointer (some ⟨g2,0,none⟩)),(.pointer (some ⟨gc,0,none⟩)),(.pointer (some ⟨g3,0,none⟩))]) rfl (am1 rfl) enter_136 ((ya4 (by simp) (ygR hs h hJ hB)).mono ?_));clear hJ hB h;rintro _ w6 (⟨T2,G2,wb2,pre2,r,y,A,l2,c,rfl,hJ,hS,h⟩ | ⟨T2,G2,wb2,pre2,rfl,hJ,hS⟩)
  · refine ⟨_,rfl,?_⟩;exact zb (yaa (yhj rfl ⟨⟨_,rfl⟩,gen_endHP hs hJ hS h⟩))
  · refine ⟨_,rfl,?_⟩;exact zb (yaa (yhj rfl ⟨⟨_,rfl⟩,gen_endxHP hs hJ hS⟩))
def yc2(n:Int)(Fvalue:(List Int)→(Int→Bool→Prop)→Prop)(R:Int→(List Int)→Prop):Prop :=
ydo n ((∃ Pr Rr:List (List Int)→Prop,yb0 n Pr Rr ∧
(∃ I2:List (List Int)→Int→(List Int)→Prop,I2 [] (-1) ([]) ∧
(∀ pre y best first,I2 pre best first→Pr (pre++[y]) →
Fvalue y (fun (r:Int) (r2:Bool) =>
((r2=true →
((best<0 →
ybc y (fun r3 =>
I2 (pre++[y]) r r3)) ∧
(¬(best<0) →
((r<best →
ybc y (fun r4 =>
I2 (pre++[y]) r r4)) ∧
(¬(r<best) →
I2 (pre++[y]) best first))))) ∧
(¬(r2=true) →
I2 (pre++[y]) best first)))) ∧
(∀ ys best first,I2 ys best first→Rr ys →
R best first))))
theorem yhW{O:Nat→Prop}{w:World}{n:Int}{Fvalue:(List Int)→(Int→Bool→Prop)→Prop}{value:Value}{R:Int→(List Int)→Prop}(h:yc2 n Fvalue R)(hO:∀ k,O k→k<w.heap.size)(hA0:(FP.st fun w'=>∃ (fid:Nat) (us:Array Value),value=Value.func (.func fid) #[] us∧Enters Tryz.prog fid∧∀ (x0:List Int) (Ax0:Option Addr) (lx0:Nat) (cx0:Nat) (R:Int→Bool→Prop),Fvalue x0 R→(FP.sl cI Ax0 lx0 cx0 x0).P no w'→Calls Tryz.prog fid (#[(Value.slice Ax0 lx0 cx0)]++us) w' fun e w''=>∃ r0:Int,∃ r1:Bool,e = .returned (Value.tuple #[(Value.int .i64 r0),(Value.bool (r1))])∧Sep w' no no w'' (rl [])∧R r0 r1).P O w) :
    Calls Tryz.prog 56 #[ii n,value] w fun e w'=>∃ r5 r6 Ar3 lr3 cr3,e = .returned (.tuple #[ii r5,.slice Ar3 lr3 cr3])∧Sep w no O w' (rl [Res.own cI 3 Ar3 lr3 cr3 r6])∧R r5 r6:=by
  unfold yc2 at h;have hS:Sep w no O w (rl [Res.ro (FP.st fun w'=>∃ (fid:Nat) (us:Array Value),value=Value.func (.func fid) #[] us∧Enters Tryz.prog fid∧∀ (x0:List Int) (Ax0:Option Addr) (lx0:Nat) (cx0:Nat) (R:Int→Bool→Prop),Fvalue x0 R→(FP.sl cI Ax0 lx0 cx0 x0).P no w'→Calls Tryz.prog fid (#[(Value.slice Ax0 lx0 cx0)]++us) w' fun e w''=>∃ r0:Int,∃ r1:Bool,e = .returned (Value.tuple #[(Value.int .i64 r0),(Value.bool (r1))])∧Sep w' no no w'' (rl [])∧R r0 r1)]):=Sep.startl hO [(FP.st fun w'=>∃ (fid:Nat) (us:Array Value),value=Value.func (.func fid) #[] us∧Enters Tryz.prog fid∧∀ (x0:List Int) (Ax0:Option Addr) (lx0:Nat) (cx0:Nat) (R:Int→Bool→Prop),Fvalue x0 R→(FP.sl cI Ax0 lx0 cx0 x0).P no w'→Calls Tryz.prog fid (#[(Value.slice Ax0 lx0 cx0)]++us) w' fun e w''=>∃ r0:Int,∃ r1:Bool,e = .returned (Value.tuple #[(Value.int .i64 r0),(Value.bool (r1))])∧Sep w' no no w'' (rl [])∧R r0 r1)] ⟨hA0,trivial⟩;refine yei (l:=[(Value.int .i64 n),value]) func56 rfl ntmps56 (Nat.le_of_ble_eq_true rfl) ?_;refine yaf ?_;refine yay yaD ?_;refine rl_n rfl rfl rfl rfl (ya8 (v:=value) rfl ?_);intro g w2 hN;obtain ⟨_,_,hf_,_⟩:=hS.ro 0 rfl _ (Keeps.refl _ _);rw [show value.cells = #[value] by rw [hf_];rfl] at hN;clear hf_;replace hS:Sep w no O w2 (stl _ 1 (Res.box 84 g [value])):=hS.new 1 rfl hN;clear hN;refine ⟨Stb.none _,?_⟩;refine rl_q rfl rfl rfl (ybI (v:=(.int .i64 0)) rfl) ?_;refine rl_q rfl rfl rfl (ybI (v:=(.slice none 0 0)) rfl) ?_;refine yaa ?_;refine yaf ?_;refine yay yaD ?_;refine rl_n rfl rfl rfl rfl (yaO yaj ?_);intro g2 w3 hN;replace hS:Sep w no O w3 (stl _ 2 (Res.box 3 g2 [(Value.int .i64 0)])):=hS.new 2 rfl hN;clear hN;refine ⟨Stb.none _,?_⟩;refine rl_n0 rfl rfl rfl (yhn (v:=(.int .i64 (-1))) rfl rfl rfl yaj (hS.bwr 2 rfl (j:=0) rfl) ?_);intro w4 e1;replace hS:=hS.bst 2 rfl 0 (Value.int .i64 (-1)) e1;clear e1;refine ⟨Stb.none _,?_⟩;refine yaa ?_;refine yaf ?_;refine yay yaD ?_;refine rl_n rfl rfl rfl rfl (yaO yaL ?_);intro g3 w5 hN;replace hS:Sep w no O w5 (stl _ 3 (Res.box 29 g3 [(Value.slice none 0 0)])):=hS.new 3 rfl hN;clear hN;refine ⟨Stb.none _,?_⟩;refine yaa ?_;refine yaf ?_;refine yaf ?_;refine yay yaD ?_;refine rl_q rfl rfl rfl (yad (v:=(.int .i64 n)) rfl) ?_;refine rl_n rfl rfl rfl rfl (yam rfl (am1 rfl) enter_102 ((yfJ h hS.blt).mono ?_));rintro _ w6 ⟨gc,rfl,hC,h⟩;replace hS:=hS.call1 hC 4 0 rfl;clear hC;refine ⟨_,rfl,?_⟩;refine ⟨Stb.none _,?_⟩;refine yaa ?_;refine yai ?_;replace hS:=hS.nil 5 rfl cI 3;obtain ⟨Pr,Rr,hgp,I2,h0,hb,h⟩:=h;refine wt_iterSHP hS [1,0,2,3,5] [4] (by decide) (by decide) ⟨.inl (by decide),trivial⟩ rfl enter_135 (val:=(fun (x:List Int) (b:(Option Addr×Nat×Nat×Hd))=>#[(Value.slice b.1 b.2.1 b.2.2.1)])) (hd:=fun x b=>b.2.2.2) (rd:=fun x b=>FP.sl cI b.1 b.2.1 b.2.2.1 x) (Pr:=Pr) (R:=Rr) (fun _ _=>rfl) rfl (fun pr LL=>∃ best:Int,∃ first:List Int,∃ Aa:Option Addr,∃ Ab:Nat,∃ Ac:Nat,I2 pr best first∧LL=[Res.box 84 g [value],Res.ro (FP.st fun w'=>∃ (fid:Nat) (us:Array Value),value=Value.func (.func fid) #[] us∧Enters Tryz.prog fid∧∀ (x0:List Int) (Ax0:Option Addr) (lx0:Nat) (cx0:Nat) (R:Int→Bool→Prop),Fvalue x0 R→(FP.sl cI Ax0 lx0 cx0 x0).P no w'→Calls Tryz.prog fid (#[(Value.slice Ax0 lx0 cx0)]++us) w' fun e w''=>∃ r0:Int,∃ r1:Bool,e = .returned (Value.tuple #[(Value.int .i64 r0),(Value.bool (r1))])∧Sep w' no no w'' (rl [])∧R r0 r1),Res.box 3 g2 [(Value.int .i64 best)],Res.box 29 g3 [(Value.slice Aa Ab Ac)],Res.own cI 3 Aa Ab Ac first]) (fun _ _ _=>False) ⟨_,_,_,_,_,h0,rfl⟩ (fun T G hG=>yeX hgp hG) ?_ ?_ (fun _ _ _ _ _ hx=>hx.elim)
  · clear h h0 hS hgp;rintro ll rdy busy S O2 pre y ⟨A,l,c,hd⟩ w7 _ ⟨best,first,Aa,Ab,Ac,hI,rfl⟩ hPr hrd_ hS;have h:=hb pre y best first hI hPr;clear hb hI hPr;refine yay (ya7 ll) (zQ (.slice A l c) (yaa (ycO fun a ra=>⟨rfl,_,_,ra,hS,⟨5,rfl⟩,?_⟩)));intro w9 hw;replace hS:=hS.flip 5 rfl busy hw;clear hw ra a;refine yai (yaf (yay (ya7 ll) (zq (zl underlying84 (hS.bc 0 0)) (zM (.slice A l c) ?_))));obtain ⟨fid,us,hf,he,hcl⟩:=hS.ro 1 rfl _ (Keeps.refl _ _);replace h:=hcl _ _ _ _ _ h (hS.rdh 6 rfl hrd_);clear hcl;refine zn (ydx (hf) (am1 rfl) he (h.mono ?_));clear hf he;rintro _ w10 ⟨r,r2,rfl,hC,h⟩;replace hS:=hS.pur hC.pure;refine ⟨_,rfl,?_⟩;refine zb (zM (.tuple #[ii r,(.bool (r2))]) (zq (zx (ii r)) (zq (zx (.bool (r2))) (zQ (ii r) (zQ (.bool (r2)) (yaa (yaf (yay (ya7 ll) (zM (.bool (r2)) (zM (.bool (r2)) ?_))))))))));by_cases hp:r2=true
    · replace h:=h.1 hp;refine zW rfl rfl (zC hp) (zl underlying3 (hS.bc 2 0)) (zW rfl rfl (zC hp) zL (zW rfl rfl (zC hp) (zm (.bool (decide (best<0)))) ?_));by_cases hp2:best<0
      · replace h:=h.1 hp2;refine zV rfl rfl (zT hp2) (zV rfl rfl (zT hp2) (zV rfl rfl (zT hp2) (zW rfl rfl (zC hp) (yas (v:=(.bool (true))) (zT hp2) rfl) (zq (yas (v:=(.bool (true))) (zC hp) rfl) (yaa (yar rfl (yay (ya7 ll) (zM (ii r) (zM (.slice A l c) (zn (yam rfl (am1 rfl) yhQ ((yb6 h (yaB _) (hS.rdh 6 rfl hrd_)).mono ?_))))))))))));rintro _ w11 ⟨r3,Ar,lr,cr,rfl,hC,h⟩;replace hS:=hS.call1 (hC.widen (yde (ya0 (fI .i64) _ _ _ _ _) ydA) hS.blt) 7 0 rfl;clear hC;refine ⟨_,rfl,?_⟩;refine zb (zo (zt (ii r) yaj (hS.bwr 2 rfl (j:=0) rfl) ?_));intro w12 e1;replace hS:=hS.bst 2 rfl 0 (ii r) e1;clear e1;refine zb (zo (zt (.slice Ar lr cr) yaL (hS.bwr 3 rfl (j:=0) rfl) ?_));intro w13 e1;replace hS:=hS.bst 3 rfl 0 (.slice Ar lr cr) e1;clear e1;exact zb (yaa (yah (ycO fun a r=>⟨_,⟨_,_,_,_,_,h,rfl⟩,hS.sel [0,1,2,3,7,5,6]⟩)))
      · replace h:=h.2 hp2;refine zW rfl rfl (zF hp2) (zm (ii r)) (zW rfl rfl (zF hp2) (zl underlying3 (hS.bc 2 0)) (zW rfl rfl (zF hp2) zL (zW rfl rfl (zC hp) (yal (v:=(.bool (decide (r<best)))) (zF hp2) rfl) (zq (yas (v:=(.bool (decide (r<best)))) (zC hp) rfl) (yaa ?_)))));by_cases hp3:r<best
        · replace h:=h.1 hp3;refine zc hp3 (yay (ya7 ll) (zM (ii r) (zM (.slice A l c) (zn (yam rfl (am1 rfl) yhQ ((yb6 h (yaB _) (hS.rdh 6 rfl hrd_)).mono ?_))))));rintro _ w14 ⟨r4,Ar2,lr2,cr2,rfl,hC,h⟩;replace hS:=hS.call1 (hC.widen (yde (ya0 (fI .i64) _ _ _ _ _) ydA) hS.blt) 7 0 rfl;clear hC;refine ⟨_,rfl,?_⟩;refine zb (zo (zt (ii r) yaj (hS.bwr 2 rfl (j:=0) rfl) ?_));intro w15 e1;replace hS:=hS.bst 2 rfl 0 (ii r) e1;clear e1;refine zb (zo (zt (.slice Ar2 lr2 cr2) yaL (hS.bwr 3 rfl (j:=0) rfl) ?_));intro w16 e1;replace hS:=hS.bst 3 rfl 0 (.slice Ar2 lr2 cr2) e1;clear e1;exact zb (yaa (yah (ycO fun a r=>⟨_,⟨_,_,_,_,_,h,rfl⟩,hS.sel [0,1,2,3,7,5,6]⟩)))
        · replace h:=h.2 hp3;exact zd hp3 (yag (yah (ycO fun a r=>⟨_,⟨_,_,_,_,_,h,rfl⟩,hS.sel [0,1,2,3,4,5,6]⟩)))
    · replace h:=h.2 hp;exact zV rfl rfl (zC (zI hp)) (zV rfl rfl (zC (zI hp)) (zV rfl rfl (zC (zI hp)) (zX (zX (zX (zV rfl rfl (zC (zI hp)) (zq (yal (v:=(.bool (false))) (zC (zI hp)) rfl) (yaa (yat rfl (yag (yah (ycO fun a r=>⟨_,⟨_,_,_,_,_,h,rfl⟩,hS.sel [0,1,2,3,4,5,6]⟩))))))))))))
  · clear hb h0 hS hgp;rintro D ys w8 _ hRr ⟨best,first,Aa,Ab,Ac,hI,rfl⟩ hS;replace h:=h ys best first hI hRr;clear hI hRr;refine yah (yaf (yaT [0,1,2,3] st0 yaD (by kernel_rfl) (by kernel_rfl) ?_));replace hS:=hS.drew;exact zp (zl underlying3 (hS.bc 2 0)) (zp (zl underlying29 (hS.bc 3 0)) (zp (za (ii best)) (zp (za (.slice Aa Ab Ac)) (yaZ (yfd (rs:=[D]) (by simp) (hS.marked 5 rfl) rfl rfl rfl (fun w9 hk=>⟨_,_,_,_,_,rfl,(hS.unmark [5] [4] (by decide) (by decide) (yh8 5 rfl) hk),h⟩))))))
def yb9(s:List (List Int))(Ff:(List Int)→(Bool→Prop)→Prop)(R:Int→Prop):Prop :=
(∃ I2:Nat→Int→Prop,(∃ m0,I2 m0 0)∧∀ m2 v,I2 m2 v → 
((v<(s.length:Int) →
((0≤v∧v<(s.length:Int)) ∧
Ff (gx s v.toNat) (fun (r:Bool) =>
((r=true →
R v) ∧
(¬(r=true) →
(In64 (v+1) ∧
∃ m3,m3<m2∧I2 m3 (v+1))))))) ∧
(¬(v<(s.length:Int)) →
R (-1))))
theorem ye4{O:Nat→Prop}{w:World}{s:List (List Int)}{Ff:(List Int)→(Bool→Prop)→Prop}{As:Option Addr}{ls:Nat}{cs:Nat}{f:Value}{R:Int→Prop}(h:yb9 s Ff R)(hO:∀ k,O k→k<w.heap.size)(hA0:(FP.sl (cL cI) As ls cs s).P O w)(hA1:(FP.st fun w'=>∃ (fid:Nat) (us:Array Value),f=Value.func (.func fid) #[] us∧Enters Tryz.prog fid∧∀ (x0:List Int) (Ax0:Option Addr) (lx0:Nat) (cx0:Nat) (R:Bool→Prop),Ff x0 R→(FP.sl cI Ax0 lx0 cx0 x0).P no w'→Calls Tryz.prog fid (#[(Value.slice Ax0 lx0 cx0)]++us) w' fun e w''=>∃ r0:Bool,e = .returned (Value.bool (r0))∧Sep w' no no w'' (rl [])∧R r0).P O w) :
    Calls Tryz.prog 104 #[.slice As ls cs,f] w fun e w'=>∃ r2,e = .returned (ii r2)∧Sep w no O w' (rl [])∧R r2:=by
  unfold yb9 at h;have hS:Sep w no O w (rl [Res.ro (FP.sl (cL cI) As ls cs s),Res.ro (FP.st fun w'=>∃ (fid:Nat) (us:Array Value),f=Value.func (.func fid) #[] us∧Enters Tryz.prog fid∧∀ (x0:List Int) (Ax0:Option Addr) (lx0:Nat) (cx0:Nat) (R:Bool→Prop),Ff x0 R→(FP.sl cI Ax0 lx0 cx0 x0).P no w'→Calls Tryz.prog fid (#[(Value.slice Ax0 lx0 cx0)]++us) w' fun e w''=>∃ r0:Bool,e = .returned (Value.bool (r0))∧Sep w' no no w'' (rl [])∧R r0)]):=Sep.startl hO [(FP.sl (cL cI) As ls cs s),(FP.st fun w'=>∃ (fid:Nat) (us:Array Value),f=Value.func (.func fid) #[] us∧Enters Tryz.prog fid∧∀ (x0:List Int) (Ax0:Option Addr) (lx0:Nat) (cx0:Nat) (R:Bool→Prop),Ff x0 R→(FP.sl cI Ax0 lx0 cx0 x0).P no w'→Calls Tryz.prog fid (#[(Value.slice Ax0 lx0 cx0)]++us) w' fun e w''=>∃ r0:Bool,e = .returned (Value.bool (r0))∧Sep w' no no w'' (rl [])∧R r0)] ⟨hA0,hA1,trivial⟩;refine yap (l:=[(Value.slice As ls cs),f]) func104 rfl ntmps104 (Nat.le_of_ble_eq_true rfl) ?_;refine yaf ?_;refine yay yaD ?_;refine rl_q rfl rfl rfl (ybI (v:=(.int .i64 0)) rfl) ?_;refine yaa ?_;refine yaf ?_;refine yaf ?_;refine yay yaD ?_;refine rl_q rfl rfl rfl (yad (v:=(.slice As ls cs)) rfl) ?_;refine rl_q rfl rfl rfl (yaF (n:=s.length) rfl underlying25 (yaE (hS.rdr 0 rfl))) ?_;refine rl_q rfl rfl rfl (yad (v:=(.int .i64 0)) rfl) ?_;refine yaa ?_;refine yai ?_;obtain ⟨I2,⟨m0,h0⟩,hr⟩:=h;refine yaz (fun m E ds w'=>∃ v:Int,I2 m v∧ds=[]∧E 0=(Value.slice As ls cs)∧E 1=f∧E 7=(Value.int .i64 ((s.length:Nat):Int))∧E 8=(Value.int .i64 v)∧Sep w no O w' (rl [Res.ro (FP.sl (cL cI) As ls cs s),Res.ro (FP.st fun w'=>∃ (fid:Nat) (us:Array Value),f=Value.func (.func fid) #[] us∧Enters Tryz.prog fid∧∀ (x0:List Int) (Ax0:Option Addr) (lx0:Nat) (cx0:Nat) (R:Bool→Prop),Ff x0 R→(FP.sl cI Ax0 lx0 cx0 x0).P no w'→Calls Tryz.prog fid (#[(Value.slice Ax0 lx0 cx0)]++us) w' fun e w''=>∃ r0:Bool,e = .returned (Value.bool (r0))∧Sep w' no no w'' (rl [])∧R r0)])) m0 ⟨_,h0,rfl,rfl,rfl,rfl,rfl,(hS.sel [0,1] (by decide))⟩ ?_;clear h0 hS;rintro m2 E ds w2 ⟨v,h,rfl,H0,H1,H7,H8,hS⟩ ag;replace h:=hr m2 v h;clear hr;refine yaf ?_;refine yay yaD ?_;refine rl_q rfl rfl rfl (ydj H8 H7) ?_;refine yaa ?_;refine yaf ?_;by_cases hp:v<((s.length:Nat):Int)
  · replace h:=h.1 hp;refine zc hp (yag (yaf (yai (zs (zH H8 (zQ (ii v) (yaa (zs (zH H1 (zH H0 (zM (ii v) ?_)))))))))));obtain ⟨hx,h⟩:=h;refine zq (zi underlying25 yaL (yaP (hS.rdr 0 rfl) hx)) ?_;obtain ⟨A,l,c,hc,hq⟩:=hS.el 0 rfl hx 2 3 rfl rfl (by decide);replace hS:=hq;clear hq;refine zq (yau (v:=(.slice A l c)) rfl underlying29 rfl (hS.clr 3 rfl)) ?_;obtain ⟨fid,us,hf,he,hcl⟩:=hS.ro 1 rfl _ (Keeps.refl _ _);replace h:=hcl _ _ _ _ _ h (hS.rdr 2 rfl);clear hcl;refine zn (ydx (hf) (am1 rfl) he (h.mono ?_));clear hf he;rintro _ w3 ⟨r,rfl,hC,h⟩;replace hS:=hS.pur hC.pure;refine ⟨_,rfl,?_⟩;refine zb (yaa ?_);by_cases hp2:r=true
    · replace h:=h.1 hp2;exact yar (zC hp2) (zs (zM (ii v) (zQ (ii v) (yaa (yak rfl rfl ⟨_,rfl,hS.sel [],h⟩)))))
    · replace h:=h.2 hp2;refine yat (zC (zI hp2)) (yag (yah (zr ?_)));obtain ⟨hi,h⟩:=h;refine zq (ybS H8 rfl hi) (zM (ii (v+1)) (yaa ?_));obtain ⟨mq,hlt,h⟩:=h;exact ag mq _ _ _ ⟨_,h,rfl,H0,H1,H7,rfl,hS.sel [0,1]⟩ hlt
  · replace h:=h.2 hp;exact zd hp (yax rfl (zs (zQ (ii (-1)) (yaa (yak rfl rfl ⟨_,rfl,hS.sel [],h⟩)))))
def yaU(s:List (List Int))(Ff:(List Int)→(Bool→Prop)→Prop)(R:Bool→Prop):Prop :=
yb9 s Ff (fun r =>
R (decide (0≤r)))
theorem ybD{O:Nat→Prop}{w:World}{s:List (List Int)}{Ff:(List Int)→(Bool→Prop)→Prop}{As:Option Addr}{ls:Nat}{cs:Nat}{f:Value}{R:Bool→Prop}(h:yaU s Ff R)(hO:∀ k,O k→k<w.heap.size)(hA0:(FP.sl (cL cI) As ls cs s).P O w)(hA1:(FP.st fun w'=>∃ (fid:Nat) (us:Array Value),f=Value.func (.func fid) #[] us∧Enters Tryz.prog fid∧∀ (x0:List Int) (Ax0:Option Addr) (lx0:Nat) (cx0:Nat) (R:Bool→Prop),Ff x0 R→(FP.sl cI Ax0 lx0 cx0 x0).P no w'→Calls Tryz.prog fid (#[(Value.slice Ax0 lx0 cx0)]++us) w' fun e w''=>∃ r0:Bool,e = .returned (Value.bool (r0))∧Sep w' no no w'' (rl [])∧R r0).P O w) :
    Calls Tryz.prog 58 #[.slice As ls cs,f] w fun e w'=>∃ r2,e = .returned (.bool (r2))∧Sep w no O w' (rl [])∧R r2:=by
  unfold yaU at h;have hS:Sep w no O w (rl [Res.ro (FP.sl (cL cI) As ls cs s),Res.ro (FP.st fun w'=>∃ (fid:Nat) (us:Array Value),f=Value.func (.func fid) #[] us∧Enters Tryz.prog fid∧∀ (x0:List Int) (Ax0:Option Addr) (lx0:Nat) (cx0:Nat) (R:Bool→Prop),Ff x0 R→(FP.sl cI Ax0 lx0 cx0 x0).P no w'→Calls Tryz.prog fid (#[(Value.slice Ax0 lx0 cx0)]++us) w' fun e w''=>∃ r0:Bool,e = .returned (Value.bool (r0))∧Sep w' no no w'' (rl [])∧R r0)]):=Sep.startl hO [(FP.sl (cL cI) As ls cs s),(FP.st fun w'=>∃ (fid:Nat) (us:Array Value),f=Value.func (.func fid) #[] us∧Enters Tryz.prog fid∧∀ (x0:List Int) (Ax0:Option Addr) (lx0:Nat) (cx0:Nat) (R:Bool→Prop),Ff x0 R→(FP.sl cI Ax0 lx0 cx0 x0).P no w'→Calls Tryz.prog fid (#[(Value.slice Ax0 lx0 cx0)]++us) w' fun e w''=>∃ r0:Bool,e = .returned (Value.bool (r0))∧Sep w' no no w'' (rl [])∧R r0)] ⟨hA0,hA1,trivial⟩;refine yap (l:=[(Value.slice As ls cs),f]) func58 rfl ntmps58 (Nat.le_of_ble_eq_true rfl) ?_;refine yaf ?_;refine yay yaD ?_;refine rl_q rfl rfl rfl (ybI (v:=(.bool (false))) rfl) ?_;refine yaa ?_;refine yaf ?_;refine yay yaD ?_;refine rl_q rfl rfl rfl (yad (v:=(.slice As ls cs)) rfl) ?_;refine rl_q rfl rfl rfl (yad (v:=f) rfl) ?_;refine rl_n rfl rfl rfl rfl (yam rfl (am2 rfl rfl) enter_104 ((ye4 h (yaB _) (hS.rdr 0 rfl) (FP.sub _ (hS.ro 1 rfl) (fun _ _ h=>h.elim):FP.P _ no _)).mono ?_));rintro _ w2 ⟨r,rfl,hC,h⟩;replace hS:=hS.pur hC.pure;refine ⟨_,rfl,?_⟩;refine ⟨Stb.none _,?_⟩;refine rl_q rfl rfl rfl (yiF rfl rfl) ?_;refine rl_q rfl rfl rfl (ybI (v:=(.bool (decide (0≤r)))) rfl) ?_;refine yaa ?_;exact yak rfl rfl ⟨_,rfl,(hS.sel [] (by decide)),h⟩
def ycj(s:List Int)(Ff:Int→(Bool→Prop)→Prop)(R:Int→Prop):Prop :=
(∃ I2:Nat→Int→Prop,(∃ m0,I2 m0 0)∧∀ m2 v,I2 m2 v → 
((v<(s.length:Int) →
((0≤v∧v<(s.length:Int)) ∧
Ff (gi s v.toNat) (fun (r:Bool) =>
((r=true →
R v) ∧
(¬(r=true) →
(In64 (v+1) ∧
∃ m3,m3<m2∧I2 m3 (v+1))))))) ∧
(¬(v<(s.length:Int)) →
R (-1))))
theorem yfo{O:Nat→Prop}{w:World}{s:List Int}{Ff:Int→(Bool→Prop)→Prop}{As:Option Addr}{ls:Nat}{cs:Nat}{f:Value}{R:Int→Prop}(h:ycj s Ff R)(hO:∀ k,O k→k<w.heap.size)(hA0:(FP.sl cI As ls cs s).P O w)(hA1:(FP.st fun w'=>∃ (fid:Nat) (us:Array Value),f=Value.func (.func fid) #[] us∧Enters Tryz.prog fid∧∀ (x0:Int) (R:Bool→Prop),Ff x0 R→Calls Tryz.prog fid (#[(Value.int .i64 x0)]++us) w' fun e w''=>∃ r0:Bool,e = .returned (Value.bool (r0))∧Sep w' no no w'' (rl [])∧R r0).P O w) :
    Calls Tryz.prog 137 #[.slice As ls cs,f] w fun e w'=>∃ r2,e = .returned (ii r2)∧Sep w no O w' (rl [])∧R r2:=by
  unfold ycj at h;have hS:Sep w no O w (rl [Res.ro (FP.sl cI As ls cs s),Res.ro (FP.st fun w'=>∃ (fid:Nat) (us:Array Value),f=Value.func (.func fid) #[] us∧Enters Tryz.prog fid∧∀ (x0:Int) (R:Bool→Prop),Ff x0 R→Calls Tryz.prog fid (#[(Value.int .i64 x0)]++us) w' fun e w''=>∃ r0:Bool,e = .returned (Value.bool (r0))∧Sep w' no no w'' (rl [])∧R r0)]):=Sep.startl hO [(FP.sl cI As ls cs s),(FP.st fun w'=>∃ (fid:Nat) (us:Array Value),f=Value.func (.func fid) #[] us∧Enters Tryz.prog fid∧∀ (x0:Int) (R:Bool→Prop),Ff x0 R→Calls Tryz.prog fid (#[(Value.int .i64 x0)]++us) w' fun e w''=>∃ r0:Bool,e = .returned (Value.bool (r0))∧Sep w' no no w'' (rl [])∧R r0)] ⟨hA0,hA1,trivial⟩;refine yap (l:=[(Value.slice As ls cs),f]) func137 rfl ntmps137 (Nat.le_of_ble_eq_true rfl) ?_;refine yaf ?_;refine yay yaD ?_;refine rl_q rfl rfl rfl (ybI (v:=(.int .i64 0)) rfl) ?_;refine yaa ?_;refine yaf ?_;refine yaf ?_;refine yay yaD ?_;refine rl_q rfl rfl rfl (yad (v:=(.slice As ls cs)) rfl) ?_;refine rl_q rfl rfl rfl (yaF (n:=s.length) rfl underlying29 (yaE (hS.rdr 0 rfl))) ?_;refine rl_q rfl rfl rfl (yad (v:=(.int .i64 0)) rfl) ?_;refine yaa ?_;refine yai ?_;obtain ⟨I2,⟨m0,h0⟩,hr⟩:=h;refine yaz (fun m E ds w'=>∃ v:Int,I2 m v∧ds=[]∧E 0=(Value.slice As ls cs)∧E 1=f∧E 7=(Value.int .i64 ((s.length:Nat):Int))∧E 8=(Value.int .i64 v)∧Sep w no O w' (rl [Res.ro (FP.sl cI As ls cs s),Res.ro (FP.st fun w'=>∃ (fid:Nat) (us:Array Value),f=Value.func (.func fid) #[] us∧Enters Tryz.prog fid∧∀ (x0:Int) (R:Bool→Prop),Ff x0 R→Calls Tryz.prog fid (#[(Value.int .i64 x0)]++us) w' fun e w''=>∃ r0:Bool,e = .returned (Value.bool (r0))∧Sep w' no no w'' (rl [])∧R r0)])) m0 ⟨_,h0,rfl,rfl,rfl,rfl,rfl,(hS.sel [0,1] (by decide))⟩ ?_;clear h0 hS;rintro m2 E ds w2 ⟨v,h,rfl,H0,H1,H7,H8,hS⟩ ag;replace h:=hr m2 v h;clear hr;refine yaf ?_;refine yay yaD ?_;refine rl_q rfl rfl rfl (ydj H8 H7) ?_;refine yaa ?_;refine yaf ?_;by_cases hp:v<((s.length:Nat):Int)
  · replace h:=h.1 hp;refine zc hp (yag (yaf (yai (zs (zH H8 (zQ (ii v) (yaa (zs (zH H1 (zH H0 (zM (ii v) ?_)))))))))));obtain ⟨hx,h⟩:=h;refine zq (zi underlying29 yaj (yaP (hS.rdr 0 rfl) hx)) (zq (yau (v:=(ii (gi s v.toNat))) rfl underlying3 rfl (rd_1 (hS.rdr 0 rfl) hx (fun q=>yaY q) rfl)) ?_);obtain ⟨fid,us,hf,he,hcl⟩:=hS.ro 1 rfl _ (Keeps.refl _ _);replace h:=hcl _ _ h;clear hcl;refine zn (ydx (hf) (am1 rfl) he (h.mono ?_));clear hf he;rintro _ w3 ⟨r,rfl,hC,h⟩;replace hS:=hS.pur hC.pure;refine ⟨_,rfl,?_⟩;refine zb (yaa ?_);by_cases hp2:r=true
    · replace h:=h.1 hp2;exact yar (zC hp2) (zs (zM (ii v) (zQ (ii v) (yaa (yak rfl rfl ⟨_,rfl,hS.sel [],h⟩)))))
    · replace h:=h.2 hp2;refine yat (zC (zI hp2)) (yag (yah (zr ?_)));obtain ⟨hi,h⟩:=h;refine zq (ybS H8 rfl hi) (zM (ii (v+1)) (yaa ?_));obtain ⟨mq,hlt,h⟩:=h;exact ag mq _ _ _ ⟨_,h,rfl,H0,H1,H7,rfl,hS.sel [0,1]⟩ hlt
  · replace h:=h.2 hp;exact zd hp (yax rfl (zs (zQ (ii (-1)) (yaa (yak rfl rfl ⟨_,rfl,hS.sel [],h⟩)))))
def yba(s:List Int)(Ff:Int→(Bool→Prop)→Prop)(R:Bool→Prop):Prop :=
ycj s Ff (fun r =>
R (decide (0≤r)))
theorem ycN{O:Nat→Prop}{w:World}{s:List Int}{Ff:Int→(Bool→Prop)→Prop}{As:Option Addr}{ls:Nat}{cs:Nat}{f:Value}{R:Bool→Prop}(h:yba s Ff R)(hO:∀ k,O k→k<w.heap.size)(hA0:(FP.sl cI As ls cs s).P O w)(hA1:(FP.st fun w'=>∃ (fid:Nat) (us:Array Value),f=Value.func (.func fid) #[] us∧Enters Tryz.prog fid∧∀ (x0:Int) (R:Bool→Prop),Ff x0 R→Calls Tryz.prog fid (#[(Value.int .i64 x0)]++us) w' fun e w''=>∃ r0:Bool,e = .returned (Value.bool (r0))∧Sep w' no no w'' (rl [])∧R r0).P O w) :
    Calls Tryz.prog 105 #[.slice As ls cs,f] w fun e w'=>∃ r2,e = .returned (.bool (r2))∧Sep w no O w' (rl [])∧R r2:=by
  unfold yba at h;have hS:Sep w no O w (rl [Res.ro (FP.sl cI As ls cs s),Res.ro (FP.st fun w'=>∃ (fid:Nat) (us:Array Value),f=Value.func (.func fid) #[] us∧Enters Tryz.prog fid∧∀ (x0:Int) (R:Bool→Prop),Ff x0 R→Calls Tryz.prog fid (#[(Value.int .i64 x0)]++us) w' fun e w''=>∃ r0:Bool,e = .returned (Value.bool (r0))∧Sep w' no no w'' (rl [])∧R r0)]):=Sep.startl hO [(FP.sl cI As ls cs s),(FP.st fun w'=>∃ (fid:Nat) (us:Array Value),f=Value.func (.func fid) #[] us∧Enters Tryz.prog fid∧∀ (x0:Int) (R:Bool→Prop),Ff x0 R→Calls Tryz.prog fid (#[(Value.int .i64 x0)]++us) w' fun e w''=>∃ r0:Bool,e = .returned (Value.bool (r0))∧Sep w' no no w'' (rl [])∧R r0)] ⟨hA0,hA1,trivial⟩;refine yap (l:=[(Value.slice As ls cs),f]) func105 rfl ntmps105 (Nat.le_of_ble_eq_true rfl) ?_;refine yaf ?_;refine yay yaD ?_;refine rl_q rfl rfl rfl (ybI (v:=(.bool (false))) rfl) ?_;refine yaa ?_;refine yaf ?_;refine yay yaD ?_;refine rl_q rfl rfl rfl (yad (v:=(.slice As ls cs)) rfl) ?_;refine rl_q rfl rfl rfl (yad (v:=f) rfl) ?_;refine rl_n rfl rfl rfl rfl (yam rfl (am2 rfl rfl) enter_137 ((yfo h (yaB _) (hS.rdr 0 rfl) (FP.sub _ (hS.ro 1 rfl) (fun _ _ h=>h.elim):FP.P _ no _)).mono ?_));rintro _ w2 ⟨r,rfl,hC,h⟩;replace hS:=hS.pur hC.pure;refine ⟨_,rfl,?_⟩;refine ⟨Stb.none _,?_⟩;refine rl_q rfl rfl rfl (yiF rfl rfl) ?_;refine rl_q rfl rfl rfl (ybI (v:=(.bool (decide (0≤r)))) rfl) ?_;refine yaa ?_;exact yak rfl rfl ⟨_,rfl,(hS.sel [] (by decide)),h⟩
def ydw(v:Int)(cap:List Int)(R:Bool→Prop):Prop :=
yaR cap v (fun r =>
R r)
theorem yha{O:Nat→Prop}{w:World}{v cap gc Aa Ab Ac}{R:Bool→Prop}(h:ydw v cap R)(hO:∀ k,O k→k<w.heap.size)(hA0:(FP.bx 29 gc [(Value.slice Aa Ab Ac)]).P O w)(hA1:(FP.sl cI Aa Ab Ac cap).P O w) :
    Calls Tryz.prog 106 #[ii v,(.pointer (some ⟨gc,0,none⟩))] w fun e w'=>∃ r2,e = .returned (.bool (r2))∧Sep w no O w' (rl [])∧R r2:=by
  unfold ydw at h;have hS:Sep w no O w (rl [Res.ro (FP.bx 29 gc [.slice Aa Ab Ac]),Res.ro (FP.sl cI Aa Ab Ac cap)]):=Sep.startl hO [(FP.bx 29 gc [.slice Aa Ab Ac]),(FP.sl cI Aa Ab Ac cap)] ⟨hA0,hA1,trivial⟩;refine yap (l:=[ii v,(.pointer (some ⟨gc,0,none⟩))]) func106 rfl ntmps106 zY (zs (zQ (.bool (false)) (yaa (zs (zq (zl underlying29 (hS.br 0 0)) (zM (ii v) (zn (yam rfl (am2 rfl rfl) yhS ((ybA h (yaB _) (hS.rdr 1 rfl)).mono ?_)))))))));rintro _ w2 ⟨r,rfl,hC,h⟩;replace hS:=hS.pur hC.pure;refine ⟨_,rfl,?_⟩;exact zb (zQ (.bool (r)) (yaa (yak rfl rfl ⟨_,rfl,hS.sel [],h⟩)))
def ycf(set2:List Int)(egg:List Int)(R:Bool→Prop):Prop :=
yba egg (fun x R=>ydw x set2 R) (fun r =>
R r)
theorem yfg{O:Nat→Prop}{w:World}{set2 egg Ad Ae Af Aa Ab Ac}{R:Bool→Prop}(h:ycf set2 egg R)(hO:∀ k,O k→k<w.heap.size)(hA0:(FP.sl cI Ad Ae Af set2).P O w)(hA1:(FP.sl cI Aa Ab Ac egg).P O w) :
    Calls Tryz.prog 60 #[.slice Ad Ae Af,.slice Aa Ab Ac] w fun e w'=>∃ r2,e = .returned (.bool (r2))∧Sep w no O w' (rl [])∧R r2:=by
  unfold ycf at h;have hS:Sep w no O w (rl [Res.ro (FP.sl cI Ad Ae Af set2),Res.ro (FP.sl cI Aa Ab Ac egg)]):=Sep.startl hO [(FP.sl cI Ad Ae Af set2),(FP.sl cI Aa Ab Ac egg)] ⟨hA0,hA1,trivial⟩;refine yap (l:=[.slice Ad Ae Af,.slice Aa Ab Ac]) func60 rfl ntmps60 zY (zs (zn (ya8 (v:=(.slice Ad Ae Af)) rfl ?_)));intro g w2 hN;replace hS:=hS.neu 2 [.slice Ad Ae Af] hN;clear hN;refine zb (zQ (.bool (false)) (yaa (zs (zM (.slice Aa Ab Ac) (zq (yeZ (am0) (am1 rfl)) ?_)))));replace hS:=hS.frzb 2 rfl;refine zn (yam rfl (am2 rfl rfl) enter_105 ((ycN h (yaB _) (hS.rdr 1 rfl) (fun w' hk=>⟨106,#[(.pointer (some ⟨g,0,none⟩))],rfl,enter_106,fun x R hF=>ya4 (by simp) (yha hF (yaB _) (FP.sub _ (FP.keep _ (FP.sub _ (hS.ro 2 rfl) (fun _ _ h=>h.elim):FP.P _ no _) hk) fun _ _ h=>h.elim) (FP.sub _ (FP.keep _ (FP.sub _ (hS.ro 0 rfl) (fun _ _ h=>h.elim):FP.P _ no _) hk) fun _ _ h=>h.elim))⟩)).mono ?_));rintro _ w3 ⟨r,rfl,hC,h⟩;replace hS:=hS.pur hC.pure;refine ⟨_,rfl,?_⟩;exact zb (zQ (.bool (r)) (yaa (yak rfl rfl ⟨_,rfl,hS.sel [],h⟩)))
def ycu(egg:List Int)(cap:List Int)(R:Bool→Prop):Prop :=
ycf cap egg (fun r =>
R (!(r)))
theorem yfI{O:Nat→Prop}{w:World}{egg cap Ad Ae Af gc Aa Ab Ac}{R:Bool→Prop}(h:ycu egg cap R)(hO:∀ k,O k→k<w.heap.size)(hA0:(FP.sl cI Ad Ae Af egg).P O w)(hA1:(FP.bx 29 gc [(Value.slice Aa Ab Ac)]).P O w)(hA2:(FP.sl cI Aa Ab Ac cap).P O w) :
    Calls Tryz.prog 59 #[.slice Ad Ae Af,(.pointer (some ⟨gc,0,none⟩))] w fun e w'=>∃ r2,e = .returned (.bool (r2))∧Sep w no O w' (rl [])∧R r2:=by
  unfold ycu at h;have hS:Sep w no O w (rl [Res.ro (FP.sl cI Ad Ae Af egg),Res.ro (FP.bx 29 gc [.slice Aa Ab Ac]),Res.ro (FP.sl cI Aa Ab Ac cap)]):=Sep.startl hO [(FP.sl cI Ad Ae Af egg),(FP.bx 29 gc [.slice Aa Ab Ac]),(FP.sl cI Aa Ab Ac cap)] ⟨hA0,hA1,hA2,trivial⟩;refine yap (l:=[.slice Ad Ae Af,(.pointer (some ⟨gc,0,none⟩))]) func59 rfl ntmps59 zY (zs (zQ (.bool (false)) (yaa (zs (zq (zl underlying29 (hS.br 1 0)) (zM (.slice Ad Ae Af) (zn (yam rfl (am2 rfl rfl) enter_60 ((yfg h (yaB _) (hS.rdr 2 rfl) (hS.rdr 0 rfl)).mono ?_)))))))));rintro _ w2 ⟨r,rfl,hC,h⟩;replace hS:=hS.pur hC.pure;refine ⟨_,rfl,?_⟩;exact zb (zq (ycX rfl) (zQ (.bool (!(r))) (yaa (yak rfl rfl ⟨_,rfl,hS.sel [],h⟩))))
def yb1(set2:List Int)(cap:List (List Int))(R:Int→Bool→Prop):Prop :=
yaU cap (fun x R=>ycu x set2 R) (fun r =>
R (set2.length:Int) (!(r)))
theorem ygk{O:Nat→Prop}{w:World}{set2 cap Ad Ae Af gc Aa Ab Ac}{R:Int→Bool→Prop}(h:yb1 set2 cap R)(hO:∀ k,O k→k<w.heap.size)(hA0:(FP.sl cI Ad Ae Af set2).P O w)(hA1:(FP.bx 25 gc [(Value.slice Aa Ab Ac)]).P O w)(hA2:(FP.sl (cL cI) Aa Ab Ac cap).P O w) :
    Calls Tryz.prog 57 #[.slice Ad Ae Af,(.pointer (some ⟨gc,0,none⟩))] w fun e w'=>∃ r2 r3,e = .returned (.tuple #[ii r2,(.bool (r3))])∧Sep w no O w' (rl [])∧R r2 r3:=by
  unfold yb1 at h;have hS:Sep w no O w (rl [Res.ro (FP.sl cI Ad Ae Af set2),Res.ro (FP.bx 25 gc [.slice Aa Ab Ac]),Res.ro (FP.sl (cL cI) Aa Ab Ac cap)]):=Sep.startl hO [(FP.sl cI Ad Ae Af set2),(FP.bx 25 gc [.slice Aa Ab Ac]),(FP.sl (cL cI) Aa Ab Ac cap)] ⟨hA0,hA1,hA2,trivial⟩;refine yap (l:=[.slice Ad Ae Af,(.pointer (some ⟨gc,0,none⟩))]) func57 rfl ntmps57 zY (zs (zn (ya8 (v:=(.slice Ad Ae Af)) rfl ?_)));intro g w2 hN;replace hS:=hS.neu 3 [.slice Ad Ae Af] hN;clear hN;refine zb (zQ (ii 0) (zQ (.bool (false)) (yaa (yaf (yaT [0,1,2,3,4,5,6,7] (fun i=>match i with | 4=>[0,1] | _=>[]) yaD (by kernel_rfl) (by kernel_rfl) ?_)))));replace hS:=hS.drew;refine zp (zl underlying29 (hS.bc 3 0)) (zp (yaF (n:=set2.length) rfl underlying29 (yaE (hS.rdr 0 rfl))) (zp (zl underlying25 (hS.br 1 0)) (zp (yeZ (am0) (am1 rfl)) ?_)));replace hS:=hS.frzb 3 rfl;refine rp_n rfl rfl rfl rfl (yam rfl (am2 rfl rfl) enter_58 ((ybD h (yaB _) (hS.rdr 2 rfl) (fun w' hk=>⟨59,#[(.pointer (some ⟨g,0,none⟩))],rfl,enter_59,fun x Ax lx cx R hF hz0=>ya4 (by simp) (yfI hF (yaB _) hz0 (FP.sub _ (FP.keep _ (FP.sub _ (hS.ro 3 rfl) (fun _ _ h=>h.elim):FP.P _ no _) hk) fun _ _ h=>h.elim) (FP.sub _ (FP.keep _ (FP.sub _ (hS.ro 0 rfl) (fun _ _ h=>h.elim):FP.P _ no _) hk) fun _ _ h=>h.elim))⟩)).mono ?_));rintro _ w3 ⟨r,rfl,hC,h⟩;replace hS:=hS.pur hC.pure;refine ⟨_,rfl,?_⟩;refine ⟨⟨fun hh=>zZ hh,⟨fun hh=>zZ hh,⟨fun _=>(yaF (n:=set2.length) rfl underlying29 (yaE (hS.rdr 0 rfl))),⟨fun _=>(zl underlying29 (hS.br 3 0)),trivial⟩⟩⟩⟩,?_⟩;exact zp (ycX rfl) (zp (za (ii (set2.length:Int))) (zp (za (.bool (!(r)))) (yaZ (yaG rfl rfl rfl ⟨_,_,rfl,hS.sel [],h⟩))))
def ybh(g:Int)(g2:List E3)(s:List (List Int))(R:Int→(List Int)→Int→Prop):Prop :=
ybN g g2 s (fun r =>
((r=0 →
yc2 g (fun x R=>yb1 x s R) (fun r2 r3 =>
R r2 r3 0)) ∧
(¬(r=0) →
R 0 ([]) r)))
theorem ydd{O:Nat→Prop}{w:World}{g g2 s Ag lg cg As ls cs}{R:Int→(List Int)→Int→Prop}(h:ybh g g2 s R)(hO:∀ k,O k→k<w.heap.size)(hA0:(FP.sl c3 Ag lg cg g2).P O w)(hA1:(FP.sl (cL cI) As ls cs s).P O w) :
    Calls Tryz.prog 14 #[(.agg #[ii g,.slice Ag lg cg]),.slice As ls cs] w fun e w'=>∃ r4 r5 r6 Ar2 lr2 cr2,e = .returned (.tuple #[ii r4,.slice Ar2 lr2 cr2,ii r6])∧Sep w no O w' (rl [Res.own cI 3 Ar2 lr2 cr2 r5])∧R r4 r5 r6:=by
  unfold ybh at h;have hS:Sep w no O w (rl [Res.ro (FP.sl c3 Ag lg cg g2),Res.ro (FP.sl (cL cI) As ls cs s)]):=Sep.startl hO [(FP.sl c3 Ag lg cg g2),(FP.sl (cL cI) As ls cs s)] ⟨hA0,hA1,trivial⟩;refine yap (l:=[(.agg #[ii g,.slice Ag lg cg]),.slice As ls cs]) func14 rfl ntmps14 zY (zs (zn (ya8 (v:=(.agg #[ii g,.slice Ag lg cg])) rfl ?_)));intro g3 w2 hN;replace hS:=hS.neu 2 [ii g,.slice Ag lg cg] hN;clear hN;refine zb (zn (ya8 (v:=(.slice As ls cs)) rfl ?_));intro g4 w3 hN;replace hS:=hS.neu 3 [.slice As ls cs] hN;clear hN;refine zb (zQ (ii 0) (zQ (.slice none 0 0) (zQ (ii 0) (yaa (yaf (zs (zq (yaq (vs:=[ii g,.slice Ag lg cg]) rfl underlying24 rfl yao ⟨hS.bc 2 0,hS.bc 2 1,trivial⟩) (zq (zl underlying25 (hS.bc 3 0)) (zn (yam rfl (am2 rfl rfl) enter_20 ((ydL h (yaB _) (hS.rdr 0 rfl) (hS.rdr 1 rfl)).mono ?_)))))))))));rintro _ w4 ⟨r,rfl,hC,h⟩;replace hS:=hS.pur hC.pure;refine ⟨_,rfl,?_⟩;refine zb (zQ (ii r) (yaa (zs (zM (ii r) (zq zN (yaa ?_))))));by_cases hp:r=0
  · replace h:=h.1 hp;refine ze hp (yag (zs (zq (yan rfl underlying24 rfl yaj) (zq (zl underlying3 (hS.bc 2 0)) (zq (yeZ (am0) (am1 rfl)) ?_)))));replace hS:=hS.frzb 3 rfl;refine zn (yam rfl (am2 rfl rfl) enter_56 ((yhW h (yaB _) (fun w' hk=>⟨57,#[(.pointer (some ⟨g4,0,none⟩))],rfl,enter_57,fun x Ax lx cx R hF hz0=>ya4 (by simp) (ygk hF (yaB _) hz0 (FP.sub _ (FP.keep _ (FP.sub _ (hS.ro 3 rfl) (fun _ _ h=>h.elim):FP.P _ no _) hk) fun _ _ h=>h.elim) (FP.sub _ (FP.keep _ (FP.sub _ (hS.ro 1 rfl) (fun _ _ h=>h.elim):FP.P _ no _) hk) fun _ _ h=>h.elim))⟩)).mono ?_));rintro _ w5 ⟨r2,r3,Ar,lr,cr,rfl,hC,h⟩;replace hS:=hS.call1 (hC.widen (yde (ya0 (fI .i64) _ _ _ _ _) ydA) hS.blt) 4 0 rfl;clear hC;refine ⟨_,rfl,?_⟩;exact zb (zM (.tuple #[ii r2,.slice Ar lr cr]) (zq (zx (ii r2)) (zq (zx (.slice Ar lr cr)) (zQ (ii r2) (zQ (.slice Ar lr cr) (yaa (zs (zM (ii r2) (zM (.slice Ar lr cr) (zQ (ii r2) (zQ (.slice Ar lr cr) (zQ (ii 0) (yaa (ybR rfl rfl rfl rfl ⟨_,_,_,_,_,_,rfl,hS.sel [4],h⟩))))))))))))))
  · replace h:=h.2 hp;refine zf hp (zs (zM (ii r) (zQ (ii 0) (zQ (.slice none 0 0) (zQ (ii r) (yaa ?_))))));replace hS:=hS.nil 4 rfl cI 3;exact ybR rfl rfl rfl rfl ⟨_,_,_,_,_,_,rfl,hS.sel [4],h⟩
def ydg(v:Int)(cap:List Int)(R:Bool→Prop):Prop :=
yaR cap v (fun r =>
R (!(r)))
theorem ygH{O:Nat→Prop}{w:World}{v cap gc Aa Ab Ac}{R:Bool→Prop}(h:ydg v cap R)(hO:∀ k,O k→k<w.heap.size)(hA0:(FP.bx 29 gc [(Value.slice Aa Ab Ac)]).P O w)(hA1:(FP.sl cI Aa Ab Ac cap).P O w) :
    Calls Tryz.prog 110 #[ii v,(.pointer (some ⟨gc,0,none⟩))] w fun e w'=>∃ r2,e = .returned (.bool (r2))∧Sep w no O w' (rl [])∧R r2:=by
  unfold ydg at h;have hS:Sep w no O w (rl [Res.ro (FP.bx 29 gc [.slice Aa Ab Ac]),Res.ro (FP.sl cI Aa Ab Ac cap)]):=Sep.startl hO [(FP.bx 29 gc [.slice Aa Ab Ac]),(FP.sl cI Aa Ab Ac cap)] ⟨hA0,hA1,trivial⟩;refine yap (l:=[ii v,(.pointer (some ⟨gc,0,none⟩))]) func110 rfl ntmps110 zY (zs (zQ (.bool (false)) (yaa (zs (zq (zl underlying29 (hS.br 0 0)) (zM (ii v) (zn (yam rfl (am2 rfl rfl) yhS ((ybA h (yaB _) (hS.rdr 1 rfl)).mono ?_)))))))));rintro _ w2 ⟨r,rfl,hC,h⟩;replace hS:=hS.pur hC.pure;refine ⟨_,rfl,?_⟩;exact zb (zq (ycX rfl) (zQ (.bool (!(r))) (yaa (yak rfl rfl ⟨_,rfl,hS.sel [],h⟩))))
def ycM(set2:List Int)(egg:List Int)(R:Bool→Prop):Prop :=
yba egg (fun x R=>ydg x set2 R) (fun r =>
R (!(r)))
theorem yhv{O:Nat→Prop}{w:World}{set2 egg Ad Ae Af Aa Ab Ac}{R:Bool→Prop}(h:ycM set2 egg R)(hO:∀ k,O k→k<w.heap.size)(hA0:(FP.sl cI Ad Ae Af set2).P O w)(hA1:(FP.sl cI Aa Ab Ac egg).P O w) :
    Calls Tryz.prog 64 #[.slice Ad Ae Af,.slice Aa Ab Ac] w fun e w'=>∃ r2,e = .returned (.bool (r2))∧Sep w no O w' (rl [])∧R r2:=by
  unfold ycM at h;have hS:Sep w no O w (rl [Res.ro (FP.sl cI Ad Ae Af set2),Res.ro (FP.sl cI Aa Ab Ac egg)]):=Sep.startl hO [(FP.sl cI Ad Ae Af set2),(FP.sl cI Aa Ab Ac egg)] ⟨hA0,hA1,trivial⟩;refine yap (l:=[.slice Ad Ae Af,.slice Aa Ab Ac]) func64 rfl ntmps64 zY (zs (zn (ya8 (v:=(.slice Ad Ae Af)) rfl ?_)));intro g w2 hN;replace hS:=hS.neu 2 [.slice Ad Ae Af] hN;clear hN;refine zb (zQ (.bool (false)) (yaa (zs (zM (.slice Aa Ab Ac) (zq (yeZ (am0) (am1 rfl)) ?_)))));replace hS:=hS.frzb 2 rfl;refine zn (yam rfl (am2 rfl rfl) enter_105 ((ycN h (yaB _) (hS.rdr 1 rfl) (fun w' hk=>⟨110,#[(.pointer (some ⟨g,0,none⟩))],rfl,enter_110,fun x R hF=>ya4 (by simp) (ygH hF (yaB _) (FP.sub _ (FP.keep _ (FP.sub _ (hS.ro 2 rfl) (fun _ _ h=>h.elim):FP.P _ no _) hk) fun _ _ h=>h.elim) (FP.sub _ (FP.keep _ (FP.sub _ (hS.ro 0 rfl) (fun _ _ h=>h.elim):FP.P _ no _) hk) fun _ _ h=>h.elim))⟩)).mono ?_));rintro _ w3 ⟨r,rfl,hC,h⟩;replace hS:=hS.pur hC.pure;refine ⟨_,rfl,?_⟩;exact zb (zq (ycX rfl) (zQ (.bool (!(r))) (yaa (yak rfl rfl ⟨_,rfl,hS.sel [],h⟩))))
def yfi(g:Int)(g2:List E3)(set2:List Int)(R:(List Int)→Int→Prop):Prop :=
ybz g g2 set2 (fun r =>
((r=0 →
ycA g g2 ((∃ Pr Rr:List E3→Prop,ybk g g2 Pr Rr ∧
(∃ I2:List E3→(List Int)→Prop,I2 [] ([]) ∧
(∀ pre y y2 y3 out,I2 pre out→Pr (pre++[(y,y2,y3)]) →
yaR set2 y2 (fun r2 =>
yaR set2 y3 (fun r3 =>
(((r2==r3)=true →
I2 (pre++[(y,y2,y3)]) out) ∧
(¬((r2==r3)=true) →
(out.length+1≤1000000000 ∧
I2 (pre++[(y,y2,y3)]) (out++[y]))))))) ∧
(∀ ys out,I2 ys out→Rr ys →
R out 0))))) ∧
(¬(r=0) →
R ([]) r)))
theorem pok_graph_Cut{O:Nat→Prop}{w:World}{g g2 set2 Ag lg cg Ad Ae Af}{R:(List Int)→Int→Prop}(h:yfi g g2 set2 R)(hO:∀ k,O k→k<w.heap.size)(hA0:(FP.sl c3 Ag lg cg g2).P O w)(hA1:(FP.sl cI Ad Ae Af set2).P O w) :
    Calls Tryz.prog 66 #[(.agg #[ii g,.slice Ag lg cg]),.slice Ad Ae Af] w fun e w'=>∃ r4 r5 Ar lr cr,e = .returned (.tuple #[.slice Ar lr cr,ii r5])∧Sep w no O w' (rl [Res.own cI 3 Ar lr cr r4])∧R r4 r5:=by
  unfold yfi at h;have hS:Sep w no O w (rl [Res.ro (FP.sl c3 Ag lg cg g2),Res.ro (FP.sl cI Ad Ae Af set2)]):=Sep.startl hO [(FP.sl c3 Ag lg cg g2),(FP.sl cI Ad Ae Af set2)] ⟨hA0,hA1,trivial⟩;refine yei (l:=[(.agg #[ii g,.slice Ag lg cg]),.slice Ad Ae Af]) func66 rfl ntmps66 zY (zs (zn (ya8 (v:=(.agg #[ii g,.slice Ag lg cg])) rfl ?_)));intro g3 w2 hN;replace hS:=hS.neu 2 [ii g,.slice Ag lg cg] hN;clear hN;refine zb (zn (ya8 (v:=(.slice Ad Ae Af)) rfl ?_));intro g4 w3 hN;replace hS:=hS.neu 3 [.slice Ad Ae Af] hN;clear hN;refine zb (zQ (.slice none 0 0) (zQ (ii 0) (yaa (yaf (zs (zq (yaq (vs:=[ii g,.slice Ag lg cg]) rfl underlying24 rfl yao ⟨hS.bc 2 0,hS.bc 2 1,trivial⟩) (zq (zl underlying29 (hS.bc 3 0)) (zn (yam rfl (am2 rfl rfl) enter_70 ((yes h (yaB _) (hS.rdr 0 rfl) (hS.rdr 1 rfl)).mono ?_))))))))));rintro _ w4 ⟨r,rfl,hC,h⟩;replace hS:=hS.pur hC.pure;refine ⟨_,rfl,?_⟩;refine zb (zQ (ii r) (yaa (zs (zM (ii r) (zq zN (yaa ?_))))));by_cases hp:r=0
  · replace h:=h.1 hp;refine ze hp (yag (zs (zn (yaO yaL ?_))));intro g5 w5 hN;replace hS:=hS.neu 4 [.slice none 0 0] hN;clear hN;refine zb (yaa (yaf (zs (zq (yaq (vs:=[ii g,.slice Ag lg cg]) rfl underlying24 rfl yao ⟨hS.bc 2 0,hS.bc 2 1,trivial⟩) (zn (yam rfl (am1 rfl) yjH ((yd1 h hS.blt (hS.ro 0 rfl)).mono ?_)))))));rintro _ w6 ⟨gc,rfl,hC,h⟩;replace hS:=hS.call1 hC 5 0 rfl;clear hC;refine ⟨_,rfl,?_⟩;refine zb (yaa (yai ?_));replace hS:=hS.nil 6 rfl cI 3;obtain ⟨Pr,Rr,hgp,I2,h0,hb,h⟩:=h;refine yiN hS [3,1,4,6] [5,0] (by decide) (by decide) ⟨.inl (by decide), .inr rfl,trivial⟩ rfl yjf (val:=(fun (x:E3)=>#[(ii x.1),(.agg #[(ii x.2.1),(ii x.2.2)])])) (pass:=(fun _=>FP.tt)) (Pr:=Pr) (R:=Rr) (fun _=>rfl) rfl (fun pr LL=>∃ out Aa Ab Ac,I2 pr out∧LL=[Res.box 29 g4 [.slice Ad Ae Af],Res.ro (FP.sl cI Ad Ae Af set2),Res.box 29 g5 [.slice Aa Ab Ac],Res.own cI 3 Aa Ab Ac out]) (fun _ _ _=>False) ⟨_,_,_,_,h0,rfl⟩ (fun T G hG=>ydt hgp hG) ?_ ?_ (fun _ _ _ _ _ hx=>hx.elim)
    · clear h h0 hS hgp;rintro ll rdy busy S O2 pre ⟨y,y2,y3⟩ w7 _ ⟨out,Aa,Ab,Ac,hI,rfl⟩ hPr hpass hS;have h:=hb pre y y2 y3 out hI hPr;clear hb hI hPr;clear hpass;refine yaf (yay (ya7 ll) (zQ (ii y) (yaa (yay (ya7 ll) (zn (yaO ybl ?_))))));intro g6 w9 hN;replace hS:=hS.neu 5 [ii 0,ii 0] hN;clear hN;refine zb (zo (yaV (b:=g6) (o:=0) (cells:=#[ii y2,ii y3]) rfl rfl ybl rfl rfl (yaI (hS.bx 5 rfl) zY) ?_));intro w10 e1;replace hS:=hS.bstn 5 rfl 0 [ii y2,ii y3] e1;clear e1;refine zb (yaa (ycO fun a ra=>⟨rfl,_,_,ra,hS,⟨4,rfl⟩,?_⟩));intro w11 hw;replace hS:=hS.flip 4 rfl busy hw;clear hw ra a;refine yai (yaf (yaT [0,1,2,4,5,6,3,7,8] (fun i=>match i with | 3=>[4,5,6] | _=>[]) (ya7 ll) (by kernel_rfl) (by kernel_rfl) ?_));replace hS:=hS.drew;refine zp (zl underlying29 (hS.bc 0 0)) (zp (yan rfl underlying133 rfl yaj) (zp (zl underlying3 (hS.bc 5 0)) (zp (zl underlying29 (hS.bc 0 0)) (zp (yan rfl underlying133 rfl yaj) (zp (zl underlying3 (hS.bc 5 1)) (rp_n rfl rfl rfl rfl (yam rfl (am2 rfl rfl) yhS ((ybA h (yaB _) (hS.rdr 1 rfl)).mono ?_))))))));rintro _ w12 ⟨r2,rfl,hC,h⟩;replace hS:=hS.pur hC.pure;refine ⟨_,rfl,?_⟩;refine ⟨⟨fun _=>(zl underlying3 (hS.bc 5 1)),⟨fun _=>(yan rfl underlying133 rfl yaj),⟨fun _=>(zl underlying29 (hS.bc 0 0)),⟨fun hh=>zZ hh,⟨fun hh=>zZ hh,⟨fun hh=>zZ hh,trivial⟩⟩⟩⟩⟩⟩,?_⟩;refine rp_n rfl rfl rfl rfl (yam rfl (am2 rfl rfl) yhS ((ybA h (yaB _) (hS.rdr 1 rfl)).mono ?_));rintro _ w13 ⟨r3,rfl,hC,h⟩;replace hS:=hS.pur hC.pure;refine ⟨_,rfl,?_⟩;refine zb (zp (v_bneq rfl rfl underlying4) (yaZ ?_));by_cases hp2:(r2==r3)=true
      · replace h:=h.1 hp2;exact yat (zC (zB hp2)) (yag (yah (ycO fun a r=>⟨_,⟨_,_,_,_,h,rfl⟩,hS.sel [0,1,2,3,4]⟩)))
      · replace h:=h.2 hp2;refine yar (zC (zB (zI hp2))) (yay (ya7 ll) (zq (zl underlying29 (hS.bc 2 0)) (zM (ii y) (zn (yaX (l:=[(0,(ii y))]) (cells:=[ii y]) (bp1 rfl) underlying29 yaj rfl rfl ?_)))));intro g7 w14 hN;replace hS:=hS.litf (n:=1) 6 rfl (fI .i64) hN ([y]:List Int) rfl (by decide) rfl;clear hN;refine zb ?_;obtain ⟨hx,h⟩:=h;refine zn (ygp (c:=cI) rfl rfl underlying29 underlying29 yaj rfl rfl (by decide) hS 3 rfl (hS.yo 6 rfl) hx ?_);clear hS;intro A c w15 hS;refine zb (zo (zt (.slice A (Ab+1) c) yaL (hS.bwr 2 rfl (j:=0) rfl) ?_));intro w16 e1;replace hS:=hS.bst 2 rfl 0 (.slice A (Ab+1) c) e1;clear e1;exact zb (yaa (yah (ycO fun a r=>⟨_,⟨_,_,_,_,h,rfl⟩,hS.sel [0,1,2,3,4]⟩)))
    · clear hb h0 hS hgp;rintro D ys w8 _ hRr ⟨out,Aa,Ab,Ac,hI,rfl⟩ hS;replace h:=h ys out hI hRr;clear hI hRr;exact yah (zs (zq (zl underlying29 (hS.bc 2 0)) (zQ (.slice Aa Ab Ac) (zQ (ii 0) (yaa (yfd (rs:=[D]) (by simp) (hS.marked 4 rfl) rfl rfl rfl (fun w9 hk=>⟨_,_,_,_,_,rfl,(hS.unmark [4] [3] (by decide) (by decide) (yh8 4 rfl) hk),h⟩)))))))
  · replace h:=h.2 hp;refine zf hp (zs (zM (ii r) (zQ (.slice none 0 0) (zQ (ii r) (yaa ?_)))));replace hS:=hS.nil 4 rfl cI 3;exact yfd (rs:=[]) (by simp) (by simp) rfl rfl rfl (fun w9 hk=>⟨_,_,_,_,_,rfl,(hS.unmark [] [4] (by decide) (by decide) (by simp) hk),h⟩)
def yds(egg:List Int)(cap:List Int)(R:Bool→Prop):Prop :=
ycM cap egg (fun r =>
R r)
theorem yhb{O:Nat→Prop}{w:World}{egg cap Ad Ae Af gc Aa Ab Ac}{R:Bool→Prop}(h:yds egg cap R)(hO:∀ k,O k→k<w.heap.size)(hA0:(FP.sl cI Ad Ae Af egg).P O w)(hA1:(FP.bx 29 gc [(Value.slice Aa Ab Ac)]).P O w)(hA2:(FP.sl cI Aa Ab Ac cap).P O w) :
    Calls Tryz.prog 63 #[.slice Ad Ae Af,(.pointer (some ⟨gc,0,none⟩))] w fun e w'=>∃ r2,e = .returned (.bool (r2))∧Sep w no O w' (rl [])∧R r2:=by
  unfold yds at h;have hS:Sep w no O w (rl [Res.ro (FP.sl cI Ad Ae Af egg),Res.ro (FP.bx 29 gc [.slice Aa Ab Ac]),Res.ro (FP.sl cI Aa Ab Ac cap)]):=Sep.startl hO [(FP.sl cI Ad Ae Af egg),(FP.bx 29 gc [.slice Aa Ab Ac]),(FP.sl cI Aa Ab Ac cap)] ⟨hA0,hA1,hA2,trivial⟩;refine yap (l:=[.slice Ad Ae Af,(.pointer (some ⟨gc,0,none⟩))]) func63 rfl ntmps63 zY (zs (zQ (.bool (false)) (yaa (zs (zq (zl underlying29 (hS.br 1 0)) (zM (.slice Ad Ae Af) (zn (yam rfl (am2 rfl rfl) enter_64 ((yhv h (yaB _) (hS.rdr 2 rfl) (hS.rdr 0 rfl)).mono ?_)))))))));rintro _ w2 ⟨r,rfl,hC,h⟩;replace hS:=hS.pur hC.pure;refine ⟨_,rfl,?_⟩;exact zb (zQ (.bool (r)) (yaa (yak rfl rfl ⟨_,rfl,hS.sel [],h⟩)))
def ydr(egg:List Int)(cap:List Int)(R:Bool→Prop):Prop :=
ycf cap egg (fun r =>
R (!(r)))
theorem yg9{O:Nat→Prop}{w:World}{egg cap Ad Ae Af gc Aa Ab Ac}{R:Bool→Prop}(h:ydr egg cap R)(hO:∀ k,O k→k<w.heap.size)(hA0:(FP.sl cI Ad Ae Af egg).P O w)(hA1:(FP.bx 29 gc [(Value.slice Aa Ab Ac)]).P O w)(hA2:(FP.sl cI Aa Ab Ac cap).P O w) :
    Calls Tryz.prog 65 #[.slice Ad Ae Af,(.pointer (some ⟨gc,0,none⟩))] w fun e w'=>∃ r2,e = .returned (.bool (r2))∧Sep w no O w' (rl [])∧R r2:=by
  unfold ydr at h;have hS:Sep w no O w (rl [Res.ro (FP.sl cI Ad Ae Af egg),Res.ro (FP.bx 29 gc [.slice Aa Ab Ac]),Res.ro (FP.sl cI Aa Ab Ac cap)]):=Sep.startl hO [(FP.sl cI Ad Ae Af egg),(FP.bx 29 gc [.slice Aa Ab Ac]),(FP.sl cI Aa Ab Ac cap)] ⟨hA0,hA1,hA2,trivial⟩;refine yap (l:=[.slice Ad Ae Af,(.pointer (some ⟨gc,0,none⟩))]) func65 rfl ntmps65 zY (zs (zQ (.bool (false)) (yaa (zs (zq (zl underlying29 (hS.br 1 0)) (zM (.slice Ad Ae Af) (zn (yam rfl (am2 rfl rfl) enter_60 ((yfg h (yaB _) (hS.rdr 2 rfl) (hS.rdr 0 rfl)).mono ?_)))))))));rintro _ w2 ⟨r,rfl,hC,h⟩;replace hS:=hS.pur hC.pure;refine ⟨_,rfl,?_⟩;exact zb (zq (ycX rfl) (zQ (.bool (!(r))) (yaa (yak rfl rfl ⟨_,rfl,hS.sel [],h⟩))))
def yce(set2:List Int)(cap:List (List Int))(cap2:Int)(cap3:List E3)(cap4:Int)(R:Int→Bool→Int→Prop):Prop :=
yaU cap (fun x R=>yds x set2 R) (fun r =>
yaU cap (fun x2 R=>ydr x2 set2 R) (fun r2 =>
(∃ J2:Prop,(J2→yfi cap2 cap3 set2 (fun r3 r4 =>
((r4=0 →
R (r3.length:Int) true cap4) ∧
(¬(r4=0) →
R (r3.length:Int) true r4)))) ∧
((r=true →
((r2=true →
J2) ∧
(¬(r2=true) →
R 0 false cap4))) ∧
(¬(r=true) →
R 0 false cap4)))))
theorem ygr{S O:Nat→Prop}{w:World}{set2 cap cap2 cap3 cap4 Ag Ah Ai}{hd:Hd}{gc Aa Ab Ac gc2 Ad Ae Af gc3}{R:Int→Bool→Int→Prop}(h:yce set2 cap cap2 cap3 cap4 R)(hS:Sep w S O w (rl [hdR hd,Res.box 25 gc [(Value.slice Aa Ab Ac)],Res.ro (FP.sl (cL cI) Aa Ab Ac cap),Res.box 24 gc2 [(Value.int .i64 cap2),(Value.slice Ad Ae Af)],Res.ro (FP.sl c3 Ad Ae Af cap3),Res.box 30 gc3 [(Value.int .i64 cap4)]]))(hrd:hd.rd (FP.sl cI Ag Ah Ai set2)) :
    Calls Tryz.prog 62 #[.slice Ag Ah Ai,(.pointer (some ⟨gc,0,none⟩)),(.pointer (some ⟨gc2,0,none⟩)),(.pointer (some ⟨gc3,0,none⟩))] w fun e w'=>∃ r5 r6 z,e = .returned (.tuple #[ii r5,(.bool (r6))])∧Sep w S O w' (rl [hdR hd,Res.box 25 gc [.slice Aa Ab Ac],Res.box 24 gc2 [ii cap2,.slice Ad Ae Af],Res.box 30 gc3 [ii z]])∧R r5 r6 z:=by
  unfold yce at h;refine yap (l:=[.slice Ag Ah Ai,(.pointer (some ⟨gc,0,none⟩)),(.pointer (some ⟨gc2,0,none⟩)),(.pointer (some ⟨gc3,0,none⟩))]) func62 rfl ntmps62 zY (zs (zn (ya8 (v:=(.slice Ag Ah Ai)) rfl ?_)));intro g w2 hN;replace hS:=hS.neu 6 [.slice Ag Ah Ai] hN;clear hN;refine zb (zQ (ii 0) (zQ (.bool (false)) (yaa (zs (zq (zl underlying25 (hS.bc 1 0)) (zq (yeZ (am0) (am1 rfl)) ?_))))));replace hS:=hS.frzb 6 rfl;refine zn (yam rfl (am2 rfl rfl) enter_58 ((ybD h (yaB _) (hS.rdr 2 rfl) (fun w' hk=>⟨63,#[(.pointer (some ⟨g,0,none⟩))],rfl,enter_63,fun x Ax lx cx R hF hz0=>ya4 (by simp) (yhb hF (yaB _) hz0 (FP.sub _ (FP.keep _ (FP.sub _ (hS.ro 6 rfl) (fun _ _ h=>h.elim):FP.P _ no _) hk) fun _ _ h=>h.elim) (FP.sub _ (FP.keep _ (hS.rdh 0 rfl hrd) hk) fun _ _ h=>h.elim))⟩)).mono ?_));rintro _ w3 ⟨r,rfl,hC,h⟩;replace hS:=hS.pur hC.pure;refine ⟨_,rfl,?_⟩;refine zb (zQ (.bool (r)) (yaa (zs (zq (zl underlying25 (hS.bc 1 0)) (zq (yeZ (am0) (am1 rfl)) (zn (yam rfl (am2 rfl rfl) enter_58 ((ybD h (yaB _) (hS.rdr 2 rfl) (fun w' hk=>⟨65,#[(.pointer (some ⟨g,0,none⟩))],rfl,enter_65,fun x2 Ax2 lx2 cx2 R hF hz0=>ya4 (by simp) (yg9 hF (yaB _) hz0 (FP.sub _ (FP.keep _ (FP.sub _ (hS.ro 6 rfl) (fun _ _ h=>h.elim):FP.P _ no _) hk) fun _ _ h=>h.elim) (FP.sub _ (FP.keep _ (hS.rdh 0 rfl hrd) hk) fun _ _ h=>h.elim))⟩)).mono ?_))))))));rintro _ w4 ⟨r2,rfl,hC,h⟩;replace hS:=hS.pur hC.pure;refine ⟨_,rfl,?_⟩;refine zb (zQ (.bool (r2)) (yaa (yaf (yaf ?_))));obtain ⟨J2,hJ,h⟩:=h;refine yc1 (fun E ds w'=>J2∧ds=[]∧E 0 = .slice Ag Ah Ai∧E 1 = .pointer (some ⟨gc,0,none⟩)∧E 2 = .pointer (some ⟨gc2,0,none⟩)∧E 3 = .pointer (some ⟨gc3,0,none⟩)∧E 4 = .pointer (some ⟨g,0,none⟩)∧Sep w S O w' (rl [hdR hd,Res.box 25 gc [.slice Aa Ab Ac],Res.ro (FP.sl (cL cI) Aa Ab Ac cap),Res.box 24 gc2 [ii cap2,.slice Ad Ae Af],Res.ro (FP.sl c3 Ad Ae Af cap3),Res.box 30 gc3 [ii cap4],Res.ro (FP.bx 29 g [.slice Ag Ah Ai])])) ?_ ?_
  · clear h hS;rintro E ds w5 ⟨h,rfl,H0,H1,H2,H3,H4,hS⟩;replace h:=hJ h;refine zs (zq (yaq (vs:=[ii cap2,.slice Ad Ae Af]) H2 underlying24 rfl yao ⟨hS.bc 3 0,hS.bc 3 1,trivial⟩) (zq (yau H4 underlying29 rfl (hS.br 6 0)) (zn (yam rfl (am2 rfl rfl) enter_66 ((pok_graph_Cut h (yaB _) (hS.rdr 4 rfl) (hS.rdh 0 rfl hrd)).mono ?_)))));rintro _ w6 ⟨r3,r4,Ar,lr,cr,rfl,hC,h⟩;replace hS:=hS.call1 (hC.widen (yde (ya0 (fI .i64) _ _ _ _ _) ydA) hS.blt) 7 0 rfl;clear hC;refine ⟨_,rfl,?_⟩;refine zb (zM (.tuple #[.slice Ar lr cr,ii r4]) (zq (zx (.slice Ar lr cr)) (zq (zx (ii r4)) (zQ (.slice Ar lr cr) (zQ (ii r4) (yaa (yaf (zs (zM (ii r4) (zq zN (yaa ?_)))))))))));by_cases hp:r4=0
    · replace h:=h.1 hp;exact ze hp (yag (zs (zM (.slice Ar lr cr) (zq (yaF (n:=r3.length) rfl underlying29 (yaE (hS.rdo 7 rfl))) (zQ (ii (r3.length:Int)) (zQ (.bool (true)) (yaa (yaG rfl rfl rfl ⟨_,_,_,rfl,hS.sel [0,1,3,5],h⟩))))))))
    · replace h:=h.2 hp;refine zf hp (zr (zM (ii r4) (zo (yhn (v:=(ii r4)) H3 rfl rfl yfv (hS.bwr 5 rfl (j:=0) rfl) ?_))));intro w7 e1;replace hS:=hS.bst 5 rfl 0 (ii r4) e1;clear e1;exact zb (yaa (zs (zM (.slice Ar lr cr) (zq (yaF (n:=r3.length) rfl underlying29 (yaE (hS.rdo 7 rfl))) (zQ (ii (r3.length:Int)) (zQ (.bool (true)) (yaa (yaG rfl rfl rfl ⟨_,_,_,rfl,hS.sel [0,1,3,5],h⟩))))))))
  clear hJ;intro j;refine zr (zM (.bool (r)) (zq (ycX rfl) (zM (.bool (!(r))) ?_)));by_cases hp2:r=true
  · replace h:=h.1 hp2;refine zW rfl rfl (zC (zB hp2)) (zm (.bool (r2))) (zW rfl rfl (zC (zB hp2)) (ycX rfl) (zq (yal (v:=(.bool (!(r2)))) (zC (zB hp2)) rfl) (yaa ?_)));by_cases hp3:r2=true
    · replace h:=h.1 hp3;exact yat (zC (zB hp3)) (yag (j _ _ _ ⟨h,rfl,rfl,rfl,rfl,rfl,rfl,hS.sel [0,1,2,3,4,5,6]⟩))
    · replace h:=h.2 hp3;exact yar (zC (zB (zI hp3))) (zs (zQ (ii 0) (zQ (.bool (false)) (yaa (yaG rfl rfl rfl ⟨_,_,_,rfl,hS.sel [0,1,3,5],h⟩)))))
  · replace h:=h.2 hp2;exact zV rfl rfl (zC (zB (zI hp2))) (zV rfl rfl (zC (zB (zI hp2))) (zq (yas (v:=(.bool (true))) (zC (zB (zI hp2))) rfl) (yaa (yar rfl (zs (zQ (ii 0) (zQ (.bool (false)) (yaa (yaG rfl rfl rfl ⟨_,_,_,rfl,hS.sel [0,1,3,5],h⟩)))))))))
def ycd(n:Int)(value:List (List Int))(value2:Int)(value3:List E3)(value4:Int)(R:Int→(List Int)→Int→Prop):Prop :=
ydo n ((∃ Pr Rr:List (List Int)→Prop,yb0 n Pr Rr ∧
(∃ I2:List (List Int)→Int→Int→(List Int)→Prop,I2 [] value4 (-1) ([]) ∧
(∀ pre y value5 best first,I2 pre value5 best first→Pr (pre++[y]) →
yce y value value2 value3 value5 (fun r r2 y2 =>
((r2=true →
((best<0 →
ybc y (fun r3 =>
I2 (pre++[y]) y2 r r3)) ∧
(¬(best<0) →
((r<best →
ybc y (fun r4 =>
I2 (pre++[y]) y2 r r4)) ∧
(¬(r<best) →
I2 (pre++[y]) y2 best first))))) ∧
(¬(r2=true) →
I2 (pre++[y]) y2 best first)))) ∧
(∀ ys value5 best first,I2 ys value5 best first→Rr ys →
R best first value5))))
theorem ygI{S O:Nat→Prop}{w:World}{n value value2 value3 value4 gc Ad Ae Af gc2 Ag Ah Ai gc3}{R:Int→(List Int)→Int→Prop}(h:ycd n value value2 value3 value4 R)(hS:Sep w S O w (rl [Res.box 25 gc [(Value.slice Ad Ae Af)],Res.ro (FP.sl (cL cI) Ad Ae Af value),Res.box 24 gc2 [(Value.int .i64 value2),(Value.slice Ag Ah Ai)],Res.ro (FP.sl c3 Ag Ah Ai value3),Res.box 30 gc3 [(Value.int .i64 value4)]])) :
    Calls Tryz.prog 56 #[ii n,(.func (Fn.func 62) #[] #[(.pointer (some ⟨gc,0,none⟩)),(.pointer (some ⟨gc2,0,none⟩)),(.pointer (some ⟨gc3,0,none⟩))])] w fun e w'=>∃ r5 r6 z Ar3 lr3 cr3,e = .returned (.tuple #[ii r5,.slice Ar3 lr3 cr3])∧Sep w S O w' (rl [Res.box 25 gc [.slice Ad Ae Af],Res.box 24 gc2 [ii value2,.slice Ag Ah Ai],Res.box 30 gc3 [ii z],Res.own cI 3 Ar3 lr3 cr3 r6])∧R r5 r6 z:=by
  unfold ycd at h;refine yei (l:=[ii n,(.func (Fn.func 62) #[] #[(.pointer (some ⟨gc,0,none⟩)),(.pointer (some ⟨gc2,0,none⟩)),(.pointer (some ⟨gc3,0,none⟩))])]) func56 rfl ntmps56 zY (zs (zn (ya8 (v:=(Value.func (Fn.func 62) #[] #[(.pointer (some ⟨gc,0,none⟩)),(.pointer (some ⟨gc2,0,none⟩)),(.pointer (some ⟨gc3,0,none⟩))])) rfl ?_)));intro g w2 hN;replace hS:=hS.neu 5 [(.func (Fn.func 62) #[] #[(.pointer (some ⟨gc,0,none⟩)),(.pointer (some ⟨gc2,0,none⟩)),(.pointer (some ⟨gc3,0,none⟩))])] hN;clear hN;refine zb (zQ (ii 0) (zQ (.slice none 0 0) (yaa (zs (zn (yaO yaj ?_))))));intro g2 w3 hN;replace hS:=hS.neu 6 [ii 0] hN;clear hN;refine zb (zo (zt (ii (-1)) yaj (hS.bwr 6 rfl (j:=0) rfl) ?_));intro w4 e1;replace hS:=hS.bst 6 rfl 0 (ii (-1)) e1;clear e1;refine zb (yaa (zs (zn (yaO yaL ?_))));intro g3 w5 hN;replace hS:=hS.neu 7 [.slice none 0 0] hN;clear hN;refine zb (yaa (yaf (zs (zM (ii n) (zn (yam rfl (am1 rfl) enter_102 ((yfJ h hS.blt).mono ?_)))))));rintro _ w6 ⟨gc4,rfl,hC,h⟩;replace hS:=hS.call1 hC 8 0 rfl;clear hC;refine ⟨_,rfl,?_⟩;refine zb (yaa (yai ?_));replace hS:=hS.nil 9 rfl cI 3;obtain ⟨Pr,Rr,hgp,I2,h0,hb,h⟩:=h;refine wt_iterSHP hS [5,0,1,2,3,4,6,7,9] [8] (by decide) (by decide) ⟨.inl (by decide),trivial⟩ rfl enter_135 (val:=(fun (x:List Int) (b:(Option Addr×Nat×Nat×Hd))=>#[(.slice b.1 b.2.1 b.2.2.1)])) (hd:=fun x b=>b.2.2.2) (rd:=fun x b=>FP.sl cI b.1 b.2.1 b.2.2.1 x) (Pr:=Pr) (R:=Rr) (fun _ _=>rfl) rfl (fun pr LL=>∃ value5 best first Aa Ab Ac,I2 pr value5 best first∧LL=[Res.box 84 g [(.func (Fn.func 62) #[] #[(.pointer (some ⟨gc,0,none⟩)),(.pointer (some ⟨gc2,0,none⟩)),(.pointer (some ⟨gc3,0,none⟩))])],Res.box 25 gc [.slice Ad Ae Af],Res.ro (FP.sl (cL cI) Ad Ae Af value),Res.box 24 gc2 [ii value2,.slice Ag Ah Ai],Res.ro (FP.sl c3 Ag Ah Ai value3),Res.box 30 gc3 [ii value5],Res.box 3 g2 [ii best],Res.box 29 g3 [.slice Aa Ab Ac],Res.own cI 3 Aa Ab Ac first]) (fun _ _ _=>False) ⟨_,_,_,_,_,_,h0,rfl⟩ (fun T G hG=>yeX hgp hG) ?_ ?_ (fun _ _ _ _ _ hx=>hx.elim)
  · clear h h0 hS hgp;rintro ll rdy busy S O2 pre y ⟨A,l,c,hd⟩ w7 _ ⟨value5,best,first,Aa,Ab,Ac,hI,rfl⟩ hPr hrd_ hS;have h:=hb pre y value5 best first hI hPr;clear hb hI hPr;refine yay (ya7 ll) (zQ (.slice A l c) (yaa (ycO fun a ra=>⟨rfl,_,_,ra,hS,⟨9,rfl⟩,?_⟩)));intro w9 hw;replace hS:=hS.flip 9 rfl busy hw;clear hw ra a;refine yai (yaf (yay (ya7 ll) (zq (zl underlying84 (hS.bc 0 0)) (zM (.slice A l c) ?_))));have hB:=hS.lend (asc [(10,0),(1,1),(3,2),(5,3)]) [10,1,2,3,4,5] (by decide) ⟨.inl (ybE rfl), .inl (ybE rfl), .inr rfl, .inl (ybE rfl), .inr rfl, .inl (ybE rfl),trivial⟩;refine zn (ydx (vs:=#[.slice A l c]) (us:=#[(.pointer (some ⟨gc,0,none⟩)),(.pointer (some ⟨gc2,0,none⟩)),(.pointer (some ⟨gc3,0,none⟩))]) rfl (am1 rfl) enter_62 ((ya4 (by simp) (ygr h hB hrd_)).mono ?_));rintro _ w10 ⟨r,r2,y2,rfl,hC,h⟩;replace hS:=hS.back (asc [(10,0),(1,1),(3,2),(5,3)]) (yey (by decide)) hC;clear hC hB;refine ⟨_,rfl,?_⟩;refine zb (zM (.tuple #[ii r,(.bool (r2))]) (zq (zx (ii r)) (zq (zx (.bool (r2))) (zQ (ii r) (zQ (.bool (r2)) (yaa (yaf (yay (ya7 ll) (zM (.bool (r2)) (zM (.bool (r2)) ?_))))))))));by_cases hp:r2=true
    · replace h:=h.1 hp;refine zW rfl rfl (zC hp) (zl underlying3 (hS.bc 6 0)) (zW rfl rfl (zC hp) zL (zW rfl rfl (zC hp) (zm (.bool (decide (best<0)))) ?_));by_cases hp2:best<0
      · replace h:=h.1 hp2;refine zV rfl rfl (zT hp2) (zV rfl rfl (zT hp2) (zV rfl rfl (zT hp2) (zW rfl rfl (zC hp) (yas (v:=(.bool (true))) (zT hp2) rfl) (zq (yas (v:=(.bool (true))) (zC hp) rfl) (yaa (yar rfl (yay (ya7 ll) (zM (ii r) (zM (.slice A l c) (zn (yam rfl (am1 rfl) yhQ ((yb6 h (yaB _) (hS.rdh 10 rfl hrd_)).mono ?_))))))))))));rintro _ w11 ⟨r3,Ar,lr,cr,rfl,hC,h⟩;replace hS:=hS.call1 (hC.widen (yde (ya0 (fI .i64) _ _ _ _ _) ydA) hS.blt) 11 0 rfl;clear hC;refine ⟨_,rfl,?_⟩;refine zb (zo (zt (ii r) yaj (hS.bwr 6 rfl (j:=0) rfl) ?_));intro w12 e1;replace hS:=hS.bst 6 rfl 0 (ii r) e1;clear e1;refine zb (zo (zt (.slice Ar lr cr) yaL (hS.bwr 7 rfl (j:=0) rfl) ?_));intro w13 e1;replace hS:=hS.bst 7 rfl 0 (.slice Ar lr cr) e1;clear e1;exact zb (yaa (yah (ycO fun a r=>⟨_,⟨_,_,_,_,_,_,h,rfl⟩,hS.sel [0,1,2,3,4,5,6,7,11,9,10]⟩)))
      · replace h:=h.2 hp2;refine zW rfl rfl (zF hp2) (zm (ii r)) (zW rfl rfl (zF hp2) (zl underlying3 (hS.bc 6 0)) (zW rfl rfl (zF hp2) zL (zW rfl rfl (zC hp) (yal (v:=(.bool (decide (r<best)))) (zF hp2) rfl) (zq (yas (v:=(.bool (decide (r<best)))) (zC hp) rfl) (yaa ?_)))));by_cases hp3:r<best
        · replace h:=h.1 hp3;refine zc hp3 (yay (ya7 ll) (zM (ii r) (zM (.slice A l c) (zn (yam rfl (am1 rfl) yhQ ((yb6 h (yaB _) (hS.rdh 10 rfl hrd_)).mono ?_))))));rintro _ w14 ⟨r4,Ar2,lr2,cr2,rfl,hC,h⟩;replace hS:=hS.call1 (hC.widen (yde (ya0 (fI .i64) _ _ _ _ _) ydA) hS.blt) 11 0 rfl;clear hC;refine ⟨_,rfl,?_⟩;refine zb (zo (zt (ii r) yaj (hS.bwr 6 rfl (j:=0) rfl) ?_));intro w15 e1;replace hS:=hS.bst 6 rfl 0 (ii r) e1;clear e1;refine zb (zo (zt (.slice Ar2 lr2 cr2) yaL (hS.bwr 7 rfl (j:=0) rfl) ?_));intro w16 e1;replace hS:=hS.bst 7 rfl 0 (.slice Ar2 lr2 cr2) e1;clear e1;exact zb (yaa (yah (ycO fun a r=>⟨_,⟨_,_,_,_,_,_,h,rfl⟩,hS.sel [0,1,2,3,4,5,6,7,11,9,10]⟩)))
        · replace h:=h.2 hp3;exact zd hp3 (yag (yah (ycO fun a r=>⟨_,⟨_,_,_,_,_,_,h,rfl⟩,hS.sel [0,1,2,3,4,5,6,7,8,9,10]⟩)))
    · replace h:=h.2 hp;exact zV rfl rfl (zC (zI hp)) (zV rfl rfl (zC (zI hp)) (zV rfl rfl (zC (zI hp)) (zX (zX (zX (zV rfl rfl (zC (zI hp)) (zq (yal (v:=(.bool (false))) (zC (zI hp)) rfl) (yaa (yat rfl (yag (yah (ycO fun a r=>⟨_,⟨_,_,_,_,_,_,h,rfl⟩,hS.sel [0,1,2,3,4,5,6,7,8,9,10]⟩))))))))))))
  · clear hb h0 hS hgp;rintro D ys w8 _ hRr ⟨value5,best,first,Aa,Ab,Ac,hI,rfl⟩ hS;replace h:=h ys value5 best first hI hRr;clear hI hRr;refine yah (yaf (yaT [0,1,2,3] st0 yaD (by kernel_rfl) (by kernel_rfl) ?_));replace hS:=hS.drew;exact zp (zl underlying3 (hS.bc 6 0)) (zp (zl underlying29 (hS.bc 7 0)) (zp (za (ii best)) (zp (za (.slice Aa Ab Ac)) (yaZ (yfd (rs:=[D]) (by simp) (hS.marked 9 rfl) rfl rfl rfl (fun w9 hk=>⟨_,_,_,_,_,_,rfl,(hS.unmark [9] [1,3,5,8] (by decide) (by decide) (yh8 9 rfl) hk),h⟩))))))
def ybO(g:Int)(g2:List E3)(s:List (List Int))(R:Int→(List Int)→Int→Prop):Prop :=
ybN g g2 s (fun r =>
((r=0 →
ycd g s g g2 0 (fun r2 r3 y =>
((y=0 →
R r2 r3 0) ∧
(¬(y=0) →
R 0 ([]) y)))) ∧
(¬(r=0) →
R 0 ([]) r)))
theorem yev{O:Nat→Prop}{w:World}{g g2 s Ag lg cg As ls cs}{R:Int→(List Int)→Int→Prop}(h:ybO g g2 s R)(hO:∀ k,O k→k<w.heap.size)(hA0:(FP.sl c3 Ag lg cg g2).P O w)(hA1:(FP.sl (cL cI) As ls cs s).P O w) :
    Calls Tryz.prog 16 #[(.agg #[ii g,.slice Ag lg cg]),.slice As ls cs] w fun e w'=>∃ r4 r5 r6 Ar2 lr2 cr2,e = .returned (.tuple #[ii r4,.slice Ar2 lr2 cr2,ii r6])∧Sep w no O w' (rl [Res.own cI 3 Ar2 lr2 cr2 r5])∧R r4 r5 r6:=by
  unfold ybO at h;have hS:Sep w no O w (rl [Res.ro (FP.sl c3 Ag lg cg g2),Res.ro (FP.sl (cL cI) As ls cs s)]):=Sep.startl hO [(FP.sl c3 Ag lg cg g2),(FP.sl (cL cI) As ls cs s)] ⟨hA0,hA1,trivial⟩;refine yap (l:=[(.agg #[ii g,.slice Ag lg cg]),.slice As ls cs]) func16 rfl ntmps16 zY (zs (zn (ya8 (v:=(.agg #[ii g,.slice Ag lg cg])) rfl ?_)));intro g3 w2 hN;replace hS:=hS.neu 2 [ii g,.slice Ag lg cg] hN;clear hN;refine zb (zn (ya8 (v:=(.slice As ls cs)) rfl ?_));intro g4 w3 hN;replace hS:=hS.neu 3 [.slice As ls cs] hN;clear hN;refine zb (zQ (ii 0) (zQ (.slice none 0 0) (zQ (ii 0) (yaa (yaf (zs (zq (yaq (vs:=[ii g,.slice Ag lg cg]) rfl underlying24 rfl yao ⟨hS.bc 2 0,hS.bc 2 1,trivial⟩) (zq (zl underlying25 (hS.bc 3 0)) (zn (yam rfl (am2 rfl rfl) enter_20 ((ydL h (yaB _) (hS.rdr 0 rfl) (hS.rdr 1 rfl)).mono ?_)))))))))));rintro _ w4 ⟨r,rfl,hC,h⟩;replace hS:=hS.pur hC.pure;refine ⟨_,rfl,?_⟩;refine zb (zQ (ii r) (yaa (zs (zM (ii r) (zq zN (yaa ?_))))));by_cases hp:r=0
  · replace h:=h.1 hp;refine ze hp (yag (zs (zn (yaO yfv ?_))));intro g5 w5 hN;replace hS:=hS.neu 4 [ii 0] hN;clear hN;refine zb (zo (zt (ii 0) yfv (hS.bwr 4 rfl (j:=0) rfl) ?_));intro w6 e1;replace hS:=hS.bst 4 rfl 0 (ii 0) e1;clear e1;refine zb (yaa (zs (zq (yan rfl underlying24 rfl yaj) (zq (zl underlying3 (hS.bc 2 0)) (zq (yeZ (am0) (am3 rfl rfl rfl)) ?_)))));have hB:=hS.lend (asc [(3,0),(2,1),(4,2),(5,3)]) [3,1,2,0,4] (by decide) ⟨.inl (ybE rfl), .inr rfl, .inl (ybE rfl), .inr rfl, .inl (ybE rfl),trivial⟩;refine zn (ydx (vs:=#[ii g,(.func (Fn.func 62) #[] #[(.pointer (some ⟨g4,0,none⟩)),(.pointer (some ⟨g3,0,none⟩)),(.pointer (some ⟨g5,0,none⟩))])]) (us:=#[]) rfl (am2 rfl rfl) enter_56 ((ya4 (by simp) (ygI h hB)).mono ?_));rintro _ w7 ⟨r2,r3,y,Ar,lr,cr,rfl,hC,h⟩;replace hS:=hS.back (asc [(3,0),(2,1),(4,2),(5,3)]) (yey (by decide)) hC;clear hC hB;refine ⟨_,rfl,?_⟩;refine zb (zM (.tuple #[ii r2,.slice Ar lr cr]) (zq (zx (ii r2)) (zq (zx (.slice Ar lr cr)) (zQ (ii r2) (zQ (.slice Ar lr cr) (yaa (yaf (zs (zq (zl underlying30 (hS.bc 4 0)) (zq zN (yaa ?_)))))))))));by_cases hp2:y=0
    · replace h:=h.1 hp2;exact ze hp2 (yag (zs (zM (ii r2) (zM (.slice Ar lr cr) (zQ (ii r2) (zQ (.slice Ar lr cr) (zQ (ii 0) (yaa (ybR rfl rfl rfl rfl ⟨_,_,_,_,_,_,rfl,hS.sel [5],h⟩)))))))))
    · replace h:=h.2 hp2;refine zf hp2 (yaf (yaT [0,1,2,3] st0 yaD (by kernel_rfl) (by kernel_rfl) ?_));replace hS:=hS.drew;refine zp (zl underlying30 (hS.bc 4 0)) (zp (za (ii 0)) (zp (za (.slice none 0 0)) (zp (za (ii y)) (yaZ ?_))));replace hS:=hS.nil 6 rfl cI 3;exact ybR rfl rfl rfl rfl ⟨_,_,_,_,_,_,rfl,hS.sel [6],h⟩
  · replace h:=h.2 hp;refine zf hp (zs (zM (ii r) (zQ (ii 0) (zQ (.slice none 0 0) (zQ (ii r) (yaa ?_))))));replace hS:=hS.nil 4 rfl cI 3;exact ybR rfl rfl rfl rfl ⟨_,_,_,_,_,_,rfl,hS.sel [4],h⟩
def ybM(g:Int)(g2:List E3)(s:List (List Int))(R:Int→Int→Prop):Prop :=
ybh g g2 s (fun r r2 r3 =>
((r3=0 →
ybO g g2 s (fun r4 r5 r6 =>
((r6=0 →
((r4<0 →
R r 0) ∧
(¬(r4<0) →
R (mnF r r4) 0))) ∧
(¬(r6=0) →
R 0 r6)))) ∧
(¬(r3=0) →
R 0 r3)))
theorem yff{O:Nat→Prop}{w:World}{g g2 s Ag lg cg As ls cs}{R:Int→Int→Prop}(h:ybM g g2 s R)(hO:∀ k,O k→k<w.heap.size)(hA0:(FP.sl c3 Ag lg cg g2).P O w)(hA1:(FP.sl (cL cI) As ls cs s).P O w) :
    Calls Tryz.prog 18 #[(.agg #[ii g,.slice Ag lg cg]),.slice As ls cs] w fun e w'=>∃ r7 r8,e = .returned (.tuple #[ii r7,ii r8])∧Sep w no O w' (rl [])∧R r7 r8:=by
  unfold ybM at h;have hS:Sep w no O w (rl [Res.ro (FP.sl c3 Ag lg cg g2),Res.ro (FP.sl (cL cI) As ls cs s)]):=Sep.startl hO [(FP.sl c3 Ag lg cg g2),(FP.sl (cL cI) As ls cs s)] ⟨hA0,hA1,trivial⟩;refine yap (l:=[(.agg #[ii g,.slice Ag lg cg]),.slice As ls cs]) func18 rfl ntmps18 zY (zs (zn (ya8 (v:=(.agg #[ii g,.slice Ag lg cg])) rfl ?_)));intro g3 w2 hN;replace hS:=hS.neu 2 [ii g,.slice Ag lg cg] hN;clear hN;refine zb (zQ (ii 0) (zQ (ii 0) (yaa (zs (zq (yaq (vs:=[ii g,.slice Ag lg cg]) rfl underlying24 rfl yao ⟨hS.bc 2 0,hS.bc 2 1,trivial⟩) (zM (.slice As ls cs) (zn (yam rfl (am2 rfl rfl) ylq ((ydd h (yaB _) (hS.rdr 0 rfl) (hS.rdr 1 rfl)).mono ?_)))))))));rintro _ w3 ⟨r,r2,r3,Ar,lr,cr,rfl,hC,h⟩;replace hS:=hS.call1 (hC.widen (yde (ya0 (fI .i64) _ _ _ _ _) ydA) hS.blt) 3 0 rfl;clear hC;refine ⟨_,rfl,?_⟩;refine zb (zM (.tuple #[ii r,.slice Ar lr cr,ii r3]) (zq (zx (ii r)) (zq (zx (.slice Ar lr cr)) (zq (zx (ii r3)) (zQ (ii r) (zQ (.slice Ar lr cr) (zQ (ii r3) (yaa (yaf (zs (zM (ii r3) (zq zN (yaa ?_)))))))))))));by_cases hp:r3=0
  · replace h:=h.1 hp;refine ze hp (yag (zs (zq (yaq (vs:=[ii g,.slice Ag lg cg]) rfl underlying24 rfl yao ⟨hS.bc 2 0,hS.bc 2 1,trivial⟩) (zM (.slice As ls cs) (zn (yam rfl (am2 rfl rfl) ylr ((yev h (yaB _) (hS.rdr 0 rfl) (hS.rdr 1 rfl)).mono ?_)))))));rintro _ w4 ⟨r4,r5,r6,Ar2,lr2,cr2,rfl,hC,h⟩;replace hS:=hS.call1 (hC.widen (yde (ya0 (fI .i64) _ _ _ _ _) ydA) hS.blt) 4 0 rfl;clear hC;refine ⟨_,rfl,?_⟩;refine zb (zM (.tuple #[ii r4,.slice Ar2 lr2 cr2,ii r6]) (zq (zx (ii r4)) (zq (zx (.slice Ar2 lr2 cr2)) (zq (zx (ii r6)) (zQ (ii r4) (zQ (.slice Ar2 lr2 cr2) (zQ (ii r6) (yaa (yaf (zs (zM (ii r6) (zq zN (yaa ?_)))))))))))));by_cases hp2:r6=0
    · replace h:=h.1 hp2;refine ze hp2 (yag (yaf (zs (zM (ii r4) (zq zL (yaa ?_))))));by_cases hp3:r4<0
      · replace h:=h.1 hp3;exact zc hp3 (zs (zM (ii r) (zQ (ii r) (zQ (ii 0) (yaa (yaG rfl rfl rfl ⟨_,_,rfl,hS.sel [],h⟩))))))
      · replace h:=h.2 hp3;exact zd hp3 (yag (zs (zM (ii r) (zM (ii r4) (zq (yja rfl rfl) (zQ (ii (mnF r r4)) (zQ (ii 0) (yaa (yaG rfl rfl rfl ⟨_,_,rfl,hS.sel [],h⟩)))))))))
    · replace h:=h.2 hp2;exact zf hp2 (zs (zM (ii r6) (zQ (ii 0) (zQ (ii r6) (yaa (yaG rfl rfl rfl ⟨_,_,rfl,hS.sel [],h⟩))))))
  · replace h:=h.2 hp;exact zf hp (zs (zM (ii r3) (zQ (ii 0) (zQ (ii r3) (yaa (yaG rfl rfl rfl ⟨_,_,rfl,hS.sel [],h⟩))))))
def yeI(g:Int)(g2:List E3)(R:(List (Int×Int))→Int→Prop):Prop :=
ybK g g2 (fun r =>
((r=0 →
ycA g g2 ((∃ Pr Rr:List E3→Prop,ybk g g2 Pr Rr ∧
(∃ I2:List E3→(List (Int×Int))→Prop,I2 [] ([]) ∧
(∀ pre y y2 y3 out,I2 pre out→Pr (pre++[(y,y2,y3)]) →
(out.length+1≤1000000000 ∧
I2 (pre++[(y,y2,y3)]) (out++[(y2,y3)]))) ∧
(∀ ys out,I2 ys out→Rr ys →
R out 0))))) ∧
(¬(r=0) →
R ([]) r)))
theorem pok_graph_Ends{O:Nat→Prop}{w:World}{g g2 Ag lg cg}{R:(List (Int×Int))→Int→Prop}(h:yeI g g2 R)(hO:∀ k,O k→k<w.heap.size)(hA0:(FP.sl c3 Ag lg cg g2).P O w) :
    Calls Tryz.prog 117 #[(.agg #[ii g,.slice Ag lg cg])] w fun e w'=>∃ r2 r3 Ar lr cr,e = .returned (.tuple #[.slice Ar lr cr,ii r3])∧Sep w no O w' (rl [Res.own c2 116 Ar lr cr r2])∧R r2 r3:=by
  unfold yeI at h;have hS:Sep w no O w (rl [Res.ro (FP.sl c3 Ag lg cg g2)]):=Sep.startl hO [(FP.sl c3 Ag lg cg g2)] ⟨hA0,trivial⟩;refine yei (l:=[(.agg #[ii g,.slice Ag lg cg])]) func117 rfl ntmps117 zY (zs (zn (ya8 (v:=(.agg #[ii g,.slice Ag lg cg])) rfl ?_)));intro g3 w2 hN;replace hS:=hS.neu 1 [ii g,.slice Ag lg cg] hN;clear hN;refine zb (zQ (.slice none 0 0) (zQ (ii 0) (yaa (yaf (zs (zq (yaq (vs:=[ii g,.slice Ag lg cg]) rfl underlying24 rfl yao ⟨hS.bc 1 0,hS.bc 1 1,trivial⟩) (zn (yam rfl (am1 rfl) yhI ((ydH h (yaB _) (hS.rdr 0 rfl)).mono ?_)))))))));rintro _ w3 ⟨r,rfl,hC,h⟩;replace hS:=hS.pur hC.pure;refine ⟨_,rfl,?_⟩;refine zb (zQ (ii r) (yaa (zs (zM (ii r) (zq zN (yaa ?_))))));by_cases hp:r=0
  · replace h:=h.1 hp;refine ze hp (yag (zs (zn (yaO info_114 ?_))));intro g4 w4 hN;replace hS:=hS.neu 2 [.slice none 0 0] hN;clear hN;refine zb (yaa (yaf (zs (zq (yaq (vs:=[ii g,.slice Ag lg cg]) rfl underlying24 rfl yao ⟨hS.bc 1 0,hS.bc 1 1,trivial⟩) (zn (yam rfl (am1 rfl) yjH ((yd1 h hS.blt (hS.ro 0 rfl)).mono ?_)))))));rintro _ w5 ⟨gc,rfl,hC,h⟩;replace hS:=hS.call1 hC 3 0 rfl;clear hC;refine ⟨_,rfl,?_⟩;refine zb (yaa (yai ?_));replace hS:=hS.nil 4 rfl c2 116;obtain ⟨Pr,Rr,hgp,I2,h0,hb,h⟩:=h;refine yiN hS [2,4] [3,0] (by decide) (by decide) ⟨.inl (by decide), .inr rfl,trivial⟩ rfl yjf (val:=(fun (x:E3)=>#[(ii x.1),(.agg #[(ii x.2.1),(ii x.2.2)])])) (pass:=(fun _=>FP.tt)) (Pr:=Pr) (R:=Rr) (fun _=>rfl) rfl (fun pr LL=>∃ out Aa Ab Ac,I2 pr out∧LL=[Res.box 114 g4 [.slice Aa Ab Ac],Res.own c2 116 Aa Ab Ac out]) (fun _ _ _=>False) ⟨_,_,_,_,h0,rfl⟩ (fun T G hG=>ydt hgp hG) ?_ ?_ (fun _ _ _ _ _ hx=>hx.elim)
    · clear h h0 hS hgp;rintro ll rdy busy S O2 pre ⟨y,y2,y3⟩ w6 _ ⟨out,Aa,Ab,Ac,hI,rfl⟩ hPr hpass hS;have h:=hb pre y y2 y3 out hI hPr;clear hb hI hPr;clear hpass;refine yay (ya7 ll) (zn (yaO ybl ?_));intro g5 w8 hN;replace hS:=hS.neu 3 [ii 0,ii 0] hN;clear hN;refine zb (zo (yaV (b:=g5) (o:=0) (cells:=#[ii y2,ii y3]) rfl rfl ybl rfl rfl (yaI (hS.bx 3 rfl) zY) ?_));intro w9 e1;replace hS:=hS.bstn 3 rfl 0 [ii y2,ii y3] e1;clear e1;refine zb (yaa (ycO fun a ra=>⟨rfl,_,_,ra,hS,⟨2,rfl⟩,?_⟩));intro w10 hw;replace hS:=hS.flip 2 rfl busy hw;clear hw ra a;refine yai (yay (ya7 ll) (zq (zl underlying114 (hS.bc 0 0)) (zq (yan rfl underlying133 rfl yaj) (zq (zl underlying3 (hS.bc 3 0)) (zq (yan rfl underlying133 rfl yaj) (zq (zl underlying3 (hS.bc 3 1)) (zn (n_builda (l:=[(0,(ii y2)),(1,(ii y3))]) (cells:=[ii y2,ii y3]) (bp2 rfl rfl) underlying116 yeD yaj (by kernel_rfl) ?_))))))));refine zb (zn (yaX (l:=[(0,(.agg #[ii y2,ii y3]))]) (cells:=[ii y2,ii y3]) (bp1 rfl) underlying114 yeD rfl rfl ?_));intro g6 w11 hN;replace hS:=hS.litf (n:=1) 4 rfl (fP (fI .i64) (fI .i64)) hN ([(y2,y3)]:List (Int×Int)) rfl (by decide) rfl;clear hN;refine zb ?_;obtain ⟨hx,h⟩:=h;refine zn (ygp (c:=c2) rfl rfl underlying114 underlying114 yeD rfl rfl (by decide) hS 1 rfl (hS.yo 4 rfl) hx ?_);clear hS;intro A c w12 hS;refine zb (zo (zt (.slice A (Ab+1) c) info_114 (hS.bwr 0 rfl (j:=0) rfl) ?_));intro w13 e1;replace hS:=hS.bst 0 rfl 0 (.slice A (Ab+1) c) e1;clear e1;exact zb (yaa (yah (ycO fun a r=>⟨_,⟨_,_,_,_,h,rfl⟩,hS.sel [0,1,2]⟩)))
    · clear hb h0 hS hgp;rintro D ys w7 _ hRr ⟨out,Aa,Ab,Ac,hI,rfl⟩ hS;replace h:=h ys out hI hRr;clear hI hRr;exact yah (zs (zq (zl underlying114 (hS.bc 0 0)) (zQ (.slice Aa Ab Ac) (zQ (ii 0) (yaa (yfd (rs:=[D]) (by simp) (hS.marked 2 rfl) rfl rfl rfl (fun w9 hk=>⟨_,_,_,_,_,rfl,(hS.unmark [2] [1] (by decide) (by decide) (yh8 2 rfl) hk),h⟩)))))))
  · replace h:=h.2 hp;refine zf hp (zs (zM (ii r) (zQ (.slice none 0 0) (zQ (ii r) (yaa ?_)))));replace hS:=hS.nil 2 rfl c2 116;exact yfd (rs:=[]) (by simp) (by simp) rfl rfl rfl (fun w9 hk=>⟨_,_,_,_,_,rfl,(hS.unmark [] [2] (by decide) (by decide) (by simp) hk),h⟩)
def yeL(g:Int)(g2:List E3)(R:Int→Int→Prop):Prop :=
yeI g g2 (fun r r2 =>
R (r.length:Int) r2)
theorem pok_graph_Size{O:Nat→Prop}{w:World}{g g2 Ag lg cg}{R:Int→Int→Prop}(h:yeL g g2 R)(hO:∀ k,O k→k<w.heap.size)(hA0:(FP.sl c3 Ag lg cg g2).P O w) :
    Calls Tryz.prog 72 #[(.agg #[ii g,.slice Ag lg cg])] w fun e w'=>∃ r3 r4,e = .returned (.tuple #[ii r3,ii r4])∧Sep w no O w' (rl [])∧R r3 r4:=by
  unfold yeL at h;have hS:Sep w no O w (rl [Res.ro (FP.sl c3 Ag lg cg g2)]):=Sep.startl hO [(FP.sl c3 Ag lg cg g2)] ⟨hA0,trivial⟩;refine yap (l:=[(.agg #[ii g,.slice Ag lg cg])]) func72 rfl ntmps72 zY (zs (zn (ya8 (v:=(.agg #[ii g,.slice Ag lg cg])) rfl ?_)));intro g3 w2 hN;replace hS:=hS.neu 1 [ii g,.slice Ag lg cg] hN;clear hN;refine zb (zQ (ii 0) (zQ (ii 0) (yaa (zs (zq (yaq (vs:=[ii g,.slice Ag lg cg]) rfl underlying24 rfl yao ⟨hS.bc 1 0,hS.bc 1 1,trivial⟩) (zn (yam rfl (am1 rfl) enter_117 ((pok_graph_Ends h (yaB _) (hS.rdr 0 rfl)).mono ?_))))))));rintro _ w3 ⟨r,r2,Ar,lr,cr,rfl,hC,h⟩;replace hS:=hS.call1 (hC.widen (yde (ya0 (fP (fI .i64) (fI .i64)) _ _ _ _ _) ydA) hS.blt) 2 0 rfl;clear hC;refine ⟨_,rfl,?_⟩;exact zb (zM (.tuple #[.slice Ar lr cr,ii r2]) (zq (zx (.slice Ar lr cr)) (zq (zx (ii r2)) (zQ (.slice Ar lr cr) (zQ (ii r2) (yaa (zs (zM (.slice Ar lr cr) (zq (yaF (n:=r.length) rfl underlying114 (yaE (hS.rdo 2 rfl))) (zM (ii r2) (zQ (ii (r.length:Int)) (zQ (ii r2) (yaa (yaG rfl rfl rfl ⟨_,_,rfl,hS.sel [],h⟩))))))))))))))
def yeP(d:List Int)(R:Prop):Prop :=
R
theorem pok_chips_from{O:Nat→Prop}{w:World}{d Ad ld cd}{R:Prop}(h:yeP d R)(hO:∀ k,O k→k<w.heap.size)(hA0:(FP.sl cI Ad ld cd d).P O w) :
    Calls Tryz.prog 120 #[.slice Ad ld cd] w fun e w'=>∃ gr,e = .returned (.func (Fn.func 145) #[] #[(.pointer (some ⟨gr,0,none⟩))])∧Sep w no O w' (rl [Res.box 43 gr [.slice Ad ld cd]])∧R:=by
  unfold yeP at h;have hS:Sep w no O w (rl [Res.ro (FP.sl cI Ad ld cd d)]):=Sep.startl hO [(FP.sl cI Ad ld cd d)] ⟨hA0,trivial⟩;refine yap (l:=[.slice Ad ld cd]) func120 rfl ntmps120 zY (zs (zn (ya8 (v:=(.slice Ad ld cd)) rfl ?_)));intro g w2 hN;replace hS:=hS.neu 1 [.slice Ad ld cd] hN;clear hN;exact zb (zQ Value.nilFunc (yaa (zs (zq (yeZ (am0) (am1 rfl)) (zQ (.func (Fn.func 145) #[] #[(.pointer (some ⟨g,0,none⟩))]) (yaa (yak rfl rfl ⟨_,rfl,hS.sel [1],h⟩)))))))
def ybX(cap:List Int)(Pr R:List (List Int)→Prop):Prop :=
(∃ I2:Nat→(List (List Int))→Bool→(List Int)→Prop,(∃ m0,I2 m0 ([]) true cap)∧∀ m2 pre2 more v,I2 m2 pre2 more v → 
((more=true →
ybm v (fun r =>
(Pr (pre2++[r]) ∧
(ydF v (fun r2 y =>
∃ m3,m3<m2∧I2 m3 (pre2++[r]) r2 y) ∧
True)))) ∧
(¬(more=true) →
R pre2)))
theorem yhh{w:World}{T0 G0:BS}{cap gc Aa Ab Ac}{Pr R:List (List Int)→Prop}(h:ybX cap Pr R)(hS0:Sep w G0 T0 w (rl [Res.box 43 gc [(Value.slice Aa Ab Ac)],Res.own cI 3 Aa Ab Ac cap])) :
    yiP Tryz.prog 145 #[(.pointer (some ⟨gc,0,none⟩))] (fun (x:List Int) (b:(Option Addr×Nat×Nat))=>#[(.slice b.1 b.2.1 b.2.2)]) (fun (x:List Int) (b:(Option Addr×Nat×Nat))=>(FP.sl cI b.1 b.2.1 b.2.2 x)) Pr R T0 G0 w:=by
  unfold ybX at h;intro l J Jx T1 w1 hs hJ hp hT;obtain ⟨G,hJ,hS⟩:=gen_startP hS0 hs hJ hp hT;clear hS0 hp hT;refine yhi (l:=[(.func (.yield l) #[] #[]),(.pointer (some ⟨gc,0,none⟩))]) func145 rfl ntmps145 zY rfl (zs (zQ (.bool (true)) (yaa (yai ?_))));obtain ⟨I2,⟨m0,h0⟩,hr⟩:=h;refine yaz (fun m E ds w'=>∃ pre2 more v,∃ T2:BS,∃ G2:BS,∃ wb2:World,I2 m pre2 more v∧ds=[]∧E 0 = .func (.yield l) #[] #[]∧E 1 = .pointer (some ⟨gc,0,none⟩)∧E 3 = .bool (more)∧J T2 G2 pre2 wb2∧Sep wb2 G2 T2 w' (rl [Res.box 43 gc [.slice Aa Ab Ac],Res.own cI 3 Aa Ab Ac v])) m0 ⟨_,_,_,_,_,_,h0,rfl,rfl,rfl,rfl,hJ,hS.sel [0,1]⟩ ?_;clear h0 hS hJ;rintro m2 E ds w2 ⟨pre2,more,v,T2,G2,wb2,h,rfl,H0,H1,H3,hJ,hS⟩ ag;replace h:=hr m2 pre2 more v h;clear hr;refine yaf (zs (zH H3 (yaa ?_)));by_cases hp:more=true
  · replace h:=h.1 hp;refine yar (zC hp) (yag (yaf (yai (zs (zH H0 (zq (yau H1 underlying43 rfl (hS.bc 0 0)) (zn (yam rfl (am1 rfl) enter_147 ((yfL h (yaB _) (hS.rdo 1 rfl)).mono ?_)))))))));rintro _ w3 ⟨r,Ar,lr,cr,rfl,hC,h⟩;replace hS:=hS.call1 (hC.widen (yde (ya0 (fI .i64) _ _ _ _ _) ydA) hS.blt) 2 0 rfl;clear hC;refine ⟨_,rfl,?_⟩;refine zb ?_;replace hS:=hS.frz 2 rfl;obtain ⟨hPr,hyes,hno⟩:=h;refine zn (n_yield (m:=1) rfl (am1 rfl) (gen_yieldP (x:=r) (b:=(Ar,lr,cr)) hs hJ hS hPr (hS.ro 2 rfl) ?_ ?_))
    · clear hno hJ hS;have h:=hyes;clear hyes;intro T3 w4 hJ hS;generalize OwnB _=G3 at hJ hS;refine ⟨_,rfl,?_⟩;refine zb (zq (ycX rfl) (yaa (yat (zC (zB rfl)) (yag (yah (zr (zq (yau H1 underlying43 rfl (hS.bc 0 0)) ?_)))))));have hB:=hS.lend (asc [(1,0)]) [1] (by decide) ⟨.inl (ybE rfl),trivial⟩;refine zn (ydx (vs:=#[.slice Aa Ab Ac]) (us:=#[]) rfl (am1 rfl) enter_146 ((ya4 (by simp) (pok_chips_step h hB)).mono ?_));rintro _ w5 ⟨r2,y,rfl,hC,h⟩;replace hS:=hS.back (asc [(1,0)]) (yey (by decide)) hC;clear hC hB;refine ⟨_,rfl,?_⟩;refine zb (zQ (.bool (r2)) (yaa ?_));obtain ⟨mq,hlt,h⟩:=h;exact ag mq _ _ _ ⟨_,_,_,_,_,_,h,rfl,H0,H1,rfl,hJ,hS.sel [0,1]⟩ hlt
    · clear hyes hJ hS;have h:=hno;clear hno;intro T4 w6 hJ hS;generalize OwnB _=G4 at hJ hS;refine ⟨_,rfl,?_⟩;exact zb (zq (ycX rfl) (yaa (yar (zC (zB rfl)) (wt_ret0 rfl ⟨⟨_,rfl⟩,gen_endxP hs hJ hS⟩))))
  · replace h:=h.2 hp;exact yat (zC (zI hp)) (yax rfl (yhj rfl ⟨⟨_,rfl⟩,gen_endP hs hJ hS h⟩))
def yaM(s:List (List Int))(seq:List Int)(R:(List (List Int))→Prop):Prop :=
(∃ Pr Rr:List (List Int)→Prop,ybX seq Pr Rr ∧
(∃ I2:List (List Int)→(List (List Int))→Prop,I2 [] s ∧
(∀ pre y s2,I2 pre s2→Pr (pre++[y]) →
(s2.length+1≤1000000000 ∧
I2 (pre++[y]) (s2++[y]))) ∧
(∀ ys s2,I2 ys s2→Rr ys →
R s2)))
theorem yco{S O:Nat→Prop}{w:World}{s seq As ls cs gc Aa Ab Ac}{R:(List (List Int))→Prop}(h:yaM s seq R)(hS:Sep w S O w (rl [Res.own (cL cI) 43 As ls cs s,Res.box 43 gc [(Value.slice Aa Ab Ac)],Res.own cI 3 Aa Ab Ac seq])) :
    Calls Tryz.prog 144 #[.slice As ls cs,(.func (Fn.func 145) #[] #[(.pointer (some ⟨gc,0,none⟩))])] w fun e w'=>∃ r Ar lr cr,e = .returned (.slice Ar lr cr)∧Sep w S O w' (rl [Res.own (cL cI) 43 Ar lr cr r])∧R r:=by
  unfold yaM at h;refine yei (l:=[.slice As ls cs,(.func (Fn.func 145) #[] #[(.pointer (some ⟨gc,0,none⟩))])]) func144 rfl ntmps144 zY (zs (zn (ya8 (v:=(.slice As ls cs)) rfl ?_)));intro g w2 hN;replace hS:=hS.neu 3 [.slice As ls cs] hN;clear hN;refine zb (zQ (.slice none 0 0) (yaa (yaf (zs (zM (.func (Fn.func 145) #[] #[(.pointer (some ⟨gc,0,none⟩))]) (yaa (yai ?_)))))));obtain ⟨Pr,Rr,hgp,I2,h0,hb,h⟩:=h;refine wt_iterSP hS [3,0] [1,2] (by decide) (by decide) ⟨.inl (by decide), .inl (by decide),trivial⟩ rfl enter_145 (val:=(fun (x:List Int) (b:(Option Addr×Nat×Nat))=>#[(.slice b.1 b.2.1 b.2.2)])) (pass:=(fun (x:List Int) (b:(Option Addr×Nat×Nat))=>(FP.sl cI b.1 b.2.1 b.2.2 x))) (Pr:=Pr) (R:=Rr) (fun _ _=>rfl) rfl (fun pr LL=>∃ s2 As2 ls2 cs2,I2 pr s2∧LL=[Res.box 93 g [.slice As2 ls2 cs2],Res.own (cL cI) 43 As2 ls2 cs2 s2]) (fun _ _ _=>False) ⟨_,_,_,_,h0,rfl⟩ (fun T G hG=>yhh hgp hG) ?_ ?_ (fun _ _ _ _ _ hx=>hx.elim)
  · clear h h0 hS hgp;rintro ll rdy busy S O2 pre y ⟨A,l,c⟩ w3 _ ⟨s2,As2,ls2,cs2,hI,rfl⟩ hPr hpass hS;have h:=hb pre y s2 hI hPr;clear hb hI hPr;replace hS:=hS.addro 3 rfl _ hpass;clear hpass;refine yay (ya7 ll) (zQ (.slice A l c) (yaa (ycO fun a ra=>⟨rfl,_,_,ra,hS,⟨2,rfl⟩,?_⟩)));intro w5 hw;replace hS:=hS.flip 2 rfl busy hw;clear hw ra a;refine yai (yay (ya7 ll) (zq (zl underlying93 (hS.bc 0 0)) (zM (.slice A l c) (zn (yaX (l:=[(0,(.slice A l c))]) (cells:=[.slice A l c]) (bp1 rfl) underlying93 ycm rfl rfl ?_)))));intro g2 w6 hN;replace hS:=hS.lit (n:=1) (c:=(cL cI)) 4 rfl hN ([y]:List (List Int)) rfl (by decide) ⟨[.slice A l c],_,rfl,(ro_R (hS.ro 3 rfl)),rfl⟩;clear hN;refine zb ?_;obtain ⟨hx,h⟩:=h;refine zn (ygp (c:=(cL cI)) rfl rfl underlying93 underlying93 ycm rfl rfl (by decide) hS 1 rfl (hS.yo 4 rfl) hx ?_);clear hS;intro A2 c4 w7 hS;refine zb (zo (zt (.slice A2 (ls2+1) c4) info_93 (hS.bwr 0 rfl (j:=0) rfl) ?_));intro w8 e1;replace hS:=hS.bst 0 rfl 0 (.slice A2 (ls2+1) c4) e1;clear e1;exact zb (yaa (yah (ycO fun a r=>⟨_,⟨_,_,_,_,h,rfl⟩,hS.sel [0,1,2]⟩)))
  · clear hb h0 hS hgp;rintro D ys w4 _ hRr ⟨s2,As2,ls2,cs2,hI,rfl⟩ hS;replace h:=h ys s2 hI hRr;clear hI hRr;exact yah (zs (zq (zl underlying93 (hS.bc 0 0)) (zQ (.slice As2 ls2 cs2) (yaa (wt_retk1 (rs:=[D]) (by simp) (hS.marked 2 rfl) rfl rfl (fun w9 hk=>⟨_,_,_,_,rfl,(hS.unmark [2] [1] (by decide) (by decide) (yh8 2 rfl) hk),h⟩))))))
def ybg(seq:List Int)(R:(List (List Int))→Prop):Prop :=
yaM ([]) seq (fun r =>
R r)
theorem yeh{S O:Nat→Prop}{w:World}{seq gc Aa Ab Ac}{R:(List (List Int))→Prop}(h:ybg seq R)(hS:Sep w S O w (rl [Res.box 43 gc [(Value.slice Aa Ab Ac)],Res.own cI 3 Aa Ab Ac seq])) :
    Calls Tryz.prog 119 #[(.func (Fn.func 145) #[] #[(.pointer (some ⟨gc,0,none⟩))])] w fun e w'=>∃ r2 Ar2 lr2 cr2,e = .returned (.slice Ar2 lr2 cr2)∧Sep w S O w' (rl [Res.own (cL cI) 43 Ar2 lr2 cr2 r2])∧R r2:=by
  unfold ybg at h;refine yap (l:=[(.func (Fn.func 145) #[] #[(.pointer (some ⟨gc,0,none⟩))])]) func119 rfl ntmps119 zY (zs (zQ (.slice none 0 0) (yaa (zs (zM (.func (Fn.func 145) #[] #[(.pointer (some ⟨gc,0,none⟩))]) ?_)))));replace hS:=hS.nil 2 rfl (cL cI) 43;have hB:=hS.lend (asc [(3,0),(2,20),(0,21),(1,22)]) [2,0,1] (by decide) ⟨.inl (ybE rfl), .inl (ybE rfl), .inl (ybE rfl),trivial⟩;refine zn (ydx (vs:=#[.slice none 0 0,(.func (Fn.func 145) #[] #[(.pointer (some ⟨gc,0,none⟩))])]) (us:=#[]) rfl (am2 rfl rfl) enter_144 ((ya4 (by simp) (yco h hB)).mono ?_));rintro _ w2 ⟨r,Ar,lr,cr,rfl,hC,h⟩;replace hS:=hS.back (asc [(3,0),(2,20),(0,21),(1,22)]) (yey (by decide)) hC;clear hC hB;refine ⟨_,rfl,?_⟩;exact zb (zQ (.slice Ar lr cr) (yaa (yak rfl rfl ⟨_,_,_,_,rfl,hS.sel [3],h⟩)))
def yeg(n:Int)(k:Int)(R:(List (List Int))→Int→Prop):Prop :=
ybu n (fun r =>
((r=0 →
(∃ J2:Prop,(J2→(∃ I2:Nat→Int→Int→Prop,(∃ m0,I2 m0 1 1)∧∀ m2 count i,I2 m2 count i → 
((i<n →
(In64 (k+i) ∧
(In64 (count*(k+i)) ∧
(i≠0 ∧
In64 ((count*(k+i)).tdiv i) ∧
((16384<((count*(k+i)).tdiv i) →
R ([]) 12) ∧
(¬(16384<((count*(k+i)).tdiv i)) →
(In64 (i+1) ∧
∃ m3,m3<m2∧I2 m3 ((count*(k+i)).tdiv i) (i+1)))))))) ∧
(¬(i<n) →
((0≤n∧n≤1000000) ∧
(In64 (n-1) ∧
((0≤(n-1)∧(n-1)<(((List.replicate n.toNat (0:Int)).length:Nat):Int)) ∧
yeP ((List.replicate n.toNat (0:Int)).set (n-1).toNat k) (ybg ((List.replicate n.toNat (0:Int)).set (n-1).toNat k) (fun r2 =>
R r2 0))))))))) ∧
((k<0 →
R ([]) 2) ∧
(¬(k<0) →
((1048576<k →
R ([]) 2) ∧
(¬(1048576<k) →
J2)))))) ∧
(¬(r=0) →
R ([]) r)))
theorem pok_chips_All{O:Nat→Prop}{w:World}{n k}{R:(List (List Int))→Int→Prop}(h:yeg n k R)(hO:∀ k,O k→k<w.heap.size) :
    Calls Tryz.prog 73 #[ii n,ii k] w fun e w'=>∃ r3 r4 Ar2 lr2 cr2,e = .returned (.tuple #[.slice Ar2 lr2 cr2,ii r4])∧Sep w no O w' (rl [Res.own (cL cI) 43 Ar2 lr2 cr2 r3])∧R r3 r4:=by
  unfold yeg at h;have hS:Sep w no O w (rl []):=Sep.start w hO;refine yap (l:=[ii n,ii k]) func73 rfl ntmps73 zY (zs (zQ (.slice none 0 0) (zQ (ii 0) (yaa (yaf (zs (zM (ii n) (zn (yam rfl (am1 rfl) enter_118 ((yfk h (yaB _)).mono ?_))))))))));rintro _ w2 ⟨r,rfl,hC,h⟩;replace hS:=hS.pur hC.pure;refine ⟨_,rfl,?_⟩;refine zb (zQ (ii r) (yaa (zs (zM (ii r) (zq zN (yaa ?_))))));by_cases hp:r=0
  · replace h:=h.1 hp;refine ze hp (yag (yaf (yaf ?_)));obtain ⟨J2,hJ,h⟩:=h;refine yc1 (fun E ds w'=>J2∧ds=[]∧E 0=(ii n)∧E 1=(ii k)∧Sep w no O w' (rl [])) ?_ ?_
    · clear h hS;rintro E ds w3 ⟨h,rfl,H0,H1,hS⟩;replace h:=hJ h;refine zs (zQ (ii 1) (yaa (yaf (zs (zQ (ii 1) (yaa (yai ?_)))))));obtain ⟨I2,⟨m0,h0⟩,hr⟩:=h;refine yaz (fun m E ds w'=>∃ count i,I2 m count i∧ds=[]∧E 0=(ii n)∧E 1=(ii k)∧E 7=(ii count)∧E 8=(ii i)∧Sep w no O w' (rl [])) m0 ⟨_,_,h0,rfl,H0,H1,rfl,rfl,hS.sel []⟩ ?_;clear h0 hS;rintro m2 E ds w4 ⟨count,i,h,rfl,H0,H1,H7,H8,hS⟩ ag;replace h:=hr m2 count i h;clear hr;refine yaf (zs (zH H8 (zH H0 (zq zL (yaa ?_)))));by_cases hp2:i<n
      · replace h:=h.1 hp2;refine zc hp2 (yag (yaf (yai (zs (zH H7 (zH H1 (zH H8 ?_)))))));obtain ⟨hi,h⟩:=h;refine zq (zA hi) ?_;obtain ⟨hi2,h⟩:=h;refine zq (v_mul rfl rfl hi2) (zH H8 ?_);obtain ⟨hz,h⟩:=h;obtain ⟨hi3,h⟩:=h;refine zq (v_quo rfl rfl hz hi3) (zQ (ii ((count*(k+i)).tdiv i)) (yaa (zs (zM (ii ((count*(k+i)).tdiv i)) (zq zG (yaa ?_))))));by_cases hp3:16384<((count*(k+i)).tdiv i)
        · replace h:=h.1 hp3;refine zc hp3 (zs (zQ (.slice none 0 0) (zQ (ii 12) (yaa ?_))));replace hS:=hS.nil 0 rfl (cL cI) 43;exact yaG rfl rfl rfl ⟨_,_,_,_,_,rfl,hS.sel [0],h⟩
        · replace h:=h.2 hp3;refine zd hp3 (yag (yah (zr (zH H8 ?_))));obtain ⟨hi4,h⟩:=h;refine zq (zA hi4) (zQ (ii (i+1)) (yaa ?_));obtain ⟨mq,hlt,h⟩:=h;exact ag mq _ _ _ ⟨_,_,h,rfl,H0,H1,rfl,rfl,hS.sel []⟩ hlt
      · replace h:=h.2 hp2;refine zd hp2 (yax rfl (zs (zH H0 ?_)));obtain ⟨hx,h⟩:=h;refine zn (ykw rfl rfl underlying43 yaj (by decide) rfl hx ?_);intro g w5 hN;replace hS:=hS.made 0 rfl cI (ii 0) (0:Int) (fun _ _=>rfl) hN (by omega);clear hN;refine zb (zQ (.slice (some ⟨g,0,none⟩) n.toNat n.toNat) (yaa (zs (zM (.slice (some ⟨g,0,none⟩) n.toNat n.toNat) (zH H0 ?_)))));obtain ⟨hi5,h⟩:=h;refine zq (zS hi5) (zH H1 ?_);obtain ⟨hx2,h⟩:=h;refine zq (zi underlying43 yaj (yaP (hS.rdo 0 rfl) hx2)) (zo (zt (ii k) yaj (hS.wr 0 rfl rfl hx2) ?_));intro w6 e1;replace hS:=hS.st 0 rfl rfl hx2 (x:=k) rfl e1;clear e1;refine zb (yaa (zs (zM (.slice (some ⟨g,0,none⟩) n.toNat n.toNat) (zn (yam rfl (am1 rfl) enter_120 ((pok_chips_from h (yaB _) (hS.rdo 0 rfl)).mono ?_))))));rintro _ w7 ⟨gc,rfl,hC,h⟩;replace hS:=hS.call1 (hC.widen (yde (flat_box _ _ _) ydA) hS.blt) 1 0 rfl;clear hC;refine ⟨_,rfl,?_⟩;refine zb ?_;have hB:=hS.lend (asc [(2,0),(1,20),(0,21)]) [1,0] (by decide) ⟨.inl (ybE rfl), .inl (ybE rfl),trivial⟩;refine zn (ydx (vs:=#[(.func (Fn.func 145) #[] #[(.pointer (some ⟨gc,0,none⟩))])]) (us:=#[]) rfl (am1 rfl) enter_119 ((ya4 (by simp) (yeh h hB)).mono ?_));rintro _ w8 ⟨r2,Ar,lr,cr,rfl,hC,h⟩;replace hS:=hS.back (asc [(2,0),(1,20),(0,21)]) (yey (by decide)) hC;clear hC hB;refine ⟨_,rfl,?_⟩;exact zb (zQ (.slice Ar lr cr) (zQ (ii 0) (yaa (yaG rfl rfl rfl ⟨_,_,_,_,_,rfl,hS.sel [2],h⟩))))
    clear hJ;intro j;refine zr (zM (ii k) (zq zL (zM (.bool (decide (k<0))) ?_)));by_cases hp4:k<0
    · replace h:=h.1 hp4;refine zV rfl rfl (zT hp4) (zV rfl rfl (zT hp4) (zq (yas (v:=(.bool (true))) (zT hp4) rfl) (yaa (yar rfl (zs (zQ (.slice none 0 0) (zQ (ii 2) (yaa ?_))))))));replace hS:=hS.nil 0 rfl (cL cI) 43;exact yaG rfl rfl rfl ⟨_,_,_,_,_,rfl,hS.sel [0],h⟩
    · replace h:=h.2 hp4;refine zW rfl rfl (zF hp4) (zm (ii k)) (zW rfl rfl (zF hp4) zG (zq (yal (v:=(.bool (decide (1048576<k)))) (zF hp4) rfl) (yaa ?_)));by_cases hp5:1048576<k
      · replace h:=h.1 hp5;refine zc hp5 (zs (zQ (.slice none 0 0) (zQ (ii 2) (yaa ?_))));replace hS:=hS.nil 0 rfl (cL cI) 43;exact yaG rfl rfl rfl ⟨_,_,_,_,_,rfl,hS.sel [0],h⟩
      · replace h:=h.2 hp5;exact zd hp5 (yag (j _ _ _ ⟨h,rfl,rfl,rfl,hS.sel []⟩))
  · replace h:=h.2 hp;refine zf hp (zs (zM (ii r) (zQ (.slice none 0 0) (zQ (ii r) (yaa ?_)))));replace hS:=hS.nil 0 rfl (cL cI) 43;exact yaG rfl rfl rfl ⟨_,_,_,_,_,rfl,hS.sel [0],h⟩
def ybG(d:Int)(d2:List E3)(R:Int→(List Int)→Int→Prop):Prop :=
ybd d d2 (fun r =>
((r=0 →
yeL d d2 (fun r2 r3 =>
(∃ J2:Prop,(J2→(∃ I2:Nat→Int→Prop,(∃ m0,I2 m0 1)∧∀ m2 v,I2 m2 v → 
((v≤d →
yeg d v (fun r4 r5 =>
((r5=0 →
(∃ I3:Nat→Int→Prop,(∃ m0,I3 m0 0)∧∀ m3 v2,I3 m3 v2 → 
((v2<(r4.length:Int) →
((0≤v2∧v2<(r4.length:Int)) ∧
ycl d d2 (gx r4 v2.toNat) 1 (fun r6 r7 =>
((r7=0 →
((r6=true →
R v (gx r4 v2.toNat) 0) ∧
(¬(r6=true) →
(In64 (v2+1) ∧
∃ m4,m4<m3∧I3 m4 (v2+1))))) ∧
(¬(r7=0) →
R 0 ([]) r7))))) ∧
(¬(v2<(r4.length:Int)) →
(In64 (v+1) ∧
∃ m5,m5<m2∧I2 m5 (v+1)))))) ∧
(¬(r5=0) →
R 0 ([]) r5)))) ∧
(¬(v≤d) →
R 0 ([]) 12)))) ∧
((r3=0 →
((6<d →
R 0 ([]) 12) ∧
(¬(6<d) →
((9<r2 →
R 0 ([]) 12) ∧
(¬(9<r2) →
J2))))) ∧
(¬(r3=0) →
R 0 ([]) 12))))) ∧
(¬(r=0) →
R 0 ([]) r)))
theorem yee{O:Nat→Prop}{w:World}{d d2 Ad ld cd}{R:Int→(List Int)→Int→Prop}(h:ybG d d2 R)(hO:∀ k,O k→k<w.heap.size)(hA0:(FP.sl c3 Ad ld cd d2).P O w) :
    Calls Tryz.prog 24 #[(.agg #[ii d,.slice Ad ld cd])] w fun e w'=>∃ r8 r9 r10 Ar2 lr2 cr2,e = .returned (.tuple #[ii r8,.slice Ar2 lr2 cr2,ii r10])∧Sep w no O w' (rl [Res.ro (FP.sl cI Ar2 lr2 cr2 r9)])∧R r8 r9 r10:=by
  unfold ybG at h;have hS:Sep w no O w (rl [Res.ro (FP.sl c3 Ad ld cd d2)]):=Sep.startl hO [(FP.sl c3 Ad ld cd d2)] ⟨hA0,trivial⟩;refine yap (l:=[(.agg #[ii d,.slice Ad ld cd])]) func24 rfl ntmps24 zY (zs (zn (ya8 (v:=(.agg #[ii d,.slice Ad ld cd])) rfl ?_)));intro g w2 hN;replace hS:=hS.neu 1 [ii d,.slice Ad ld cd] hN;clear hN;refine zb (zQ (ii 0) (zQ (.slice none 0 0) (zQ (ii 0) (yaa (yaf (zs (zq (yaq (vs:=[ii d,.slice Ad ld cd]) rfl underlying24 rfl yao ⟨hS.bc 1 0,hS.bc 1 1,trivial⟩) (zn (yam rfl (am1 rfl) yhH ((ybP h (yaB _) (hS.rdr 0 rfl)).mono ?_))))))))));rintro _ w3 ⟨r,rfl,hC,h⟩;replace hS:=hS.pur hC.pure;refine ⟨_,rfl,?_⟩;refine zb (zQ (ii r) (yaa (zs (zM (ii r) (zq zN (yaa ?_))))));by_cases hp:r=0
  · replace h:=h.1 hp;refine ze hp (yag (yaf (zs (zq (yaq (vs:=[ii d,.slice Ad ld cd]) rfl underlying24 rfl yao ⟨hS.bc 1 0,hS.bc 1 1,trivial⟩) (zn (yam rfl (am1 rfl) enter_72 ((pok_graph_Size h (yaB _) (hS.rdr 0 rfl)).mono ?_)))))));rintro _ w4 ⟨r2,r3,rfl,hC,h⟩;replace hS:=hS.pur hC.pure;refine ⟨_,rfl,?_⟩;refine zb (zM (.tuple #[ii r2,ii r3]) (zq (zx (ii r2)) (zq (zx (ii r3)) (zQ (ii r2) (zQ (ii r3) (yaa (yaf ?_)))))));obtain ⟨J2,hJ,h⟩:=h;refine yc1 (fun E ds w'=>J2∧ds=[]∧E 1 = .pointer (some ⟨g,0,none⟩)∧Sep w no O w' (rl [Res.box 24 g [ii d,.slice Ad ld cd],Res.ro (FP.sl c3 Ad ld cd d2)])) ?_ ?_
    · clear h hS;rintro E ds w5 ⟨h,rfl,H1,hS⟩;replace h:=hJ h;refine yaf (zs (zQ (ii 1) (yaa (yai ?_))));obtain ⟨I2,⟨m0,h0⟩,hr⟩:=h;refine yaz (fun m E ds w'=>∃ v,I2 m v∧ds=[]∧E 1 = .pointer (some ⟨g,0,none⟩)∧E 8=(ii v)∧Sep w no O w' (rl [Res.box 24 g [ii d,.slice Ad ld cd],Res.ro (FP.sl c3 Ad ld cd d2)])) m0 ⟨_,h0,rfl,H1,rfl,hS.sel [0,1]⟩ ?_;clear h0 hS;rintro m2 E ds w6 ⟨v,h,rfl,H1,H8,hS⟩ ag;replace h:=hr m2 v h;clear hr;refine yaf (zs (zH H8 (zq (yan H1 underlying24 rfl yaj) (zq (zl underlying3 (hS.bc 0 0)) (zq (yl1 rfl rfl) (yaa ?_))))));by_cases hp2:v≤d
      · replace h:=h.1 hp2;refine zc hp2 (yag (yaf (yai (zs (zq (yan H1 underlying24 rfl yaj) (zq (zl underlying3 (hS.bc 0 0)) (zH H8 (zn (yam rfl (am2 rfl rfl) enter_73 ((pok_chips_All h hS.blt).mono ?_))))))))));rintro _ w7 ⟨r4,r5,Ar,lr,cr,rfl,hC,h⟩;replace hS:=hS.call1 hC 2 0 rfl;clear hC;refine ⟨_,rfl,?_⟩;refine zb (zM (.tuple #[.slice Ar lr cr,ii r5]) (zq (zx (.slice Ar lr cr)) (zq (zx (ii r5)) (zQ (.slice Ar lr cr) (zQ (ii r5) (yaa (yaf (zs (zM (ii r5) (zq zN (yaa ?_)))))))))));by_cases hp3:r5=0
        · replace h:=h.1 hp3;refine ze hp3 (yag (zs (zM (.slice Ar lr cr) (zq (yaF (n:=r4.length) rfl underlying93 (yaE (hS.rdo 2 rfl))) (zM (ii 0) (yaa (yai ?_)))))));obtain ⟨I3,⟨m0,h0⟩,hr⟩:=h;refine yaz (fun m E ds w'=>∃ v2,I3 m v2∧ds=[]∧E 1 = .pointer (some ⟨g,0,none⟩)∧E 8=(ii v)∧E 52 = .slice Ar lr cr∧E 53=(ii (r4.length:Int))∧E 54=(ii v2)∧Sep w no O w' (rl [Res.box 24 g [ii d,.slice Ad ld cd],Res.ro (FP.sl c3 Ad ld cd d2),Res.own (cL cI) 43 Ar lr cr r4])) m0 ⟨_,h0,rfl,H1,H8,rfl,rfl,rfl,hS.sel [0,1,2]⟩ ?_;clear h0 hS;rintro m3 E ds w8 ⟨v2,h,rfl,H1,H8,H52,H53,H54,hS⟩ again2;replace h:=hr m3 v2 h;clear hr;refine zs (zq (ydj H54 H53) (yaa (yaf ?_)));by_cases hp4:v2<(r4.length:Int)
          · replace h:=h.1 hp4;refine zc hp4 (yag (yaf (yai (zs ?_))));obtain ⟨hx,h⟩:=h;refine zq (ycI H52 H54 underlying93 ycm (yaP (hS.rdo 2 rfl) hx)) ?_;obtain ⟨A,l,c,hc,hq⟩:=hS.elo 2 rfl hx 3 rfl;replace hS:=hq;clear hq;refine zq (yau (v:=(.slice A l c)) rfl underlying43 rfl hc) (zQ (.slice A l c) (yaa (zs (zq (yaq (vs:=[ii d,.slice Ad ld cd]) H1 underlying24 rfl yao ⟨hS.bc 0 0,hS.bc 0 1,trivial⟩) (zM (.slice A l c) (zn (yam rfl (am3 rfl rfl rfl) enter_74 ((yiI h (yaB _) (hS.rdr 1 rfl) (hS.rdr 3 rfl)).mono ?_))))))));rintro _ w9 ⟨r6,r7,rfl,hC,h⟩;replace hS:=hS.pur hC.pure;refine ⟨_,rfl,?_⟩;refine zb (zM (.tuple #[(.bool (r6)),ii r7]) (zq (zx (.bool (r6))) (zq (zx (ii r7)) (zQ (.bool (r6)) (zQ (ii r7) (yaa (yaf (zs (zM (ii r7) (zq zN (yaa ?_)))))))))));by_cases hp5:r7=0
            · replace h:=h.1 hp5;refine ze hp5 (yag (zs (zM (.bool (r6)) (yaa ?_))));by_cases hp6:r6=true
              · replace h:=h.1 hp6;exact yar (zC hp6) (zs (zH H8 (zM (.slice A l c) (zQ (ii v) (zQ (.slice A l c) (zQ (ii 0) (yaa (ybR rfl rfl rfl rfl ⟨_,_,_,_,_,_,rfl,hS.sel [3],h⟩))))))))
              · replace h:=h.2 hp6;refine yat (zC (zI hp6)) (yag (yah (zr ?_)));obtain ⟨hi,h⟩:=h;refine zq (ybS H54 rfl hi) (zM (ii (v2+1)) (yaa ?_));obtain ⟨mq,hlt,h⟩:=h;exact again2 mq _ _ _ ⟨_,h,rfl,H1,H8,H52,H53,rfl,hS.sel [0,1,2]⟩ hlt
            · replace h:=h.2 hp5;refine zf hp5 (zs (zM (ii r7) (zQ (ii 0) (zQ (.slice none 0 0) (zQ (ii r7) (yaa ?_))))));replace hS:=hS.addro 4 rfl _ (yhe cI _ _);exact ybR rfl rfl rfl rfl ⟨_,_,_,_,_,_,rfl,hS.sel [4],h⟩
          · replace h:=h.2 hp4;refine zd hp4 (yax rfl (yah (zr (zH H8 ?_))));obtain ⟨hi2,h⟩:=h;refine zq (zA hi2) (zQ (ii (v+1)) (yaa ?_));obtain ⟨mq,hlt,h⟩:=h;exact ag mq _ _ _ ⟨_,h,rfl,H1,rfl,hS.sel [0,1]⟩ hlt
        · replace h:=h.2 hp3;refine zf hp3 (zs (zM (ii r5) (zQ (ii 0) (zQ (.slice none 0 0) (zQ (ii r5) (yaa ?_))))));replace hS:=hS.addro 3 rfl _ (yhe cI _ _);exact ybR rfl rfl rfl rfl ⟨_,_,_,_,_,_,rfl,hS.sel [3],h⟩
      · replace h:=h.2 hp2;refine zd hp2 (yax rfl (zs (zQ (ii 0) (zQ (.slice none 0 0) (zQ (ii 12) (yaa ?_))))));replace hS:=hS.addro 2 rfl _ (yhe cI _ _);exact ybR rfl rfl rfl rfl ⟨_,_,_,_,_,_,rfl,hS.sel [2],h⟩
    clear hJ;intro j;refine zr (zM (ii r3) (zq zN (zM (.bool (!(decide (r3=0)))) ?_)));by_cases hp7:r3=0
    · replace h:=h.1 hp7;refine zW rfl rfl (zC (zB (decide_eq_true hp7))) (yan rfl underlying24 rfl yaj) (zW rfl rfl (zC (zB (decide_eq_true hp7))) (zl underlying3 (hS.bc 1 0)) (zW rfl rfl (zC (zB (decide_eq_true hp7))) zG (zq (yal (v:=(.bool (decide (6<d)))) (zC (zB (decide_eq_true hp7))) rfl) (zM (.bool (decide (6<d))) ?_))));by_cases hp8:6<d
      · replace h:=h.1 hp8;refine zV rfl rfl (zT hp8) (zV rfl rfl (zT hp8) (zq (yas (v:=(.bool (true))) (zT hp8) rfl) (yaa (yar rfl (zs (zQ (ii 0) (zQ (.slice none 0 0) (zQ (ii 12) (yaa ?_)))))))));replace hS:=hS.addro 2 rfl _ (yhe cI _ _);exact ybR rfl rfl rfl rfl ⟨_,_,_,_,_,_,rfl,hS.sel [2],h⟩
      · replace h:=h.2 hp8;refine zW rfl rfl (zF hp8) (zm (ii r2)) (zW rfl rfl (zF hp8) zG (zq (yal (v:=(.bool (decide (9<r2)))) (zF hp8) rfl) (yaa ?_)));by_cases hp9:9<r2
        · replace h:=h.1 hp9;refine zc hp9 (zs (zQ (ii 0) (zQ (.slice none 0 0) (zQ (ii 12) (yaa ?_)))));replace hS:=hS.addro 2 rfl _ (yhe cI _ _);exact ybR rfl rfl rfl rfl ⟨_,_,_,_,_,_,rfl,hS.sel [2],h⟩
        · replace h:=h.2 hp9;exact zd hp9 (yag (j _ _ _ ⟨h,rfl,rfl,hS.sel [1,0]⟩))
    · replace h:=h.2 hp7;refine zV rfl rfl (zC (zB (decide_eq_false hp7))) (zV rfl rfl (zC (zB (decide_eq_false hp7))) (zV rfl rfl (zC (zB (decide_eq_false hp7))) (zq (yas (v:=(.bool (true))) (zC (zB (decide_eq_false hp7))) rfl) (zM (.bool (true)) (zU (zU (zq (yas (v:=(.bool (true))) rfl rfl) (yaa (yar rfl (zs (zQ (ii 0) (zQ (.slice none 0 0) (zQ (ii 12) (yaa ?_))))))))))))));replace hS:=hS.addro 2 rfl _ (yhe cI _ _);exact ybR rfl rfl rfl rfl ⟨_,_,_,_,_,_,rfl,hS.sel [2],h⟩
  · replace h:=h.2 hp;refine zf hp (zs (zM (ii r) (zQ (ii 0) (zQ (.slice none 0 0) (zQ (ii r) (yaa ?_))))));replace hS:=hS.addro 2 rfl _ (yhe cI _ _);exact ybR rfl rfl rfl rfl ⟨_,_,_,_,_,_,rfl,hS.sel [2],h⟩
def ycL(g:Int)(g2:List E3)(R:(List (List Int))→Int→Prop):Prop :=
ybd g g2 (fun r =>
((r=0 →
(∃ I2:Nat→(List (List Int))→Int→Prop,(∃ m0,I2 m0 ([]) 0)∧∀ m2 out v,I2 m2 out v → 
((v<g →
(out.length+1≤1000000000 ∧
(In64 (v+1) ∧
∃ m3,m3<m2∧I2 m3 (out++[[v]]) (v+1)))) ∧
(¬(v<g) →
R out 0)))) ∧
(¬(r=0) →
R ([]) r)))
theorem yho{O:Nat→Prop}{w:World}{g g2 Ag lg cg}{R:(List (List Int))→Int→Prop}(h:ycL g g2 R)(hO:∀ k,O k→k<w.heap.size)(hA0:(FP.sl c3 Ag lg cg g2).P O w) :
    Calls Tryz.prog 33 #[(.agg #[ii g,.slice Ag lg cg])] w fun e w'=>∃ r2 r3 Ar lr cr,e = .returned (.tuple #[.slice Ar lr cr,ii r3])∧Sep w no O w' (rl [Res.own (cL cI) 29 Ar lr cr r2])∧R r2 r3:=by
  unfold ycL at h;have hS:Sep w no O w (rl [Res.ro (FP.sl c3 Ag lg cg g2)]):=Sep.startl hO [(FP.sl c3 Ag lg cg g2)] ⟨hA0,trivial⟩;refine yap (l:=[(.agg #[ii g,.slice Ag lg cg])]) func33 rfl ntmps33 zY (zs (zn (ya8 (v:=(.agg #[ii g,.slice Ag lg cg])) rfl ?_)));intro g3 w2 hN;replace hS:=hS.neu 1 [ii g,.slice Ag lg cg] hN;clear hN;refine zb (zQ (.slice none 0 0) (zQ (ii 0) (yaa (yaf (zs (zq (yaq (vs:=[ii g,.slice Ag lg cg]) rfl underlying24 rfl yao ⟨hS.bc 1 0,hS.bc 1 1,trivial⟩) (zn (yam rfl (am1 rfl) yhH ((ybP h (yaB _) (hS.rdr 0 rfl)).mono ?_)))))))));rintro _ w3 ⟨r,rfl,hC,h⟩;replace hS:=hS.pur hC.pure;refine ⟨_,rfl,?_⟩;refine zb (zQ (ii r) (yaa (zs (zM (ii r) (zq zN (yaa ?_))))));by_cases hp:r=0
  · replace h:=h.1 hp;refine ze hp (yag (zs (zQ (.slice none 0 0) (yaa (yaf (zs (zq (yan rfl underlying24 rfl yaj) (zq (zl underlying3 (hS.bc 1 0)) (zM (ii 0) (yaa (yai ?_)))))))))));replace hS:=hS.nil 2 rfl (cL cI) 29;obtain ⟨I2,⟨m0,h0⟩,hr⟩:=h;refine yaz (fun m E ds w'=>∃ out v Aa Ab Ac,I2 m out v∧ds=[]∧E 5 = .slice Aa Ab Ac∧E 13=(ii g)∧E 14=(ii v)∧Sep w no O w' (rl [Res.own (cL cI) 29 Aa Ab Ac out])) m0 ⟨_,_,_,_,_,h0,rfl,rfl,rfl,rfl,hS.sel [2]⟩ ?_;clear h0 hS;rintro m2 E ds w4 ⟨out,v,Aa,Ab,Ac,h,rfl,H5,H13,H14,hS⟩ ag;replace h:=hr m2 out v h;clear hr;refine zs (zq (ydj H14 H13) (yaa (yaf ?_)));by_cases hp2:v<g
    · replace h:=h.1 hp2;refine zc hp2 (yag (yaf (yai (zs (zH H14 (zQ (ii v) (yaa (zr (zH H5 (zM (ii v) (zn (yaX (l:=[(0,(ii v))]) (cells:=[ii v]) (bp1 rfl) underlying29 yaj rfl rfl ?_))))))))))));intro g4 w5 hN;replace hS:=hS.litf (n:=1) 1 rfl (fI .i64) hN ([v]:List Int) rfl (by decide) rfl;clear hN;refine zb ?_;replace hS:=hS.frz 1 rfl;refine zn (yaX (l:=[(0,(.slice (some ⟨g4,0,none⟩) 1 1))]) (cells:=[(.slice (some ⟨g4,0,none⟩) 1 1)]) (bp1 rfl) underlying25 yaL rfl rfl ?_);intro g5 w6 hN;replace hS:=hS.lit (n:=1) (c:=(cL cI)) 2 rfl hN ([[v]]:List (List Int)) rfl (by decide) ⟨[(.slice (some ⟨g4,0,none⟩) 1 1)],_,rfl,(ro_R (hS.ro 1 rfl)),rfl⟩;clear hN;refine zb ?_;obtain ⟨hx,h⟩:=h;refine zn (ygp (c:=(cL cI)) rfl rfl underlying25 underlying25 yaL rfl rfl (by decide) hS 0 rfl (hS.yo 2 rfl) hx ?_);clear hS;intro A c w7 hS;refine zb (zQ (.slice A (Ab+1) c) (yaa (yah (zr ?_))));obtain ⟨hi,h⟩:=h;refine zq (ybS H14 rfl hi) (zM (ii (v+1)) (yaa ?_));obtain ⟨mq,hlt,h⟩:=h;exact ag mq _ _ _ ⟨_,_,_,_,_,h,rfl,rfl,H13,rfl,hS.sel [0]⟩ hlt
    · replace h:=h.2 hp2;exact zd hp2 (yax rfl (zs (zH H5 (zQ (.slice Aa Ab Ac) (zQ (ii 0) (yaa (yaG rfl rfl rfl ⟨_,_,_,_,_,rfl,hS.sel [0],h⟩)))))))
  · replace h:=h.2 hp;refine zf hp (zs (zM (ii r) (zQ (.slice none 0 0) (zQ (ii r) (yaa ?_)))));replace hS:=hS.nil 2 rfl (cL cI) 29;exact yaG rfl rfl rfl ⟨_,_,_,_,_,rfl,hS.sel [2],h⟩
def yc7(g:Int)(g2:List E3)(R:(List (List Int))→Int→Prop):Prop :=
ybd g g2 (fun r =>
((r=0 →
(∃ I2:Nat→(List (List Int))→Int→Prop,(∃ m0,I2 m0 ([]) 0)∧∀ m2 out v,I2 m2 out v → 
((v<(g2.length:Int) →
((0≤v∧v<(g2.length:Int)) ∧
((((ge g2 v.toNat).1)=((ge g2 v.toNat).2.1) →
(In64 (v+1) ∧
∃ m3,m3<m2∧I2 m3 out (v+1))) ∧
(¬(((ge g2 v.toNat).1)=((ge g2 v.toNat).2.1)) →
(out.length+1≤1000000000 ∧
(In64 (v+1) ∧
∃ m4,m4<m2∧I2 m4 (out++[[(ge g2 v.toNat).1,(ge g2 v.toNat).2.1]]) (v+1))))))) ∧
(¬(v<(g2.length:Int)) →
R out 0)))) ∧
(¬(r=0) →
R ([]) r)))
theorem yhV{O:Nat→Prop}{w:World}{g g2 Ag lg cg}{R:(List (List Int))→Int→Prop}(h:yc7 g g2 R)(hO:∀ k,O k→k<w.heap.size)(hA0:(FP.sl c3 Ag lg cg g2).P O w) :
    Calls Tryz.prog 35 #[(.agg #[ii g,.slice Ag lg cg])] w fun e w'=>∃ r2 r3 Ar lr cr,e = .returned (.tuple #[.slice Ar lr cr,ii r3])∧Sep w no O w' (rl [Res.own (cL cI) 29 Ar lr cr r2])∧R r2 r3:=by
  unfold yc7 at h;have hS:Sep w no O w (rl [Res.ro (FP.sl c3 Ag lg cg g2)]):=Sep.startl hO [(FP.sl c3 Ag lg cg g2)] ⟨hA0,trivial⟩;refine yap (l:=[(.agg #[ii g,.slice Ag lg cg])]) func35 rfl ntmps35 zY (zs (zn (ya8 (v:=(.agg #[ii g,.slice Ag lg cg])) rfl ?_)));intro g3 w2 hN;replace hS:=hS.neu 1 [ii g,.slice Ag lg cg] hN;clear hN;refine zb (zQ (.slice none 0 0) (zQ (ii 0) (yaa (yaf (zs (zq (yaq (vs:=[ii g,.slice Ag lg cg]) rfl underlying24 rfl yao ⟨hS.bc 1 0,hS.bc 1 1,trivial⟩) (zn (yam rfl (am1 rfl) yhH ((ybP h (yaB _) (hS.rdr 0 rfl)).mono ?_)))))))));rintro _ w3 ⟨r,rfl,hC,h⟩;replace hS:=hS.pur hC.pure;refine ⟨_,rfl,?_⟩;refine zb (zQ (ii r) (yaa (zs (zM (ii r) (zq zN (yaa ?_))))));by_cases hp:r=0
  · replace h:=h.1 hp;refine ze hp (yag (zs (zQ (.slice none 0 0) (yaa (yaf (zs (zq (yan rfl underlying24 rfl ybv) (zq (zl underlying22 (hS.bc 1 1)) (zq (yaF (n:=g2.length) rfl underlying22 (yaE (hS.rdr 0 rfl))) (zM (ii 0) (yaa (yai ?_))))))))))));replace hS:=hS.nil 2 rfl (cL cI) 29;obtain ⟨I2,⟨m0,h0⟩,hr⟩:=h;refine yaz (fun m E ds w'=>∃ out v Aa Ab Ac,I2 m out v∧ds=[]∧E 5 = .slice Aa Ab Ac∧E 14 = .slice Ag lg cg∧E 15=(ii (g2.length:Int))∧E 16=(ii v)∧Sep w no O w' (rl [Res.own (cL cI) 29 Aa Ab Ac out,Res.ro (FP.sl c3 Ag lg cg g2)])) m0 ⟨_,_,_,_,_,h0,rfl,rfl,rfl,rfl,rfl,hS.sel [2,0]⟩ ?_;clear h0 hS;rintro m2 E ds w4 ⟨out,v,Aa,Ab,Ac,h,rfl,H5,H14,H15,H16,hS⟩ ag;replace h:=hr m2 out v h;clear hr;refine zs (zq (ydj H16 H15) (yaa (yaf ?_)));by_cases hp2:v<(g2.length:Int)
    · replace h:=h.1 hp2;refine zc hp2 (yag (yaf (yai (zs ?_))));obtain ⟨hx,h⟩:=h;refine zq (ycI H14 H16 underlying22 yaK (yaP (hS.rdr 1 rfl) hx)) (zq (yaq (vs:=[(ii ((ge g2 v.toNat).1)),(ii ((ge g2 v.toNat).2.1)),(ii ((ge g2 v.toNat).2.2))]) rfl underlying79 rfl yaK (rd_fs (hS.rdr 1 rfl) hx (fun q=>ydu q))) ?_);refine zn (yaO yaK ?_);intro g4 w5 hN;replace hS:=hS.neu 2 [ii 0,ii 0,ii 0] hN;clear hN;refine zb (zo (yaV (b:=g4) (o:=0) (cells:=#[(ii ((ge g2 v.toNat).1)),(ii ((ge g2 v.toNat).2.1)),(ii ((ge g2 v.toNat).2.2))]) rfl rfl yaK rfl rfl (yaI (hS.bx 2 rfl) zY) ?_));intro w6 e1;replace hS:=hS.bstn 2 rfl 0 [(ii ((ge g2 v.toNat).1)),(ii ((ge g2 v.toNat).2.1)),(ii ((ge g2 v.toNat).2.2))] e1;clear e1;refine zb (yaa (zs (zq (yan rfl underlying79 rfl yaj) (zq (zl underlying3 (hS.bc 2 0)) (zq (yan rfl underlying79 rfl yaj) (zq (zl underlying3 (hS.bc 2 1)) (zq zN (yaa ?_))))))));by_cases hp3:((ge g2 v.toNat).1)=((ge g2 v.toNat).2.1)
      · replace h:=h.1 hp3;refine ze hp3 (yag (yah (zr ?_)));obtain ⟨hi,h⟩:=h;refine zq (ybS H16 rfl hi) (zM (ii (v+1)) (yaa ?_));obtain ⟨mq,hlt,h⟩:=h;exact ag mq _ _ _ ⟨_,_,_,_,_,h,rfl,H5,H14,H15,rfl,hS.sel [0,1]⟩ hlt
      · replace h:=h.2 hp3;refine zf hp3 (zr (zH H5 (zq (yan rfl underlying79 rfl yaj) (zq (zl underlying3 (hS.bc 2 0)) (zq (yan rfl underlying79 rfl yaj) (zq (zl underlying3 (hS.bc 2 1)) (zn (yaX (l:=[(0,(ii ((ge g2 v.toNat).1))),(1,(ii ((ge g2 v.toNat).2.1)))]) (cells:=[(ii ((ge g2 v.toNat).1)),(ii ((ge g2 v.toNat).2.1))]) (bp2 rfl rfl) underlying29 yaj rfl rfl ?_))))))));intro g5 w7 hN;replace hS:=hS.litf (n:=2) 3 rfl (fI .i64) hN ([(ge g2 v.toNat).1,(ge g2 v.toNat).2.1]:List Int) rfl (by decide) rfl;clear hN;refine zb ?_;replace hS:=hS.frz 3 rfl;refine zn (yaX (l:=[(0,(.slice (some ⟨g5,0,none⟩) 2 2))]) (cells:=[(.slice (some ⟨g5,0,none⟩) 2 2)]) (bp1 rfl) underlying25 yaL rfl rfl ?_);intro g6 w8 hN;replace hS:=hS.lit (n:=1) (c:=(cL cI)) 4 rfl hN ([[(ge g2 v.toNat).1,(ge g2 v.toNat).2.1]]:List (List Int)) rfl (by decide) ⟨[(.slice (some ⟨g5,0,none⟩) 2 2)],_,rfl,(ro_R (hS.ro 3 rfl)),rfl⟩;clear hN;refine zb ?_;obtain ⟨hx2,h⟩:=h;refine zn (ygp (c:=(cL cI)) rfl rfl underlying25 underlying25 yaL rfl rfl (by decide) hS 0 rfl (hS.yo 4 rfl) hx2 ?_);clear hS;intro A c w9 hS;refine zb (zQ (.slice A (Ab+1) c) (yaa (yah (zr ?_))));obtain ⟨hi2,h⟩:=h;refine zq (ybS H16 rfl hi2) (zM (ii (v+1)) (yaa ?_));obtain ⟨mq,hlt,h⟩:=h;exact ag mq _ _ _ ⟨_,_,_,_,_,h,rfl,rfl,H14,H15,rfl,hS.sel [0,1]⟩ hlt
    · replace h:=h.2 hp2;exact zd hp2 (yax rfl (zs (zH H5 (zQ (.slice Aa Ab Ac) (zQ (ii 0) (yaa (yaG rfl rfl rfl ⟨_,_,_,_,_,rfl,hS.sel [0],h⟩)))))))
  · replace h:=h.2 hp;refine zf hp (zs (zM (ii r) (zQ (.slice none 0 0) (zQ (ii r) (yaa ?_)))));replace hS:=hS.nil 2 rfl (cL cI) 29;exact yaG rfl rfl rfl ⟨_,_,_,_,_,rfl,hS.sel [2],h⟩
def ydQ(R:Int→(List E3)→Prop):Prop :=
R 3 ([(0,1,1),(0,2,1),(1,2,1)])
theorem yiH{O:Nat→Prop}{w:World}{R:Int→(List E3)→Prop}(h:ydQ R)(hO:∀ k,O k→k<w.heap.size) :
    Calls Tryz.prog 53 #[] w fun e w'=>∃ r r2 Ar lr cr,e = .returned (.agg #[ii r,.slice Ar lr cr])∧Sep w no O w' (rl [Res.own c3 79 Ar lr cr r2])∧R r r2:=by
  unfold ydQ at h;have hS:Sep w no O w (rl []):=Sep.start w hO;refine yap (l:=[]) func53 rfl ntmps53 zY (zs (zn (yaO yao ?_)));intro g w2 hN;replace hS:=hS.neu 0 [ii 0,.slice none 0 0] hN;clear hN;refine zb (yaa (zs (zn (yck (l:=[(0,(ii 0)),(1,(ii 1)),(2,(ii 1))]) (cells:=[ii 0,ii 1,ii 1]) (places:=[(0,1),(1,1),(2,1)]) (bp3 rfl rfl rfl) underlying79 yaK (by kernel_rfl) rfl ?_))));refine zb (zn (yck (l:=[(0,(ii 0)),(1,(ii 2)),(2,(ii 1))]) (cells:=[ii 0,ii 2,ii 1]) (places:=[(0,1),(1,1),(2,1)]) (bp3 rfl rfl rfl) underlying79 yaK (by kernel_rfl) rfl ?_));refine zb (zn (yck (l:=[(0,(ii 1)),(1,(ii 2)),(2,(ii 1))]) (cells:=[ii 1,ii 2,ii 1]) (places:=[(0,1),(1,1),(2,1)]) (bp3 rfl rfl rfl) underlying79 yaK (by kernel_rfl) rfl ?_));refine zb (zn (yaX (l:=[(0,(.agg #[ii 0,ii 1,ii 1])),(1,(.agg #[ii 0,ii 2,ii 1])),(2,(.agg #[ii 1,ii 2,ii 1]))]) (cells:=[ii 0,ii 1,ii 1,ii 0,ii 2,ii 1,ii 1,ii 2,ii 1]) (bp3 rfl rfl rfl) underlying22 yaK rfl rfl ?_));intro g2 w3 hN;replace hS:=hS.litf (n:=3) 1 rfl (fP (fI .i64) (fP (fI .i64) (fI .i64))) hN ([(0,1,1),(0,2,1),(1,2,1)]:List E3) rfl (by decide) rfl;clear hN;refine zb (zn (yck (l:=[(0,(ii 3)),(1,(.slice (some ⟨g2,0,none⟩) 3 3))]) (cells:=[ii 3,(.slice (some ⟨g2,0,none⟩) 3 3)]) (places:=[(0,1),(1,1)]) (bp2 rfl rfl) underlying24 yao (by kernel_rfl) rfl ?_));refine zb (zo (yaV (b:=g) (o:=0) (cells:=#[ii 3,(.slice (some ⟨g2,0,none⟩) 3 3)]) rfl rfl yao rfl rfl (yaI (hS.bx 0 rfl) zY) ?_));intro w4 e1;replace hS:=hS.bstn 0 rfl 0 [ii 3,(.slice (some ⟨g2,0,none⟩) 3 3)] e1;clear e1;exact zb (yaa (yg1 rfl (rv_n (vs:=[ii 3,(.slice (some ⟨g2,0,none⟩) 3 3)]) rfl underlying24 rfl yao ⟨hS.bc 0 0,hS.bc 0 1,trivial⟩) ⟨_,_,_,_,_,rfl,hS.sel [1],h⟩))
def yeQ(g:Int)(g2:List E3)(set2:List Int)(R:Int→Prop):Prop :=
(∃ I2:Nat→Int→Prop,(∃ m0,I2 m0 0)∧∀ m2 i,I2 m2 i → 
((i<(set2.length:Int) →
((0≤i∧i<(set2.length:Int)) ∧
ycy g g2 (gi set2 i.toNat) (fun r =>
((r=true →
((0<i →
(In64 (i-1) ∧
((0≤(i-1)∧(i-1)<(set2.length:Int)) ∧
(((gi set2 i.toNat)≤(gi set2 (i-1).toNat) →
R 9) ∧
(¬((gi set2 i.toNat)≤(gi set2 (i-1).toNat)) →
(In64 (i+1) ∧
∃ m3,m3<m2∧I2 m3 (i+1))))))) ∧
(¬(0<i) →
(In64 (i+1) ∧
∃ m4,m4<m2∧I2 m4 (i+1))))) ∧
(¬(r=true) →
R 2))))) ∧
(¬(i<(set2.length:Int)) →
R 0)))
theorem yln{O:Nat→Prop}{w:World}{g g2 set2 Ag lg cg Aa Ab Ac}{R:Int→Prop}(h:yeQ g g2 set2 R)(hO:∀ k,O k→k<w.heap.size)(hA0:(FP.sl c3 Ag lg cg g2).P O w)(hA1:(FP.sl cI Aa Ab Ac set2).P O w) :
    Calls Tryz.prog 46 #[(.agg #[ii g,.slice Ag lg cg]),.slice Aa Ab Ac] w fun e w'=>∃ r2,e = .returned (ii r2)∧Sep w no O w' (rl [])∧R r2:=by
  unfold yeQ at h;have hS:Sep w no O w (rl [Res.ro (FP.sl c3 Ag lg cg g2),Res.ro (FP.sl cI Aa Ab Ac set2)]):=Sep.startl hO [(FP.sl c3 Ag lg cg g2),(FP.sl cI Aa Ab Ac set2)] ⟨hA0,hA1,trivial⟩;refine yap (l:=[(.agg #[ii g,.slice Ag lg cg]),.slice Aa Ab Ac]) func46 rfl ntmps46 zY (zs (zn (ya8 (v:=(.agg #[ii g,.slice Ag lg cg])) rfl ?_)));intro g3 w2 hN;replace hS:=hS.neu 2 [ii g,.slice Ag lg cg] hN;clear hN;refine zb (zQ (ii 0) (yaa (yaf (zs (zQ (ii 0) (yaa (yai ?_)))))));obtain ⟨I2,⟨m0,h0⟩,hr⟩:=h;refine yaz (fun m E ds w'=>∃ i,I2 m i∧ds=[]∧E 1 = .slice Aa Ab Ac∧E 2 = .pointer (some ⟨g3,0,none⟩)∧E 5=(ii i)∧Sep w no O w' (rl [Res.ro (FP.sl cI Aa Ab Ac set2),Res.box 24 g3 [ii g,.slice Ag lg cg],Res.ro (FP.sl c3 Ag lg cg g2)])) m0 ⟨_,h0,rfl,rfl,rfl,rfl,hS.sel [1,2,0]⟩ ?_;clear h0 hS;rintro m2 E ds w3 ⟨i,h,rfl,H1,H2,H5,hS⟩ ag;replace h:=hr m2 i h;clear hr;refine yaf (zs (zH H5 (zH H1 (zq (yaF (n:=set2.length) rfl underlying29 (yaE (hS.rdr 0 rfl))) (zq zL (yaa ?_))))));by_cases hp:i<(set2.length:Int)
  · replace h:=h.1 hp;refine zc hp (yag (yaf (yai (yaf (yaf (yaT [0,1,2,3,4,5,6] st0 yaD (by kernel_rfl) (by kernel_rfl) ?_))))));replace hS:=hS.drew;refine zp (yaq (vs:=[ii g,.slice Ag lg cg]) H2 underlying24 rfl yao ⟨hS.bc 1 0,hS.bc 1 1,trivial⟩) (zp (yad H1) (zp (yad H5) ?_));obtain ⟨hx,h⟩:=h;refine zp (zi underlying29 yaj (yaP (hS.rdr 0 rfl) hx)) (zp (yau (v:=(ii (gi set2 i.toNat))) rfl underlying3 rfl (rd_1 (hS.rdr 0 rfl) hx (fun q=>yaY q) rfl)) ?_);refine rp_n rfl rfl rfl rfl (yam rfl (am2 rfl rfl) enter_94 ((yfp h (yaB _) (hS.rdr 2 rfl)).mono ?_));rintro _ w4 ⟨r,rfl,hC,h⟩;replace hS:=hS.pur hC.pure;refine ⟨_,rfl,?_⟩;refine zb (zp (ycX rfl) (yaZ ?_));by_cases hp2:r=true
    · replace h:=h.1 hp2;refine yat (zC (zB hp2)) (yag (yaf (yaT [0,1,2,3,4,5,6,7,8,9,10,11,12,13] st0 yaD (by kernel_rfl) (by kernel_rfl) ?_)));replace hS:=hS.drew;refine zp (yad H5) (zp zG (zp (zm (.bool (decide (0<i)))) ?_));by_cases hp3:0<i
      · replace h:=h.1 hp3;refine rp_q (yae rfl (yac rfl (zT hp3))) rfl rfl (yad H1) (rp_q (yae rfl (yac rfl (zT hp3))) rfl rfl (yad H5) (rp_q (yae rfl (yac rfl (zT hp3))) rfl rfl (zi underlying29 yaj (yaP (hS.rdr 0 rfl) hx)) (rp_q (yae rfl (yac rfl (zT hp3))) rfl rfl (yau (v:=(ii (gi set2 i.toNat))) rfl underlying3 rfl (rd_1 (hS.rdr 0 rfl) hx (fun q=>yaY q) rfl)) ?_)));refine rp_q (yae rfl (yac rfl (zT hp3))) rfl rfl (yad H1) (rp_q (yae rfl (yac rfl (zT hp3))) rfl rfl (yad H5) ?_);obtain ⟨hi,h⟩:=h;refine rp_q (yae rfl (yac rfl (zT hp3))) rfl rfl (zS hi) ?_;obtain ⟨hx2,h⟩:=h;refine rp_q (yae rfl (yac rfl (zT hp3))) rfl rfl (zi underlying29 yaj (yaP (hS.rdr 0 rfl) hx2)) (rp_q (yae rfl (yac rfl (zT hp3))) rfl rfl (yau (v:=(ii (gi set2 (i-1).toNat))) rfl underlying3 rfl (rd_1 (hS.rdr 0 rfl) hx2 (fun q=>yaY q) rfl)) ?_);refine rp_q (yae rfl (yac rfl (zT hp3))) rfl rfl (yl1 rfl rfl) (zp (yas (v:=(.bool (decide ((gi set2 i.toNat)≤(gi set2 (i-1).toNat))))) (zT hp3) rfl) (yaZ ?_));by_cases hp4:(gi set2 i.toNat)≤(gi set2 (i-1).toNat)
        · replace h:=h.1 hp4;exact zc hp4 (zs (zQ (ii 9) (yaa (yak rfl rfl ⟨_,rfl,hS.sel [],h⟩))))
        · replace h:=h.2 hp4;refine zd hp4 (yag (yah (zr (zH H5 ?_))));obtain ⟨hi2,h⟩:=h;refine zq (zA hi2) (zQ (ii (i+1)) (yaa ?_));obtain ⟨mq,hlt,h⟩:=h;exact ag mq _ _ _ ⟨_,h,rfl,H1,H2,rfl,hS.sel [0,1,2]⟩ hlt
      · replace h:=h.2 hp3;refine rp_p (yab rfl (yac rfl (zF hp3)) rfl) rfl (rp_p (yab rfl (yac rfl (zF hp3)) rfl) rfl (rp_p (yab rfl (yac rfl (zF hp3)) rfl) rfl (rp_p (yab rfl (yac rfl (zF hp3)) rfl) rfl (rp_p (yab rfl (yac rfl (zF hp3)) rfl) rfl (rp_p (yab rfl (yac rfl (zF hp3)) rfl) rfl (rp_p (yab rfl (yac rfl (zF hp3)) rfl) rfl (rp_p (yab rfl (yac rfl (zF hp3)) rfl) rfl (rp_p (yab rfl (yac rfl (zF hp3)) rfl) rfl (rp_p (yab rfl (yac rfl (zF hp3)) rfl) rfl (zp (yal (v:=(.bool (false))) (zF hp3) rfl) (yaZ (yat rfl (yag (yah (zr (zH H5 ?_))))))))))))))));obtain ⟨hi3,h⟩:=h;refine zq (zA hi3) (zQ (ii (i+1)) (yaa ?_));obtain ⟨mq,hlt,h⟩:=h;exact ag mq _ _ _ ⟨_,h,rfl,H1,H2,rfl,hS.sel [0,1,2]⟩ hlt
    · replace h:=h.2 hp2;exact yar (zC (zB (zI hp2))) (zs (zQ (ii 2) (yaa (yak rfl rfl ⟨_,rfl,hS.sel [],h⟩))))
  · replace h:=h.2 hp;exact zd hp (yax rfl (zs (zQ (ii 0) (yaa (yak rfl rfl ⟨_,rfl,hS.sel [],h⟩)))))
end Go.Proofs.YtadpnlimiblniaaGreat

namespace Go.Proofs.YtadpnlimiblniaaGreat
open Go Go.RowKit Go.Shelf Go.Proofs.Tryz
set_option maxRecDepth 100000
theorem tab_r08_Table{O:Nat→Prop}{w:World}{n:Int}(hn:0≤n∧n≤1000)(hO:∀ k,O k→k<w.heap.size) :
    Calls Tryz.prog 148 #[(Value.int .i64 n)] w fun e w'=>∃ Ar:Option Addr,∃ lr:Nat,∃ cr:Nat,∃ Gr:List Nat,e = .returned (Value.slice Ar lr cr)∧Sep w no O w' (rl [Res.own cA 29 Ar lr cr (ows Gr (List.replicate n.toNat (List.replicate n.toNat (0:Int)))),Res.rows 3 Gr (List.replicate n.toNat (List.replicate n.toNat (0:Int)))]):=by
  have hS:Sep w no O w (rl []):=Sep.start w hO
  refine yap (l:=[(Value.int .i64 n)]) func148 rfl ntmps148 (Nat.le_of_ble_eq_true rfl) ?_
  refine yaf ?_
  refine yay yaD ?_
  refine rl_q rfl rfl rfl (ybI (v:=(Value.slice none 0 0)) rfl) ?_
  refine yaa ?_
  refine yaf ?_
  refine yay yaD ?_
  refine rl_q rfl rfl rfl (ybI (v:=(Value.slice none 0 0)) rfl) ?_
  refine yaa ?_
  refine yaf ?_
  refine yaf ?_
  refine yay yaD ?_
  refine rl_q rfl rfl rfl (ybI (v:=(Value.int .i64 0)) rfl) ?_
  refine yaa ?_
  refine yai ?_
  replace hS:=hS.tabnil 0 1 rfl rfl rfl 29 3
  refine yaz (fun m E ds w'=>∃ k:Nat,∃ Aout:Option Addr,∃ lout:Nat,∃ cout:Nat,∃ G:List Nat,k+m=n.toNat∧ds=[]∧E 0=(Value.int .i64 n)∧E 3=(Value.slice Aout lout cout)∧E 4=(Value.int .i64 (k:Int))∧Sep w no O w' (rl [Res.own cA 29 Aout lout cout (ows G (List.replicate k (List.replicate n.toNat (0:Int)))),Res.rows 3 G (List.replicate k (List.replicate n.toNat (0:Int)))])) n.toNat ⟨0,_,_,_,[],by omega,rfl,rfl,rfl,rfl,(hS.sel [0,1] (by decide))⟩ ?_
  clear hS
  rintro m2 E ds w2 ⟨k,Aout,lout,cout,G,h,rfl,hE0,hE3,hE4,hS⟩ again
  refine yaf ?_
  refine yaf ?_
  refine yay yaD ?_
  refine rl_q rfl rfl rfl (yad (v:=(Value.int .i64 (k:Int))) hE4) ?_
  refine rl_q rfl rfl rfl (yad (v:=(Value.int .i64 n)) hE0) ?_
  refine rl_q rfl rfl rfl (ydj rfl rfl) ?_
  refine yaa ?_
  by_cases hp:(k:Int)<n
  · have h:=h
    refine yar (congrArg Value.bool (decide_eq_true hp)) ?_
    refine yag ?_
    refine yaf ?_
    refine yai ?_
    refine yay yaD ?_
    refine rl_q rfl rfl rfl (yad (v:=(Value.slice Aout lout cout)) hE3) ?_
    refine rl_q rfl rfl rfl (yad (v:=(Value.int .i64 n)) hE0) ?_
    refine rl_n rfl rfl rfl rfl (ykw rfl rfl underlying29 yaj (by decide) rfl (by omega) ?_)
    intro g w3 hN
    replace hS:=hS.made 2 rfl cI (Value.int .i64 0) (0:Int) (fun _ _=>rfl) hN (by omega)
    clear hN
    refine ⟨Stb.none _,?_⟩
    refine rl_n rfl rfl rfl rfl (yaX (l:=[(0,(Value.slice (some ⟨g,0,none⟩) n.toNat n.toNat))]) (cells:=[(Value.slice (some ⟨g,0,none⟩) n.toNat n.toNat)]) (bp1 rfl) underlying25 yaL rfl rfl ?_)
    intro g2 w4 hN
    replace hS:=hS.litf (n:=1) 3 rfl fA hN ([((some ⟨g,0,none⟩:Option Addr),n.toNat,n.toNat)]) rfl (by decide) rfl
    clear hN
    refine ⟨Stb.none _,?_⟩
    refine rl_n rfl rfl rfl rfl (ygp (c:=cA) rfl rfl underlying25 underlying25 yaL rfl rfl (by decide) hS 0 rfl (hS.yo 3 rfl) (by rw [ows_len (hS.rowsl 1 rfl)];simp;omega) ?_)
    clear hS
    intro A c w5 hS
    replace hS:=hS.rowpush 1 0 2 rfl rfl rfl rfl rfl rfl
    rw [←List.replicate_succ'] at hS
    refine ⟨Stb.none _,?_⟩
    refine rl_q rfl rfl rfl (ybI (v:=(Value.slice A (lout+1) c)) rfl) ?_
    refine yaa ?_
    refine yah ?_
    refine yay yaD ?_
    refine rl_q rfl rfl rfl (yad (v:=(Value.int .i64 (k:Int))) hE4) ?_
    refine rl_q rfl rfl rfl (ybS rfl rfl (show In64 ((k:Int)+1) from ⟨by omega,by omega⟩)) ?_
    refine rl_q rfl rfl rfl (ybI (v:=(Value.int .i64 ((k:Int)+1))) rfl) ?_
    refine yaa ?_
    exact again (m2-1) _ _ _ ⟨k+1,_,_,_,_,by omega,rfl,hE0,rfl,by simp [upd],(hS.sel [0,1] (by decide))⟩ (by omega)
  · have h:=h
    refine yat (congrArg Value.bool (decide_eq_false hp)) ?_
    refine yax rfl ?_
    refine yaf ?_
    refine yay yaD ?_
    refine rl_q rfl rfl rfl (yad (v:=(Value.slice Aout lout cout)) hE3) ?_
    refine rl_q rfl rfl rfl (ybI (v:=(Value.slice Aout lout cout)) rfl) ?_
    refine yaa ?_
    have hk:k=n.toNat:=by omega
    subst hk
    exact yak rfl rfl ⟨_,_,_,_,rfl,(hS.sel [0,1] (by decide))⟩
end Go.Proofs.YtadpnlimiblniaaGreat
