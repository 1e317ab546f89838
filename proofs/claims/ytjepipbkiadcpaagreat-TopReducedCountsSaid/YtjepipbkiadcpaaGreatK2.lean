/- Texts laid together: Slices, Forest, Links, Joins, Begin, Burn, Use, Sb, Sc, Rep, Bfs, Dist, Fire2, Settle, Lend. -/
import Derived.Laws.OwnMore
import Derived.Deep.Draws
import Derived.RangeFuncNested
import Derived.RangeFuncBound
import Derived.RangeFuncCalls
import Derived.RangeFuncLeaves
import Derived.RangeFuncFrom
import Derived.Shelf.Abstract
import Derived.Shelf.RegionOpen
import Derived.OwnWalkIn
import Derived.TacticsInMore
import Derived.LoopNIn
import Derived.LoopIn
import Derived.Deep.RegionHeld3
import Derived.Deep.RegionWith
import Derived.Deep.LoopGhost
import Derived.Test.YtjepipbkiadcpaaGreatK1
set_option linter.unusedVariables false
set_option linter.unusedSimpArgs false
set_option linter.unusedSectionVars false
/- The walks of the functions of package slices that the program uses, at slices of ints. -/
namespace Go.Proofs.YtjepipbkiadcpaaGreat
open Go.RowKit Go.Proofs.Tryz
set_option maxRecDepth 100000
set_option maxHeartbeats 400000
theorem own_row{w:World}{B e n:Nat}{v:Value}{xs:List Value}(h:w.ownsRow B e 1 v n xs)(hn:0<n):∃ g cap,v = .slice (some ⟨g,0,none⟩) n cap∧B≤g∧Row w g e cap xs∧n≤cap∧cap≤maxLen:=by
  rcases h.2 with ⟨_,h0⟩ | ⟨g,cap,cur,hv,hb,hg,hnc,hcm,hcs,htake⟩
  · omega
  · refine ⟨g,cap,hv,hb,⟨cur,hg,by omega,?_⟩,hnc,hcm⟩
    have:=h.1
    rw [show xs.length=n*1 by omega]
    exact htake
theorem ints_news{w:World}{b off:Nat}{xs:List Int}(h:∀ k,k<xs.length→w.cell? ⟨b,off+k,none⟩=some (.int .i64 (gi xs k))):∀ j u,(xs.map (Value.int .i64))[j]? = some u→w.cell? ((⟨b,off,none⟩:Addr).add j)=some u:=by
  intro j u hu
  have hj:j<xs.length:=by
    rcases Nat.lt_or_ge j xs.length with h1 | h1
    · exact h1
    · rw [List.getElem?_eq_none (by simpa using h1)] at hu;cases hu
  rw [List.getElem?_map,List.getElem?_eq_getElem hj] at hu
  have hadd:(⟨b,off,none⟩:Addr).add j=⟨b,off+j,none⟩:=by unfold Addr.add;split <;> simp_all
  rw [hadd,h j hj,ybk hj]
  exact hu
theorem ints_one(xs:List Int):∀ u∈xs.map (Value.int .i64),u.oneCell'=true:=by
  intro u hu
  simp at hu
  obtain ⟨a,_,rfl⟩:=hu
  rfl
theorem clone_any(A:Option Addr)(d:List Int)(ca:Nat)(w:World)(hd:Ints w A d)(h0:0<d.length)(hl:d.length≤1000000000) :
    Calls Tryz.prog 76 #[.slice A d.length ca] w fun e w' =>
      ∃ g cap,e = .returned (.slice (some ⟨g,0,none⟩) d.length cap)∧w.heap.size≤g∧IRow w' g 3 cap d∧Pure w w'∧cap≤maxLen:=by
  obtain ⟨i0,hi,hz0,hz1,hz2⟩:=info_parts int_info
  obtain ⟨b,off,rfl,hb,hc⟩:=hd h0
  have HC:=Lib.hid hc
  clear hd hc
  have hnil:∀ wx,(binOp .eql 34 (.slice (some ⟨b,off,none⟩) d.length ca) (.slice none 0 0)).run Tryz.prog wx = .ok (.bool false) wx:=fun wx=>Lib.run_eql_slice_nil (P:=Tryz.prog) wx 34 3 (some ⟨b,off,none⟩) d.length ca 0 0 underlying34
  have hown0:(w.alloc (.cells #[] 3)).ownsRow w.heap.size 3 1 (.slice (some ⟨w.heap.size,0,none⟩) 0 0) 0 []:=World.ownsRow_made w #[] 0 (Nat.le_refl _) (by unfold maxLen;omega) rfl
  have hnews:=ints_news (w:=w.alloc (.cells #[] 3)) (b:=b) (off:=off) (xs:=d) (fun k hk=>((Keeps.refl (fun _=>False) w).alloc _).cell id (HC.out k hk))
  have HN:=Lib.hid hnews
  clear hnews
  go_enter func76,ntmps76
  go_wp2_with (at_builtin;refine wpList_append_own _ rfl _ _ 34 rfl w.heap.size 3 i0 (.int .i64 0) 1 8 underlying34 hi hz0 hz1 hz2 rfl (by decide) _ _ _ rfl hown0 ⟨b,off,none⟩ d.length ca (d.map (Value.int .i64)) rfl (by simp) HN.out (ints_one d) (by unfold maxLen;omega) (by omega) (by simp) ?_;intro v2 w2 hown2 hgrow2 _)
  obtain ⟨g,cap,hv,hg,hr,q1,q2⟩:=own_row hown2 (by omega)
  rw [hv]
  go_wp2
  go_ret
  refine ⟨g,cap,yc1 (by simp),hg,by simpa [IRow] using hr,Keeps.grown (by repeat (first | exact Keeps.refl _ _ | assumption | refine Keeps.drew ?_ | refine Keeps.drewN ?_ _ | refine Keeps.alloc ?_ _ | refine Keeps.setRow ?_ (by simp) _ | refine Keeps.setRow ?_ (by simp;omega) _ | refine Keeps.setCell ?_ (by simp) _ | refine Keeps.setCell ?_ (by simp;omega) _)) hgrow2 (fun j e hj=>?_),by first | exact q1 | exact q2⟩
  cases e
  exact absurd hj (by simp)
end Go.Proofs.YtjepipbkiadcpaaGreat

/- Forests that join vertices, in plain Lean: each vertex has one of its part that is not greater. -/
namespace Go.Proofs.YtjepipbkiadcpaaGreat
open Go.RowKit Go.Proofs.Tryz
def gn(l:List Nat)(k:Nat):Nat:=l.getD k 0
theorem gn_of_lt{l:List Nat}{k:Nat}(h:k<l.length):gn l k=l[k]:=by simp [gn,h]
theorem gn_set{l:List Nat}{k j:Nat}{x:Nat}(h:k<l.length):gn (l.set k x) j=if j=k then x else gn l j:=by
  unfold gn
  simp only [List.getD_eq_getElem?_getD,List.getElem?_set]
  by_cases e:j=k
  · subst e;simp [h]
  · rw [if_neg (by omega),if_neg e]
abbrev NRow(w:World)(g:Nat)(e:TypeId)(size:Nat)(xs:List Nat):Prop:=Row w g e size (xs.map fun (n:Nat)=>Value.int .i64 (Int.ofNat n))
section
variable {w : World} {g : Nat} {e : TypeId} {size : Nat}
theorem ncell{xs:List Nat}(h:NRow w g e size xs){k:Nat}(hk:k<xs.length):w.cell? ⟨g,k,none⟩=some (.int .i64 (Int.ofNat (gn xs k))) :=
  Row.cell h (by rw [List.getElem?_map,List.getElem?_eq_getElem hk,gn_of_lt hk];rfl)
theorem nset{xs:List Nat}(h:NRow w g e size xs)(k:Nat)(v:Nat):NRow (w.setCell ⟨g,k,none⟩ (.int .i64 (Int.ofNat v))) g e size (xs.set k v):=by
  have:=Row.set_ h k (.int .i64 (Int.ofNat v))
  unfold NRow;rwa [List.map_set]
end
def yeb(xs:List Nat):List Value:=xs.map fun (n:Nat)=>Value.int .i64 (Int.ofNat n)
theorem yeD(xs:List Nat):(yeb xs).length=xs.length:=by simp [yeb]
theorem nvals_one(xs:List Nat):∀ v∈(yeb xs).toArray.toList,v.oneCell'=true:=by
  intro v hv
  simp [yeb] at hv
  obtain ⟨a,_,rfl⟩:=hv
  rfl
theorem NRow.full{w:World}{g:Nat}{e:TypeId}{xs:List Nat}(h:NRow w g e xs.length xs):w.heap[g]? = some (.cells (yeb xs).toArray e (0,0)):=by
  have h':Row w g e (yeb xs).length (yeb xs):=by rw [yeD];exact h
  exact Row.full h'
def ydG(F:List Nat):Prop:=F.length=12∧∀ v,v<12→gn F v≤v
def yeg(F:List Nat):Nat→Nat→Nat
  | 0,v=>v
  | k+1,v=>if gn F v=v then v else yeg F k (gn F v)
def root(F:List Nat)(v:Nat):Nat:=yeg F v v
theorem rootFuel_more{F:List Nat}(h:ydG F):∀ (k v j:Nat),v<12→v≤k→v≤j→yeg F k v=yeg F j v:=by
  intro k
  induction k using Nat.strongRecOn with
  | _ k ih =>
    intro v j hv hk hj
    have hle:=h.2 v hv
    cases k with
    | zero =>
      obtain rfl:v=0:=by omega
      have h0:gn F 0=0:=by omega
      cases j with
      | zero=>rfl
      | succ j=>simp [yeg,h0]
    | succ k =>
      cases j with
      | zero =>
        obtain rfl:v=0:=by omega
        have h0:gn F 0=0:=by omega
        simp [yeg,h0]
      | succ j =>
        simp only [yeg]
        split
        · rfl
        · exact ih k (by omega) _ j (by omega) (by omega) (by omega)
theorem ydk{F:List Nat}{v:Nat}(h:gn F v=v):root F v=v:=by
  unfold root
  cases v with
  | zero=>rfl
  | succ v=>simp [yeg,h]
theorem yfT{F:List Nat}(h:ydG F){v:Nat}(hv:v<12)(hne:gn F v≠v):root F v=root F (gn F v):=by
  have hle:=h.2 v hv
  unfold root
  cases v with
  | zero=>omega
  | succ v =>
    simp only [yeg]
    rw [if_neg hne]
    exact rootFuel_more h _ _ _ (by omega) (by omega) (Nat.le_refl _)
theorem yeQ{F:List Nat}(h:ydG F):∀ v,v<12→root F v≤v∧gn F (root F v)=root F v:=by
  intro v
  induction v using Nat.strongRecOn with
  | _ v ih =>
    intro hv
    by_cases he:gn F v=v
    · rw [ydk he];exact ⟨Nat.le_refl _,he⟩
    · have hle:=h.2 v hv
      rw [yfT h hv he]
      have:=ih (gn F v) (by omega) (by omega)
      exact ⟨by omega,this.2⟩
theorem yis{F:List Nat}(h:ydG F){v:Nat}(hv:v<12):root F (root F v)=root F v:=ydk (yeQ h v hv).2
def ydL(F:List Nat)(a b:Nat):List Nat:=F.set (max (root F a) (root F b)) (min (root F a) (root F b))
theorem yeG{F:List Nat}(h:ydG F){a b:Nat}(ha:a<12)(hb:b<12):ydG (ydL F a b):=by
  have h1:=yeQ h a ha
  have h2:=yeQ h b hb
  refine ⟨by simp [ydL,h.1],fun v hv=>?_⟩
  unfold ydL
  rw [gn_set (by rw [h.1];omega)]
  split
  · omega
  · exact h.2 v hv
theorem root_joinN{F:List Nat}(h:ydG F){a b:Nat}(ha:a<12)(hb:b<12):∀ v,v<12 →
    root (ydL F a b) v=if root F v=max (root F a) (root F b) then min (root F a) (root F b) else root F v:=by
  have h1:=yeQ h a ha
  have h2:=yeQ h b hb
  have hJ:=yeG h ha hb
  have hg:∀ j,gn (ydL F a b) j=if j=max (root F a) (root F b) then min (root F a) (root F b) else gn F j:=fun j=>by
    unfold ydL;exact gn_set (by rw [h.1];omega)
  have hmin:root (ydL F a b) (min (root F a) (root F b))=min (root F a) (root F b):=by
    apply ydk
    rw [hg]
    split
    · rfl
    · rcases Nat.le_total (root F a) (root F b) with hl | hl
      · rw [Nat.min_eq_left hl];exact h1.2
      · rw [Nat.min_eq_right hl];exact h2.2
  intro v
  induction v using Nat.strongRecOn with
  | _ v ih =>
    intro hv
    by_cases hM:v=max (root F a) (root F b)
    · have hrv:root F v=v:=by
        apply ydk
        rw [hM]
        rcases Nat.le_total (root F a) (root F b) with hl | hl
        · rw [Nat.max_eq_right hl];exact h2.2
        · rw [Nat.max_eq_left hl];exact h1.2
      rw [hrv,if_pos hM]
      by_cases he:gn (ydL F a b) v=v
      · rw [ydk he]
        rw [hg,if_pos hM] at he
        exact he.symm
      · rw [yfT hJ hv he,hg,if_pos hM,hmin]
    · by_cases he:gn F v=v
      · have he':gn (ydL F a b) v=v:=by rw [hg,if_neg hM];exact he
        rw [ydk he',ydk he,if_neg hM]
      · have he':gn (ydL F a b) v≠v:=by rw [hg,if_neg hM];exact he
        have hle:=h.2 v hv
        rw [yfT hJ hv he',yfT h hv he,hg,if_neg hM]
        exact ih _ (by omega) (by omega)
def yfr:List Nat:=List.range 12
theorem ye9:ydG yfr:=⟨rfl,fun v hv=>by rw [gn_of_lt (by simpa [yfr] using hv)];simp [yfr]⟩
def yay(es:List E3):List Nat:=es.foldl (fun F x=>ydL F x.1.toNat x.2.1.toNat) yfr
def yaJ(F:List Nat):Nat→Nat
  | 0=>0
  | n+1=>yaJ F n+if root F n=n then 1 else 0
def ydz(es:List E3):Prop:=∀ x,x∈es→0≤x.1∧x.1<12∧0≤x.2.1∧x.2.1<12
theorem ycI(es:List E3)(h:ydz es):ydG (yay es):=by
  unfold yay
  suffices H:∀ (l:List E3) (F:List Nat),(∀ x,x∈l→0≤x.1∧x.1<12∧0≤x.2.1∧x.2.1<12)→ydG F→ydG (l.foldl (fun F x=>ydL F x.1.toNat x.2.1.toNat) F) from H es _ h ye9
  intro l
  induction l with
  | nil=>exact fun F _ h=>h
  | cons x l ih =>
    intro F hl hF
    have hx:=hl x (by simp)
    exact ih _ (fun y hy=>hl y (by simp [hy])) (yeG hF (by omega) (by omega))
theorem joinedF_take(es:List E3){k:Nat}(hk:k<es.length):yay (es.take (k+1))=ydL (yay (es.take k)) (ge es k).1.toNat (ge es k).2.1.toNat:=by
  unfold yay
  rw [List.take_add_one,List.getElem?_eq_getElem hk,List.foldl_append,yed hk]
  rfl
theorem ydz.take{es:List E3}(h:ydz es)(k:Nat):ydz (es.take k):=fun x hx=>h x (List.mem_of_mem_take hx)
end Go.Proofs.YtjepipbkiadcpaaGreat

/- The iterator over the single edges at a vertex, and the loop that adds up what a property picks. -/
namespace Go.Proofs.YtjepipbkiadcpaaGreat
open Go.RowKit Go.Shelf Go.Proofs.Tryz
attribute [local go_sem] Oper.semAt_some
set_option maxRecDepth 100000
set_option maxHeartbeats 8000000
def link(v:Int)(x:E3):Option (Int×Int):=if x.1≠x.2.1∧(x.1=v∨x.2.1=v) then some (x.1+x.2.1-v,x.2.2) else none
def ycr(es:List E3)(v:Int):List (Int×Int):=es.filterMap (link v)
theorem linksF_take{es:List E3}{v:Int}{k:Nat}(hk:k<es.length):ycr (es.take (k+1)) v=ycr (es.take k) v++(link v (ge es k)).toList:=by
  unfold ycr
  rw [List.take_add_one,List.getElem?_eq_getElem hk,List.filterMap_append,yed hk]
  congr 1
def KB(K:Nat→Prop)(W W':World):Prop:=∀ k,K k→W'.heap[k]? = W.heap[k]?
theorem KB.refl(K:Nat→Prop)(W:World):KB K W W:=fun _ _=>rfl
theorem KB.trans{K:Nat→Prop}{A B C:World}(h:KB K A B)(k:KB K B C):KB K A C:=fun i hi=>(k i hi).trans (h i hi)
theorem KB.alloc{K:Nat→Prop}{A W:World}(h:KB K A W)(hK:∀ k,K k→k<A.heap.size)(o:Obj):KB K A (W.alloc o):=fun i hi=>by
  have h1:=h i hi
  rw [Array.getElem?_eq_getElem (hK i hi)] at h1
  rw [Below.heap_alloc W o i (Array.getElem?_eq_some_iff.1 h1).1]
  exact h i hi
theorem KB.cell{K:Nat→Prop}{W W':World}(h:KB K W W'){p:Addr}(hp:K p.block){v:Value}(hc:W.cell? p=some v):W'.cell? p=some v:=by
  rw [World.cell?_of_block (w:=W) (h p.block hp)];exact hc
theorem KB.put{K:Nat→Prop}{w:World}(hK:∀ k,K k→k<w.heap.size)(W:World)(l:Nat)(o o':Obj)(hl:w.heap.size≤l)(_:W.heap[l]? = some o)(_:o.isCells=false)(_:o.isWalk=false):KB K W (W.putObj l o') :=
  fun k hk=>by
    have h1:=hK k hk
    exact World.putObj_heap_other (by omega)
abbrev yhr(es:List E3)(v:Int):={ p:Int×Int // ∃ x∈es,link v x=some p }
abbrev encL(es:List E3)(v:Int)(p:yhr es v):Array Value:=#[.int .i64 p.1.1, .int .i64 p.1.2]
theorem link_snoc{es:List E3}{v:Int}{pre:List (yhr es v)}{L:List (Int×Int)}(hp:pre.map (·.1)=L)(x:yhr es v){e:E3}(h:link v e=some x.1):(pre++[x]).map (·.1)=L++(link v e).toList:=by
  have:(link v e).toList=[x.1]:=by rw [h];rfl
  rw [this,List.map_append,hp];rfl
theorem links_in(n:Nat)(hn:1≤n)(l bx bv b off X:Nat)(W:World)(es:List E3)(cap:Nat)(v:Int)(A:Option Addr)(hA:0<es.length→A=some ⟨b,off,none⟩)(K:Nat→Prop)(hKv:K bv)(hKb:0<es.length→K b)(hKlt:∀ k,K k→k<W.heap.size)
    (hE:ydz es) (hv0:0≤v) (hv:v<12) (hlen:es.length≤1000000000)
    (J Jx:List (yhr es v)→World→Prop) (hJ:AbidesFrom W.heap.size J)
    (hY:∀ pre x W1,J pre W1→pre.length<es.length→YieldAt Fence.wide (n-1) Tryz.prog l (encL es v x) W1 fun e W' =>
      (e = .returned (.bool true)∧J (pre++[x]) W'∧KB K W1 W')∨(e = .returned (.bool false)∧Jx (pre++[x]) W'))
    (h0:J [] W) (hx:W.cell? ⟨bx,0,none⟩=some (.pointer (some ⟨X,0,none⟩))) (hbv:W.cell? ⟨bv,0,none⟩=some (.int .i64 v))
    (hX:W.cell? ⟨X,1,none⟩=some (.slice A es.length cap))
    (hes:∀ k,k<es.length→W.cell? ⟨b,off+k*3,none⟩=some (.int .i64 (ge es k).1)∧W.cell? ⟨b,off+k*3+1,none⟩=some (.int .i64 (ge es k).2.1)∧W.cell? ⟨b,off+k*3+2,none⟩=some (.int .i64 (ge es k).2.2)) :
    CallsIn Fence.wide n Tryz.prog 199 #[.func (.yield l) #[] #[], .pointer (some ⟨bx,0,none⟩), .pointer (some ⟨bv,0,none⟩)] W fun e W'=>(∃ v,e = .returned v) ∧
      ((∃ xs,(xs.map (·.1))=ycr es v∧J xs W')∨(∃ pre,True∧Jx pre W')):=by
  have HES:=Lib.hid hes
  have HA:=Lib.hid hA
  have HEE:=Lib.hid hE
  have HJ:=Lib.hid hJ
  have HYY:=Lib.hid hY
  clear hes hE hJ hY hA
  refine callsIn_of_wp func199 rfl trivial ?_ rfl
  simp only [ntmps199,List.size_toArray,List.length_cons,List.length_nil,Nat.reduceAdd,Nat.reduceSub,Array.replicate_succ,Array.replicate_zero,List.push_toArray,List.append_toArray,List.nil_append,List.cons_append]
  gi_wp2
  gi_loopw [13] (fun i wr=>∃ (k:Nat) (pre:List (yhr es v)),k≤es.length∧i = .int .i64 k∧Hid (pre.map (·.1)=ycr (es.take k) v)∧Hid (pre.length≤k)∧J pre wr∧KB K W wr) (fun i _=>es.length-(intOf i).toNat)
  case atStart=>exact ⟨0,[],Nat.zero_le _,rfl,rfl,Nat.le_refl _,h0,KB.refl _ _⟩
  case round =>
    obtain ⟨k,pre,hk,rfl,hpre,hpl,hJs,hkb⟩:=hrel
    by_cases hlt:k<es.length
    · obtain rfl:A=some ⟨b,off,none⟩:=HA.out (by omega)
      obtain ⟨e0,e1,e2⟩:=HES.out k hlt
      have hKb':=hKb (by omega)
      have c0:=hkb.cell (p:=⟨b,off+k*3,none⟩) hKb' e0
      have c1:=hkb.cell (p:=⟨b,off+k*3+1,none⟩) hKb' e1
      have c2:=hkb.cell (p:=⟨b,off+k*3+2,none⟩) hKb' e2
      have cv:=hkb.cell (p:=⟨bv,0,none⟩) hKv hbv
      clear e0 e1 e2
      obtain ⟨x1,x2,x3,x4⟩:=HEE.out _ (ge_mem hlt)
      have lb1:=block_lt_of_cell c0
      have lb2:=block_lt_of_cell cv
      have hmem:=ge_mem hlt
      have htk:=linksF_take (es:=es) (v:=v) hlt
      have HTK:=Lib.hid htk
      have HMEM:=Lib.hid hmem
      clear htk hmem
      obtain ⟨A,hA'⟩:∃ A,A=(ge es k).1:=⟨_,rfl⟩
      obtain ⟨B,hB⟩:∃ B,B=(ge es k).2.1:=⟨_,rfl⟩
      obtain ⟨M,hM⟩:∃ M,M=(ge es k).2.2:=⟨_,rfl⟩
      have HGE:Hid (ge es k=(A,B,M)):=by rw [Hid,hA',hB,hM]
      rw [←hA'] at c0 x1 x2
      rw [←hB] at c1 x3 x4
      rw [←hM] at c2
      clear hA' hB hM
      have hJa:=HJ.out pre wr (wr.alloc (.cells #[.int .i64 A, .int .i64 B, .int .i64 M] 67)) none hJs (World.grownBy_alloc wr _ none) (fun r e=>by cases e)
      have hka:KB K W (wr.alloc (.cells #[.int .i64 A, .int .i64 B, .int .i64 M] 67)):=hkb.alloc hKlt _
      by_cases hab:A=B
      · have b1:=neF hab
        have HN:Hid (link v (ge es k)=none):=by rw [Hid,HGE.out];unfold link;rw [if_neg (by simp [hab])]
        clear hab
        gi_wp2
        refine ⟨fun _ h=>(by cases h),?_⟩
        gi_wp2
        go_roundw
        case rel=>exact ⟨k+1,pre,by omega,by go_num,by rw [Hid,HTK.out,HN.out];simp;exact hpre.out,Nat.le_succ_of_le hpl.out,hJa,hka⟩
        case measure=>simp [intOf];omega
      · have b1:=neT hab
        by_cases hav:A=v
        · have b2:=eqT hav
          have HC:Hid ((A,B,M).1≠(A,B,M).2.1∧((A,B,M).1=v∨(A,B,M).2.1=v)):=⟨hab, .inl hav⟩
          clear hab hav
          have hl:link v (A,B,M)=some (A+B-v,M):=by unfold link;rw [if_pos];exact HC.out
          have HN:Hid (link v (ge es k)=some (A+B-v,M)):=by rw [Hid,HGE.out];exact hl
          clear hl
          obtain ⟨fn,tmps,assign,body,hy,hR⟩:=HYY.out pre ⟨(A+B-v,M),ge es k,HMEM.out,HN.out⟩ (wr.alloc (.cells #[.int .i64 A, .int .i64 B, .int .i64 M] 67)) hJa (by have:=hpl.out;omega)
          dsimp only [encL] at hy
          gi_wp2
          refine hR.mono ?_
          rintro e W3 (⟨rfl,hJ3,hk3⟩ | ⟨rfl,hJx3⟩)
          · gi_wp2
            go_roundw
            case rel=>exact ⟨k+1,_,by omega,by go_num,by rw [Hid,HTK.out];exact link_snoc hpre.out _ HN.out,by rw [Hid,List.length_append];exact Nat.succ_le_succ hpl.out,hJ3,hka.trans hk3⟩
            case measure=>simp [intOf];omega
          · gi_wp2
            refine bodyPost_ret (results_none rfl _ _ _) rfl ?_
            exact ⟨⟨_,rfl⟩, .inr ⟨_,trivial,hJx3⟩⟩
        · have b2:=eqF hav
          by_cases hbv':B=v
          · have b3:=eqT hbv'
            have HC:Hid ((A,B,M).1≠(A,B,M).2.1∧((A,B,M).1=v∨(A,B,M).2.1=v)):=⟨hab, .inr hbv'⟩
            clear hab hav hbv'
            have hl:link v (A,B,M)=some (A+B-v,M):=by unfold link;rw [if_pos];exact HC.out
            have HN:Hid (link v (ge es k)=some (A+B-v,M)):=by rw [Hid,HGE.out];exact hl
            clear hl
            obtain ⟨fn,tmps,assign,body,hy,hR⟩:=HYY.out pre ⟨(A+B-v,M),ge es k,HMEM.out,HN.out⟩ (wr.alloc (.cells #[.int .i64 A, .int .i64 B, .int .i64 M] 67)) hJa (by have:=hpl.out;omega)
            dsimp only [encL] at hy
            gi_wp2
            refine hR.mono ?_
            rintro e W3 (⟨rfl,hJ3,hk3⟩ | ⟨rfl,hJx3⟩)
            · gi_wp2
              go_roundw
              case rel=>exact ⟨k+1,_,by omega,by go_num,by rw [Hid,HTK.out];exact link_snoc hpre.out _ HN.out,by rw [Hid,List.length_append];exact Nat.succ_le_succ hpl.out,hJ3,hka.trans hk3⟩
              case measure=>simp [intOf];omega
            · gi_wp2
              refine bodyPost_ret (results_none rfl _ _ _) rfl ?_
              exact ⟨⟨_,rfl⟩, .inr ⟨_,trivial,hJx3⟩⟩
          · have b3:=eqF hbv'
            have HN:Hid (link v (ge es k)=none):=by rw [Hid,HGE.out];unfold link;rw [if_neg (by simp [hav,hbv'])]
            clear hab hav hbv'
            gi_wp2
            refine ⟨fun _ h=>(by cases h),?_⟩
            gi_wp2
            go_roundw
            case rel=>exact ⟨k+1,pre,by omega,by go_num,by rw [Hid,HTK.out,HN.out];simp;exact hpre.out,Nat.le_succ_of_le hpl.out,hJa,hka⟩
            case measure=>simp [intOf];omega
    · gi_wp2
      go_end0
      obtain rfl:k=es.length:=by omega
      exact ⟨⟨_,rfl⟩, .inl ⟨pre,by rw [hpre.out,List.take_length],hJs⟩⟩
theorem links_any(X:Nat)(v:Int)(w:World) :
    Calls Tryz.prog 166 #[.pointer (some ⟨X,0,none⟩), .int .i64 v] w fun e w' =>
      e = .returned (.func (.func 199) #[] #[.pointer (some ⟨w.heap.size,0,none⟩), .pointer (some ⟨w.heap.size+1,0,none⟩)]) ∧
        (w.alloc (.cells #[.pointer (some ⟨X,0,none⟩)] 117)).alloc (.cells #[.int .i64 v] 3)=w':=by
  have hmf:∀ (fn:Fn) (first cap:Array Value) (w:World),(Instr.makeFunc fn first cap).run Tryz.prog w = .ok (.func fn first cap) w:=fun _ _ _ _=>rfl
  go_enter func166,ntmps166
  go_wp2
  go_ret
  exact ⟨rfl,rfl⟩
end Go.Proofs.YtjepipbkiadcpaaGreat

/- The loop that adds up the single edges from a vertex to those with a property. -/
namespace Go.Proofs.YtjepipbkiadcpaaGreat
open Go.RowKit Go.Shelf Go.Proofs.Tryz
attribute [local go_sem] Oper.semAt_some
set_option maxRecDepth 100000
set_option maxHeartbeats 8000000
def addF(p:Int→Bool)(l:List (Int×Int)):Int:=l.foldl (fun n x=>if p x.1 then n+x.2 else n) 0
def yaG(es:List E3)(v:Int)(p:Int→Bool):Int:=addF p (ycr es v)
theorem addF_snoc(p:Int→Bool)(l:List (Int×Int))(x:Int×Int):addF p (l++[x])=if p x.1 then addF p l+x.2 else addF p l:=by unfold addF;rw [List.foldl_append];rfl
theorem addF_bound{p:Int→Bool}(l:List (Int×Int))(h:∀ q∈l,0≤q.2∧q.2≤50):0≤addF p l∧addF p l≤50*l.length:=by
  suffices H:∀ (l:List (Int×Int)) (a:Int),(∀ q∈l,0≤q.2∧q.2≤50)→a≤l.foldl (fun n x=>if p x.1 then n+x.2 else n) a∧l.foldl (fun n x=>if p x.1 then n+x.2 else n) a≤a+50*l.length by
    have:=H l 0 h
    unfold addF;omega
  intro l
  induction l with
  | nil=>intro a _;simp
  | cons x l ih =>
    intro a h
    have hx:=h x (by simp)
    have h1:=ih (if p x.1 then a+x.2 else a) (fun q hq=>h q (by simp [hq]))
    rw [List.foldl_cons,List.length_cons]
    split at h1 <;> rename_i hp <;> simp only [hp] at h1 ⊢ <;> simp at h1 ⊢ <;> omega
theorem Row.owned{W W':World}{row:Option Nat}{g:Nat}{e:TypeId}{size:Nat}{xs:List Value}(h:Row W g e size xs)(hg:W.grownBy W' row)(hr:∀ r,row=some r→∃ o:Obj,W.heap[r]? = some o∧o.isCells=false):Row W' g e size xs:=by
  have hlt:=h.lt
  refine h.keep (hg.block g hlt (fun e'=>?_))
  obtain ⟨o,ho,hc⟩:=hr g e'.symm
  obtain ⟨cur,h1,_⟩:=h
  rw [h1] at ho
  cases ho
  simp [Obj.isCells] at hc
theorem Keeps.owned{S:Nat→Prop}{w W W':World}{row:Option Nat}{B:Nat}(h:Keeps S w W)(hg:W.grownBy W' row)(hB:w.heap.size≤B)(hr:∀ r,row=some r→B≤r):Keeps S w W' :=
  h.grown hg (fun k e hk=>by have:=hr k e;omega)
theorem yiy(X:Nat)(A:Option Addr)(es:List E3)(cap:Nat)(v:Int)(fid:Nat)(caps:Array Value)(p:Int→Bool)(w:World)
    (hX:w.cell? ⟨X,1,none⟩=some (.slice A es.length cap)) (hes:ydc w A es) (hE:ydz es) (hM:∀ x∈es,0≤x.2.2∧x.2.2≤50) (hv0:0≤v) (hv:v<12) (hlen:es.length≤1000)
    (heg:∀ args w,(callFunc fid args).run Tryz.prog w = .ok (.enter fid args) w)
    (hp:∀ (u:Int) (W:World),Pure w W→(∃ m,(u,m)∈ycr es v)→Calls Tryz.prog fid (#[.int .i64 u]++caps) W fun e W'=>e = .returned (.bool (p u))∧W=W') :
    Calls Tryz.prog 111 #[.pointer (some ⟨X,0,none⟩), .int .i64 v, .func (.func fid) #[] caps] w fun e w'=>e = .returned (.int .i64 (yaG es v p))∧Pure w w':=by
  refine (callsIn_wide (n:=3)).1 ?_
  refine callsIn_of_wp_marks func111 rfl trivial ?_ rfl
  simp only [ntmps111,List.size_toArray,List.length_cons,List.length_nil,Nat.reduceAdd,Nat.reduceSub,Array.replicate_succ,Array.replicate_zero,List.push_toArray,List.append_toArray,List.nil_append,List.cons_append]
  gi_wp2_with fail
  refine ⟨trivial,(callsIn_wide.2 (links_any _ _ _)).mono ?_⟩
  rintro e w' ⟨rfl,rfl⟩
  gi_wp2
  have HES:=Lib.hid hes
  have HE:=Lib.hid hE
  have HM:=Lib.hid hM
  have HP:=Lib.hid hp
  clear hes hE hM hp
  obtain ⟨b,off,hA,hbl,hcs⟩:∃ b off,(0<es.length→A=some ⟨b,off,none⟩)∧(0<es.length→b<w.heap.size)∧∀ k,k<es.length→w.cell? ⟨b,off+k*3,none⟩=some (.int .i64 (ge es k).1)∧w.cell? ⟨b,off+k*3+1,none⟩=some (.int .i64 (ge es k).2.1)∧w.cell? ⟨b,off+k*3+2,none⟩=some (.int .i64 (ge es k).2.2):=by
    rcases Nat.eq_zero_or_pos es.length with h0 | h0
    · exact ⟨0,0,fun h=>absurd h (by omega),fun h=>absurd h (by omega),fun k hk=>absurd hk (by omega)⟩
    · obtain ⟨b,off,e,hb,hc⟩:=HES.out h0
      exact ⟨b,off,fun _=>e,fun _=>hb,hc⟩
  obtain ⟨W0,hW0⟩:∃ W0,((((w.alloc (.cells #[.func (.func fid) #[] caps] 126)).alloc (.cells #[.int .i64 0] 3)).alloc (.cells #[.pointer (some ⟨X,0,none⟩)] 117)).alloc (.cells #[.int .i64 v] 3))=W0:=⟨_,rfl⟩
  have hpu:Pure w W0:=by rw [←hW0];exact (by repeat (first | exact Keeps.refl _ _ | assumption | refine Keeps.drew ?_ | refine Keeps.drewN ?_ _ | refine Keeps.alloc ?_ _ | refine Keeps.setRow ?_ (by simp) _ | refine Keeps.setRow ?_ (by simp;omega) _ | refine Keeps.setCell ?_ (by simp) _ | refine Keeps.setCell ?_ (by simp;omega) _))
  have hsz:W0.heap.size=w.heap.size+4:=by rw [←hW0];simp
  have rf:Row W0 w.heap.size 126 1 [.func (.func fid) #[] caps]:=by rw [←hW0];exact (((Row.new w #[.func (.func fid) #[] caps] 126).alloc _).alloc _).alloc _
  have rn:Row W0 (w.heap.size+1) 3 1 [.int .i64 0]:=by
    rw [←hW0]
    have:=Row.new (w.alloc (.cells #[.func (.func fid) #[] caps] 126)) #[.int .i64 0] 3
    rw [World.size_alloc] at this
    exact (this.alloc _).alloc _
  have rx:Row W0 (w.heap.size+1+1) 117 1 [.pointer (some ⟨X,0,none⟩)]:=by
    rw [←hW0]
    have:=Row.new ((w.alloc (.cells #[.func (.func fid) #[] caps] 126)).alloc (.cells #[.int .i64 0] 3)) #[.pointer (some ⟨X,0,none⟩)] 117
    rw [World.size_alloc,World.size_alloc] at this
    exact this.alloc _
  have rv:Row W0 (w.heap.size+1+1+1) 3 1 [.int .i64 v]:=by
    rw [←hW0]
    have:=Row.new (((w.alloc (.cells #[.func (.func fid) #[] caps] 126)).alloc (.cells #[.int .i64 0] 3)).alloc (.cells #[.pointer (some ⟨X,0,none⟩)] 117)) #[.int .i64 v] 3
    rw [World.size_alloc,World.size_alloc,World.size_alloc] at this
    exact this
  rw [hW0]
  clear hW0
  refine wpIn_rangeFunc_ownF (α:=yhr es v) (encs:=encL es v) (Kp:=KB (fun k=>k<w.heap.size∨k=w.heap.size+1+1+1)) (S:=fun xs=>xs.map (·.1)=ycr es v) (Sp:=fun _=>True) (N:=es.length) (w0:=W0) rfl (by omega) (gf:=199) (lb:=#[.pointer (some ⟨w.heap.size+1+1,0,none⟩), .pointer (some ⟨w.heap.size+1+1+1,0,none⟩)]) rfl trivial (enters_of func199 (by kernel_rfl) rfl)
    ?seq (fun h k=>h.trans k) (fun W l o o' h1 h2 h3 h4=>KB.put (fun k hk=>by omega) W l o o' h1 h2 h3 h4) (Below.refl _ _) (fun _=>rfl)
    (fun pre W=>(Row W w.heap.size 126 1 [.func (.func fid) #[] caps]∧Row W (w.heap.size+1) 3 1 [.int .i64 (addF p (pre.map (·.1)))])∧Pure w W)
    (fun _ _ _=>False)
    (OwnFrom.and (Own.from (fun s A B row hs hg hr=>⟨hs.1.owned hg hr,hs.2.owned hg hr⟩) _) (fun s W W' row hs hg hr=>hs.owned hg (B:=W0.heap.size) (by omega) (fun r e=>(hr r e).1)))
    (fun _ _ _ _ _ hs _ _=>hs)
    ⟨⟨rf,rn⟩,hpu⟩
    (fun x=>{ tmps:=#[.pointer (some ⟨X,0,none⟩), .int .i64 v, .func (.func fid) #[] caps,undef,undef, .pointer (some ⟨w.heap.size,0,none⟩), .int .i64 0, .pointer (some ⟨w.heap.size+1,0,none⟩), .int .i64 x.1.1, .int .i64 x.1.2, .pointer (some ⟨X,0,none⟩), .int .i64 v, .func (.func 199) #[] #[.pointer (some ⟨w.heap.size+1+1,0,none⟩), .pointer (some ⟨w.heap.size+1+1+1,0,none⟩)], .int .i64 x.1.1, .int .i64 x.1.2,undef,undef,undef,undef,undef,undef,undef],defers:=[] }) ?assign ?body ?done ?stop
  case seq =>
    intro l J Jx W hW hJ hJx hY h0
    have hk:Pure w W:=hpu.then (Keeps.of_below hW (Nat.le_refl _)) (fun _ _ h=>h)
    exact links_in 2 (by omega) l (w.heap.size+1+1) (w.heap.size+1+1+1) b off X W es cap v A hA _ (.inr rfl) (fun h => .inl (hbl h)) (fun k hk'=>by have:=hW.size;omega) HE.out hv0 hv (by omega) J Jx hJ hY h0
      ((hW.cell (p:=⟨w.heap.size+1+1,0,none⟩) (by simp;omega)).trans (Row.cell rx (i:=0) rfl)) ((hW.cell (p:=⟨w.heap.size+1+1+1,0,none⟩) (by simp;omega)).trans (Row.cell rv (i:=0) rfl))
      (hk.cell id hX) (fun k hk'=>⟨hk.cell id (hcs k hk').1,hk.cell id (hcs k hk').2.1,hk.cell id (hcs k hk').2.2⟩)
  case assign =>
    intro l x W K hK
    gi_wp2
    exact hK
  case body =>
    rintro l pre x W ⟨⟨rf,rn⟩,hpu⟩ hlt
    have cf:=Row.cell rf (i:=0) rfl
    have cn:=Row.cell rn (i:=0) rfl
    have ff:=Row.frozen rn 0
    have hx:=HP.out x.1.1 W hpu (by
      obtain ⟨e,he,hl⟩:=x.2
      exact ⟨x.1.2,List.mem_filterMap.2 ⟨e,he,hl⟩⟩)
    have HB:=addF_bound (p:=p) (pre.map (·.1)) (by
      intro q hq
      rw [List.mem_map] at hq
      obtain ⟨y,_,rfl⟩:=hq
      obtain ⟨e,he,hl⟩:=y.2
      unfold link at hl
      split at hl
      · simp only [Option.some.injEq] at hl
        rw [←hl];exact HM.out e he
      · cases hl)
    obtain ⟨hB1,hB2⟩:=HB
    have hlen':(pre.map (·.1)).length≤1000:=by rw [List.length_map];omega
    have hx2:0≤x.1.2∧x.1.2≤50:=by
      obtain ⟨e,he,hl⟩:=x.2
      unfold link at hl
      split at hl
      · simp only [Option.some.injEq] at hl
        rw [←hl];exact HM.out e he
      · cases hl
    obtain ⟨hx3,hx4⟩:=hx2
    obtain ⟨S,hS⟩:∃ S,S=addF p (pre.map (·.1)):=⟨_,rfl⟩
    rw [←hS] at cn rn hB1 hB2
    have hS1:0≤S:=hB1
    have hS2:S≤50000:=by omega
    have HS:Hid (addF p ((pre++[x]).map (·.1))=if p x.1.1 then S+x.1.2 else S):=by
      rw [Hid,List.map_append,hS];exact addF_snoc p _ _
    clear hS hB2 hlen'
    by_cases hpx:p x.1.1=true
    · gi_wp2
      refine ⟨trivial,(CallsIn.inRound l (callsIn_wide.2 hx)).mono ?_⟩
      rintro e w' ⟨rfl,rfl⟩
      rw [hpx]
      gi_wp2
      refine ⟨KeepsOthers.setCell _ _ _,fun k hk=>Below.heap_setCell _ _ _ _ (by simp;omega),⟨rf.far (by simp) _,?_⟩,hpu.setCell (by simp) _⟩
      rw [HS.out,if_pos hpx]
      exact rn.set_ 0 _
    · have hpx':p x.1.1=false:=by simpa using hpx
      gi_wp2
      refine ⟨trivial,(CallsIn.inRound l (callsIn_wide.2 hx)).mono ?_⟩
      rintro e w' ⟨rfl,rfl⟩
      rw [hpx']
      gi_wp2
      refine ⟨KeepsOthers.refl _,fun k hk=>rfl,⟨rf,?_⟩,hpu⟩
      rw [HS.out,if_neg hpx]
      exact rn
  case done =>
    rintro D ys W hD hys ⟨⟨rf,rn⟩,hpu⟩ hK
    have cn:=Row.cell rn (i:=0) rfl
    gi_wp2
    refine ⟨by simp, .inl ⟨_,_,rfl,run_takeDeferred hK,?_⟩⟩
    exact ⟨_,results_tmp rfl _ _ _,by simp [yaG,←hys],hpu.grown (grownBy_putObj' W D _) (fun k e hk=>by cases e;omega)⟩
  case stop =>
    rintro D c pre W _ _ h _
    exact h.elim
theorem links_pure(X:Nat)(v:Int)(w:World) :
    Calls Tryz.prog 166 #[.pointer (some ⟨X,0,none⟩), .int .i64 v] w fun e w'=>∃ bx bv,e = .returned (.func (.func 199) #[] #[.pointer (some ⟨bx,0,none⟩), .pointer (some ⟨bv,0,none⟩)]) ∧
      w.heap.size≤bx∧w.heap.size≤bv∧Row w' bx 117 1 [.pointer (some ⟨X,0,none⟩)]∧Row w' bv 3 1 [.int .i64 v]∧Pure w w':=by
  refine (links_any X v w).mono ?_
  rintro e w' ⟨rfl,rfl⟩
  refine ⟨_,_,rfl,Nat.le_refl _,Nat.le_succ _,(Row.new w #[.pointer (some ⟨X,0,none⟩)] 117).alloc _,?_,(by repeat (first | exact Keeps.refl _ _ | assumption | refine Keeps.drew ?_ | refine Keeps.drewN ?_ _ | refine Keeps.alloc ?_ _ | refine Keeps.setRow ?_ (by simp) _ | refine Keeps.setRow ?_ (by simp;omega) _ | refine Keeps.setCell ?_ (by simp) _ | refine Keeps.setCell ?_ (by simp;omega) _))⟩
  have:=Row.new (w.alloc (.cells #[.pointer (some ⟨X,0,none⟩)] 117)) #[.int .i64 v] 3
  rw [World.size_alloc] at this
  exact this
end Go.Proofs.YtjepipbkiadcpaaGreat

/- The walk of reduced.begin: the state of a divisor. -/
namespace Go.Proofs.YtjepipbkiadcpaaGreat
open Go.RowKit Go.Proofs.Tryz
set_option maxRecDepth 100000
set_option maxHeartbeats 8000000
theorem make_script(n:Nat)(hn:n≤1000000)(w:World) :
    (Instr.makeSlice 56 (.int .i64 (n:Int)) (.int .i64 (n:Int))).run Tryz.prog w = .ok (.slice (some ⟨w.heap.size,0,none⟩) n n) (w.alloc (.cells (Array.replicate n (.int .i64 0)) 3)):=by
  obtain ⟨i0,hi,hz,hs,hb⟩:=info_parts int_info
  exact yfD _ _ i0 _ underlying56 hi hz hs (by omega) rfl n hn w
def ye7(w:World)(X gd gs:Nat)(n:Nat)(A:Option Addr)(es:List E3)(cap cd cs:Nat)(q:Int)(d s:List Int)(e:Int):Prop :=
  Row w X 172 6 [.int .i64 (n:Int), .slice A es.length cap, .int .i64 q, .slice (some ⟨gd,0,none⟩) d.length cd, .slice (some ⟨gs,0,none⟩) s.length cs, .int .i64 e] ∧
    IRow w gd 3 cd d∧IRow w gs 3 cs s∧gd≠gs∧d.length=n∧s.length=n
def BeginPost(A:Option Addr)(es:List E3)(d:List Int)(cap n:Nat)(q:Int)(w:World)(e:Ending)(w':World):Prop :=
  ∃ X gd gs cd,e = .returned (.pointer (some ⟨X,0,none⟩))∧w.heap.size≤X∧w.heap.size≤gd∧w.heap.size≤gs∧ye7 w' X gd gs n A es cap cd n q d (List.replicate n 0) 0∧Pure w w'∧cd≤maxLen
theorem yie(A D:Option Addr)(es:List E3)(d:List Int)(cap ca:Nat)(n:Nat)(q:Int)(w:World)(hd:Ints w D d)(hdl:d.length=n)(hn:1≤n)(hn12:n≤12) :
    Calls Tryz.prog 66 #[.agg #[.int .i64 (n:Int), .slice A es.length cap], .int .i64 q, .slice D d.length ca] w (BeginPost A es d cap n q w):=by
  have hmk:=make_script n (by omega)
  have HL:=Lib.hid hdl
  have hl1:0<d.length:=by omega
  have hl2:d.length≤12:=by omega
  clear hdl
  have hD:=Lib.hid hd
  clear hd
  go_enter func66,ntmps66
  go_wp2
  go_region_held3 (fun w'=>w'.cell? ⟨w.heap.size,0,none⟩=some (.int .i64 (n:Int))∧w'.cell? ⟨w.heap.size,1,none⟩=some (.slice A es.length cap))
    (first
      | go_keep
      | (go_split_ands
         exact ⟨hp1.cell id (by assumption),hp1.cell id (by assumption)⟩)
      | (go_split_ands
         exact ⟨hp1.cell id (by simp [go_sem,World.cell?_alloc_past]),hp1.cell id (by simp [go_sem,World.cell?_alloc_past])⟩))
    ((first | (go_at_call 76;refine (clone_any D d ca _ (by exact hD.out.keep (by repeat (first | exact Keeps.refl _ _ | assumption | refine Keeps.drew ?_ | refine Keeps.drewN ?_ _ | refine Keeps.alloc ?_ _ | refine Keeps.setRow ?_ (by simp) _ | refine Keeps.setRow ?_ (by simp;omega) _ | refine Keeps.setCell ?_ (by simp) _ | refine Keeps.setCell ?_ (by simp;omega) _))) hl1 (by omega)).mono ?_;rintro e w1 ⟨gd,cd,rfl,hgd,hrd,hp1,hcm⟩)))
  · have hX:=Row.new (w1.alloc (.cells (Array.replicate n (.int .i64 0)) 3)) #[.int .i64 (n:Int), .slice A es.length cap, .int .i64 q, .slice (some ⟨gd,0,none⟩) d.length cd, .slice (some ⟨w1.heap.size,0,none⟩) n n, .int .i64 0] 172
    have hs:=Row.alloc (irow_made w1 n 3) (.cells #[.int .i64 (n:Int), .slice A es.length cap, .int .i64 q, .slice (some ⟨gd,0,none⟩) d.length cd, .slice (some ⟨w1.heap.size,0,none⟩) n n, .int .i64 0] 172)
    have hdd:=Row.alloc (Row.alloc hrd (.cells (Array.replicate n (.int .i64 0)) 3)) (.cells #[.int .i64 (n:Int), .slice A es.length cap, .int .i64 q, .slice (some ⟨gd,0,none⟩) d.length cd, .slice (some ⟨w1.heap.size,0,none⟩) n n, .int .i64 0] 172)
    have hlt:=Row.lt hrd
    have hsz:=hp1.size
    have hpw:Pure w w1:=Pure.after (by repeat (first | exact Keeps.refl _ _ | assumption | refine Keeps.drew ?_ | refine Keeps.drewN ?_ _ | refine Keeps.alloc ?_ _ | refine Keeps.setRow ?_ (by simp) _ | refine Keeps.setRow ?_ (by simp;omega) _ | refine Keeps.setCell ?_ (by simp) _ | refine Keeps.setCell ?_ (by simp;omega) _)) hp1
    rw [World.size_alloc] at hX
    simp only [World.size_alloc,World.size_drew] at hgd hsz
    go_wp2
    go_ret
    refine ⟨_,gd,w1.heap.size,cd,rfl,by omega,by omega,by omega,⟨?_,hdd,hs,by omega,HL.out,by simp⟩,(by repeat (first | exact Keeps.refl _ _ | assumption | refine Keeps.drew ?_ | refine Keeps.drewN ?_ _ | refine Keeps.alloc ?_ _ | refine Keeps.setRow ?_ (by simp) _ | refine Keeps.setRow ?_ (by simp;omega) _ | refine Keeps.setCell ?_ (by simp) _ | refine Keeps.setCell ?_ (by simp;omega) _)),hcm⟩
    rw [List.length_replicate]
    exact hX
  · have hs0:=hp1.row (Row.drew (irow_made (w.alloc (.cells #[.int .i64 (n:Int), .slice A es.length cap] 24)) n 3)) id
    have hX:=Row.new w1 #[.int .i64 (n:Int), .slice A es.length cap, .int .i64 q, .slice (some ⟨gd,0,none⟩) d.length cd, .slice (some ⟨w.heap.size+1,0,none⟩) n n, .int .i64 0] 172
    have hs:=Row.alloc hs0 (.cells #[.int .i64 (n:Int), .slice A es.length cap, .int .i64 q, .slice (some ⟨gd,0,none⟩) d.length cd, .slice (some ⟨w.heap.size+1,0,none⟩) n n, .int .i64 0] 172)
    have hdd:=Row.alloc hrd (.cells #[.int .i64 (n:Int), .slice A es.length cap, .int .i64 q, .slice (some ⟨gd,0,none⟩) d.length cd, .slice (some ⟨w.heap.size+1,0,none⟩) n n, .int .i64 0] 172)
    have hlt:=Row.lt hrd
    have hsz:=hp1.size
    have hpw:Pure w w1:=Pure.after (by repeat (first | exact Keeps.refl _ _ | assumption | refine Keeps.drew ?_ | refine Keeps.drewN ?_ _ | refine Keeps.alloc ?_ _ | refine Keeps.setRow ?_ (by simp) _ | refine Keeps.setRow ?_ (by simp;omega) _ | refine Keeps.setCell ?_ (by simp) _ | refine Keeps.setCell ?_ (by simp;omega) _)) hp1
    simp only [World.size_alloc,World.size_drew] at hgd hsz hs
    go_wp2
    go_ret
    refine ⟨_,gd,w.heap.size+1,cd,rfl,by omega,by omega,by omega,⟨?_,hdd,hs,by omega,HL.out,by simp⟩,(by repeat (first | exact Keeps.refl _ _ | assumption | refine Keeps.drew ?_ | refine Keeps.drewN ?_ _ | refine Keeps.alloc ?_ _ | refine Keeps.setRow ?_ (by simp) _ | refine Keeps.setRow ?_ (by simp;omega) _ | refine Keeps.setCell ?_ (by simp) _ | refine Keeps.setCell ?_ (by simp;omega) _)),hcm⟩
    rw [List.length_replicate]
    exact hX
end Go.Proofs.YtjepipbkiadcpaaGreat

/- The walk of the fire that starts at q: the unburnt vertices of a state. -/
namespace Go.Proofs.YtjepipbkiadcpaaGreat
open Go.RowKit Go.Proofs.Tryz
set_option maxRecDepth 100000
set_option maxHeartbeats 4000000
theorem bool_info:(Tryz.prog.info? 4).map (fun i=>(i.zero,i.size,i.bytes))=some (some (.bool false),1,1):=by kernel_rfl
theorem make_bools(n:Nat)(hn:n≤1000000)(w:World) :
    (Instr.makeSlice 168 (.int .i64 (n:Int)) (.int .i64 (n:Int))).run Tryz.prog w = .ok (.slice (some ⟨w.heap.size,0,none⟩) n n) (w.alloc (.cells (Array.replicate n (.bool false)) 4)):=by
  obtain ⟨i0,hi,hz,hs,hb⟩:=info_parts bool_info
  exact yfD _ _ i0 _ underlying168 hi hz hs (by omega) rfl n hn w
theorem isBurnt_any(B g n c:Nat)(burnt:List Bool)(u:Nat)(w:World)(hB:Row w B 168 1 [.slice (some ⟨g,0,none⟩) n c])(hg:BRow w g 4 c burnt)(hl:burnt.length=n)(hu:u<n) :
    Calls Tryz.prog 167 #[.int .i64 (u:Int), .pointer (some ⟨B,0,none⟩)] w fun e w'=>e = .returned (.bool (gb burnt u))∧w=w':=by
  have c0:=Row.cell hB (i:=0) rfl
  have c1:=bcell hg (k:=u) (by omega)
  have j1:(0:Int)≤(u:Int):=by omega
  have j2:(u:Int)<(n:Int):=by omega
  clear hl
  go_enter func167,ntmps167
  go_wp2
  go_ret
  exact ⟨rfl,rfl⟩
def cf(b:List Bool):Nat:=(b.filter fun x=>!x).length
theorem cf_set{b:List Bool}{v:Nat}(h:v<b.length)(hv:gb b v=false):cf (b.set v true)+1=cf b:=by
  unfold cf
  induction b generalizing v with
  | nil=>simp at h
  | cons x b ih =>
    cases v with
    | zero =>
      simp [gb] at hv
      subst hv
      simp
    | succ v =>
      have:=ih (v:=v) (by simpa using h) (by simpa [gb] using hv)
      simp only [List.set_cons_succ,List.filter_cons]
      split
      · simp only [List.length_cons];omega
      · omega
def Closed(n:Nat)(es:List E3)(d:List Int)(b:List Bool):Prop:=∀ v,v<n→gb b v=false→yaG es (v:Int) (fun u=>gb b u.toNat)≤gi d v
def yhs(n:Nat)(es:List E3)(q:Nat)(d:List Int)(b:List Bool):Prop :=
  ∀ S:Nat→Bool,S q=false→(∀ v,v<n→S v=true→yaG es (v:Int) (fun u=>!S u.toNat)≤gi d v)→∀ v,v<n→S v=true→gb b v=false
theorem addF_mono{p p':Int→Bool}(l:List (Int×Int))(h:∀ q∈l,0≤q.2)(hpp:∀ q∈l,p q.1=true→p' q.1=true):addF p l≤addF p' l:=by
  suffices H:∀ (l:List (Int×Int)) (a a':Int),(∀ q∈l,0≤q.2)→(∀ q∈l,p q.1=true→p' q.1=true)→a≤a'→l.foldl (fun n x=>if p x.1 then n+x.2 else n) a≤l.foldl (fun n x=>if p' x.1 then n+x.2 else n) a' from H l 0 0 h hpp (Int.le_refl _)
  intro l
  induction l with
  | nil=>intro a a' _ _ h;exact h
  | cons x l ih =>
    intro a a' h hpp hle
    rw [List.foldl_cons,List.foldl_cons]
    refine ih _ _ (fun q hq=>h q (by simp [hq])) (fun q hq=>hpp q (by simp [hq])) ?_
    have h0:=h x (by simp)
    have h1:=hpp x (by simp)
    by_cases hp:p x.1=true
    · rw [if_pos hp,if_pos (h1 hp)];omega
    · rw [if_neg hp];split <;> omega
theorem yb4{es:List E3}{n:Nat}(hE:∀ x∈es,0≤x.1∧x.1<n∧0≤x.2.1∧x.2.1<n∧0≤x.2.2∧x.2.2≤50){v u m:Int}(h:(u,m)∈ycr es v):0≤u∧u<n∧0≤m∧m≤50:=by
  obtain ⟨x,hx,hl⟩:=List.mem_filterMap.1 h
  have h1:=hE x hx
  unfold link at hl
  split at hl
  · simp only [Option.some.injEq,Prod.mk.injEq] at hl
    omega
  · cases hl
theorem yhs.step{n:Nat}{es:List E3}{q:Nat}{d:List Int}{b:List Bool}(h:yhs n es q d b)(hE:∀ x∈es,0≤x.1∧x.1<n∧0≤x.2.1∧x.2.1<n∧0≤x.2.2∧x.2.2≤50){v:Nat}(hv:v<b.length)(hc:gi d v<yaG es (v:Int) (fun u=>gb b u.toNat)):yhs n es q d (b.set v true):=by
  intro S hq hS u hu hSu
  rw [yeB hv]
  by_cases e:u=v
  · subst e
    exfalso
    have h1:=hS u hu hSu
    have h2:yaG es (u:Int) (fun x=>gb b x.toNat)≤yaG es (u:Int) (fun x=>!S x.toNat):=by
      unfold yaG
      refine addF_mono _ (fun q hq=>(yb4 hE (v:=(u:Int)) (u:=q.1) (m:=q.2) hq).2.2.1) (fun y hy hb=>?_)
      have hr:=yb4 hE (v:=(u:Int)) (u:=y.1) (m:=y.2) hy
      cases hs:S y.1.toNat with
      | false=>rfl
      | true =>
        have:=h S hq hS y.1.toNat (by omega) hs
        simp only [this] at hb
        cases hb
    omega
  · rw [if_neg e]
    exact h S hq hS u hu hSu
def UnburntPost(n:Nat)(es:List E3)(q:Nat)(d:List Int)(w:World)(e:Ending)(w':World):Prop :=
  ∃ g left,e = .returned (.tuple #[.slice (some ⟨g,0,none⟩) n n, .bool (left.any id)])∧w.heap.size≤g∧BRow w' g 4 n left∧left.length=n∧Pure w w' ∧
    ∃ burnt:List Bool,burnt.length=n∧left=burnt.map (!·)∧gb burnt q=true∧Closed n es d burnt∧yhs n es q d burnt
theorem yiu(X gd gs n:Nat)(A:Option Addr)(es:List E3)(cap cdd cs q:Nat)(d s:List Int)(e:Int)(w:World)(hS:ye7 w X gd gs n A es cap cdd cs q d s e)(hes:ydc w A es)
    (hq:q<n) (hn:n≤12) (hE:∀ x∈es,0≤x.1∧x.1<n∧0≤x.2.1∧x.2.1<n∧0≤x.2.2∧x.2.2≤50) (hel:es.length≤1000) :
    Calls Tryz.prog 113 #[.pointer (some ⟨X,0,none⟩)] w (UnburntPost n es q d w):=by
  obtain ⟨hX,hd,hs,hne,hdl,hsl⟩:=hS
  have hmf:∀ (fn:Fn) (first cap:Array Value) (w:World),(Instr.makeFunc fn first cap).run Tryz.prog w = .ok (.func fn first cap) w:=fun _ _ _ _=>rfl
  have hmk:=make_bools n (by omega)
  have HL:=Lib.hid (And.intro hdl hsl)
  have HE:=Lib.hid hE
  have HES:=Lib.hid hes
  clear hdl hsl hE hes
  have x0:=Row.cell hX (i:=0) rfl
  have x2:=Row.cell hX (i:=2) rfl
  have lX:=hX.lt
  have jq1:(0:Int)≤(q:Int):=by omega
  have jq2:(q:Int)<(n:Int):=by omega
  go_enter func113,ntmps113
  go_wp2
  go_region
  obtain ⟨W1,hW1⟩:∃ W1,((w.alloc (.cells ((Array.replicate n (.bool false)).setIfInBounds q (.bool true)) 4)).alloc (.cells #[.slice (some ⟨w.heap.size,0,none⟩) n n] 168)).drew=W1:=⟨_,rfl⟩
  have rb1:BRow W1 w.heap.size 4 n ((List.replicate n false).set q true):=by
    rw [←hW1]
    have:=Row.alloc (Row.new w ((Array.replicate n (Value.bool false)).setIfInBounds q (.bool true)) 4) (.cells #[.slice (some ⟨w.heap.size,0,none⟩) n n] 168)
    simp only [Array.size_setIfInBounds,Array.size_replicate,Array.toList_setIfInBounds,Array.toList_replicate] at this
    unfold BRow
    rw [List.map_set,List.map_replicate]
    exact this
  have rB1:Row W1 (w.heap.size+1) 168 1 [.slice (some ⟨w.heap.size,0,none⟩) n n]:=by
    rw [←hW1]
    have:=Row.new (w.alloc (.cells ((Array.replicate n (Value.bool false)).setIfInBounds q (.bool true)) 4)) #[.slice (some ⟨w.heap.size,0,none⟩) n n] 168
    rw [World.size_alloc] at this
    exact this
  have p1:Pure w W1:=by rw [←hW1];exact (by repeat (first | exact Keeps.refl _ _ | assumption | refine Keeps.drew ?_ | refine Keeps.drewN ?_ _ | refine Keeps.alloc ?_ _ | refine Keeps.setRow ?_ (by simp) _ | refine Keeps.setRow ?_ (by simp;omega) _ | refine Keeps.setCell ?_ (by simp) _ | refine Keeps.setCell ?_ (by simp;omega) _))
  rw [hW1]
  clear hW1 x0 x2
  go_wp2
  have hb0:Hid (((List.replicate n false).set q true).length=n∧gb ((List.replicate n false).set q true) q=true∧yhs n es q d ((List.replicate n false).set q true)):=by
    refine ⟨by simp,by rw [yeB (by simpa using hq),if_pos rfl],fun S hSq hS v hv hSv=>?_⟩
    rw [yeB (by simpa using hq)]
    split
    · rename_i e;subst e;rw [hSq] at hSv;cases hSv
    · simp [gb,hv]
  go_loopg [6] (2*n+2) (fun m again wr=>∃ (ag:Bool) (b:List Bool),again = .bool ag∧BRow wr w.heap.size 4 n b∧Row wr (w.heap.size+1) 168 1 [.slice (some ⟨w.heap.size,0,none⟩) n n]∧Pure w wr∧Hid (b.length=n∧gb b q=true∧yhs n es q d b)∧Hid (ag=false→Closed n es d b)∧Hid (2*cf b+(if ag then 1 else 0)≤m))
  case atStart=>exact ⟨true,_,rfl,rb1,rB1,p1,hb0,(fun h=>by cases h),by
    have:cf ((List.replicate n false).set q true)≤n:=by
      unfold cf
      have:=List.length_filter_le (fun x=>!x) ((List.replicate n false).set q true)
      simpa using this
    simp only [Hid];simp;omega⟩
  clear rb1 rB1 p1 hb0
  case round =>
    obtain ⟨ag,b,rfl,rb,rB,hp,HI,HC,HM⟩:=hrel
    cases ag with
    | false =>
      have cB:=Row.cell rB (i:=0) rfl
      have hXr:=hp.row hX id
      have x0:=Row.cell hXr (i:=0) rfl
      have lX:=hXr.lt
      have lb:=Row.lt rb
      have lB:=rB.lt
      go_wp2
      obtain ⟨g2,hg2⟩:∃ g2,wr.heap.size=g2:=⟨_,rfl⟩
      have hl0:=brow_made wr n 4
      have rb2:=Row.alloc rb (.cells (Array.replicate n (.bool false)) 4)
      have rB2:=rB.alloc (.cells (Array.replicate n (.bool false)) 4)
      have p2:Pure w (wr.alloc (.cells (Array.replicate n (.bool false)) 4)):=hp.alloc _
      have hgl:w.heap.size+1<g2:=by omega
      rw [hg2] at hl0 ⊢
      clear x0 cB hXr lX lb lB
      go_loopw [9,64] (fun sm i wr2=>∃ (k:Nat) (so:Bool) (left:List Bool),k≤n∧i = .int .i64 k∧sm = .bool so∧BRow wr2 g2 4 n left∧BRow wr2 w.heap.size 4 n b∧Row wr2 (w.heap.size+1) 168 1 [.slice (some ⟨w.heap.size,0,none⟩) n n]∧Pure w wr2∧Hid (left.length=n∧∀ j,j<k→gb left j = !gb b j)∧Hid (so=true↔∃ j,j<k∧gb b j=false)) (fun _ i _=>n-(intOf i).toNat)
      case atStart=>exact ⟨0,false,List.replicate n false,Nat.zero_le _,rfl,rfl,hl0,rb2,rB2,p2,⟨by simp,fun j hj=>absurd hj (by omega)⟩,by simp [Hid]⟩
      clear hl0 rb2 rB2 p2 hg2
      case round =>
        obtain ⟨k,so,left,hk,rfl,rfl,rl,rb,rB,hp,HLF,HSO⟩:=hrel
        by_cases hlt:k<n
        · have cB:=Row.cell rB (i:=0) rfl
          have cb:=bcell rb (k:=k) (by rw [HI.out.1];exact hlt)
          have cl:=bcell rl (k:=k) (by rw [HLF.out.1];exact hlt)
          have fl:=Row.frozen rl k
          have cl2:=bcell (bset rl k (!gb b k)) (k:=k) (by rw [List.length_set,HLF.out.1];exact hlt)
          rw [yeB (by rw [HLF.out.1];exact hlt),if_pos rfl] at cl2
          have j1:(0:Int)≤(k:Int):=by omega
          have j2:(k:Int)<(n:Int):=by omega
          have hstep:Hid ((left.set k (!gb b k)).length=n∧∀ j,j<k+1→gb (left.set k (!gb b k)) j = !gb b j):=by
            refine ⟨by simpa using HLF.out.1,fun j hj=>?_⟩
            rw [yeB (by rw [HLF.out.1];exact hlt)]
            split
            · rename_i e;rw [e]
            · exact HLF.out.2 j (by omega)
          have hso1:Hid ((so || !gb b k)=true↔∃ j,j<k+1∧gb b j=false):=by
            rw [Hid,Bool.or_eq_true,HSO.out]
            constructor
            · rintro (⟨j,hj,hjb⟩ | h)
              · exact ⟨j,by omega,hjb⟩
              · exact ⟨k,by omega,by simpa using h⟩
            · rintro ⟨j,hj,hjb⟩
              by_cases e:j=k
              · subst e;exact .inr (by simp [hjb])
              · exact .inl ⟨j,by omega,hjb⟩
          obtain ⟨bk,hbk⟩:∃ bk,bk=gb b k:=⟨_,rfl⟩
          rw [←hbk] at cb cl2 hstep hso1
          clear hbk
          cases so with
          | true =>
            go_wp2
            go_roundw
            case rel=>exact ⟨k+1,true,_,by omega,by go_num,rfl,bset rl k (!bk),Row.far rb (by simp;omega) _,rB.far (by simp;omega) _,hp.setCell (fun h=>absurd h (by simp;omega)) _,hstep,hso1⟩
            case measure=>simp [intOf];omega
          | false =>
            go_wp2
            go_roundw
            case rel=>exact ⟨k+1, !bk,_,by omega,by go_num,rfl,bset rl k (!bk),Row.far rb (by simp;omega) _,rB.far (by simp;omega) _,hp.setCell (fun h=>absurd h (by simp;omega)) _,hstep,hso1⟩
            case measure=>simp [intOf];omega
        · obtain rfl:k=n:=by omega
          go_wp2
          go_ret2
          have hle:left=b.map (!·):=by
            refine gb_ext (by rw [HLF.out.1,List.length_map,HI.out.1]) (fun j hj=>?_)
            rw [HLF.out.1] at hj
            rw [HLF.out.2 j hj]
            have h1:j<b.length:=by rw [HI.out.1];exact hj
            have h2:j<(b.map (!·)).length:=by rw [List.length_map];exact h1
            rw [yb2 h2,List.getElem_map,yb2 h1]
          have hso:so=left.any id:=by
            rw [Bool.eq_iff_iff,HSO.out,List.any_eq_true]
            constructor
            · rintro ⟨j,hj,hjb⟩
              refine ⟨gb left j,?_,by rw [HLF.out.2 j hj,hjb];rfl⟩
              rw [yb2 (by rw [HLF.out.1];exact hj)];exact List.getElem_mem _
            · rintro ⟨x,hx,hxt⟩
              obtain ⟨j,hj,rfl⟩:=List.getElem_of_mem hx
              have hj':j<k:=by rw [←HLF.out.1];exact hj
              refine ⟨j,hj',?_⟩
              have:=HLF.out.2 j hj'
              rw [yb2 hj] at this
              simp only [id] at hxt
              rw [hxt] at this
              simpa using this.symm
          exact ⟨g2,left,by rw [←hso];rfl,by omega,rl,HLF.out.1,hp,b,HI.out.1,hle,HI.out.2.1,HC.out trivial,HI.out.2.2⟩
    | true =>
      have hXr:=hp.row hX id
      have x0:=Row.cell hXr (i:=0) rfl
      go_wp2
      obtain ⟨wo,rfl⟩:∃ wo:World,wo=wr:=⟨_,rfl⟩
      go_loopw [6,30] (fun again i wr=>∃ (k:Nat) (ag:Bool) (b':List Bool),k≤n∧i = .int .i64 k∧again = .bool ag∧BRow wr w.heap.size 4 n b'∧Row wr (w.heap.size+1) 168 1 [.slice (some ⟨w.heap.size,0,none⟩) n n]∧Pure w wr∧Hid (b'.length=n∧gb b' q=true∧yhs n es q d b')∧Hid (ag=false→b'=b∧∀ v,v<k→gb b v=false→yaG es (v:Int) (fun u=>gb b u.toNat)≤gi d v)∧Hid (cf b'+(if ag then 1 else 0)≤cf b)) (fun _ i _=>n-(intOf i).toNat)
      case atStart=>exact ⟨0,false,b,Nat.zero_le _,rfl,rfl,rb,rB,hp,HI,fun _=>⟨rfl,fun v hv=>absurd hv (by omega)⟩,by simp [Hid]⟩
      case round =>
        obtain ⟨k,ag,b',hk,rfl,rfl,rb',rB',hp',HI',HA,HM'⟩:=hrel
        by_cases hlt:k<n
        · have cB:=Row.cell rB' (i:=0) rfl
          have cb:=bcell rb' (k:=k) (by rw [HI'.out.1];exact hlt)
          have hXr:=hp'.row hX id
          have hdr:=hp'.row hd id
          have x3:=Row.cell hXr (i:=3) rfl
          have cd:=icell hdr (k:=k) (by rw [HL.out.1];exact hlt)
          have j1:(0:Int)≤(k:Int):=by omega
          have j2:(k:Int)<(n:Int):=by omega
          have j3:(k:Int)<(d.length:Int):=by rw [HL.out.1];exact j2
          by_cases hb:gb b' k=true
          · rw [hb] at cb
            have HB:=Lib.hid hb
            clear hb
            go_wp2
            go_region
            go_wp2
            go_roundw
            case rel =>
              refine ⟨k+1,ag,b',by omega,by go_num,rfl,rb',rB',hp'.drew,HI',?_,HM'⟩
              intro hag
              obtain ⟨e1,e2⟩:=HA.out hag
              refine ⟨e1,fun v hv hvb=>?_⟩
              by_cases e:v=k
              · subst e;rw [←e1,HB.out] at hvb;cases hvb
              · exact e2 v (by omega) hvb
            case measure=>simp [intOf];omega
          · have hb':gb b' k=false:=by simpa using hb
            rw [hb'] at cb
            have HB:=Lib.hid hb'
            clear hb hb'
            obtain ⟨J,hJ⟩:∃ J,J=yaG es (k:Int) (fun u=>gb b' u.toNat):=⟨_,rfl⟩
            have hcall:∀ W,Pure wr W→Calls Tryz.prog 111 #[.pointer (some ⟨X,0,none⟩), .int .i64 (k:Int), .func (.func 167) #[] #[.pointer (some ⟨w.heap.size+1,0,none⟩)]] W fun e w'=>e = .returned (.int .i64 J)∧Pure W w':=by
              intro W hpW
              rw [hJ]
              have hpWw:Pure w W:=hp'.trans hpW
              refine yiy X A es cap (k:Int) 167 #[.pointer (some ⟨w.heap.size+1,0,none⟩)] (fun u=>gb b' u.toNat) W (hpW.cell id (Row.cell hXr (i:=1) rfl)) (HES.out.keep hpWw) (fun x hx=>by have:=HE.out x hx;omega) (fun x hx=>by have:=HE.out x hx;omega) j1 (by omega) hel (enters_of func167 (by kernel_rfl) rfl) ?_
              rintro u W2 hp2 ⟨m,hm⟩
              obtain ⟨u1,u2,_,_⟩:=yb4 HE.out hm
              have:=isBurnt_any (w.heap.size+1) w.heap.size n n b' u.toNat W2 ((hpW.trans hp2).row rB' id) ((hpW.trans hp2).row rb' id) HI'.out.1 (by omega)
              rw [Int.toNat_of_nonneg u1] at this
              exact this
            have HJ:=Lib.hid hJ
            have HCA:=Lib.hid hcall
            clear hJ hcall
            have fB:=bset rb' k true
            by_cases hlt2:gi d k<J
            · have t1:decide (gi d k<J)=true:=by simpa using hlt2
              go_wp2
              go_region_held3 (fun w'=>w'.cell? ⟨w.heap.size+1,0,none⟩=some (.slice (some ⟨w.heap.size,0,none⟩) n n)∧w'.cell? ⟨w.heap.size,k,none⟩=some (.bool false)∧w'.cell? ⟨X,3,none⟩=some (.slice (some ⟨gd,0,none⟩) d.length cdd)∧w'.cell? ⟨gd,k,none⟩=some (.int .i64 (gi d k)))
                (first
                  | go_keep
                  | (go_split_ands
                     exact ⟨hp1.cell id (by assumption),hp1.cell id (by assumption),hp1.cell id (by assumption),hp1.cell id (by assumption)⟩))
                ((first | (go_at_call 111;refine (HCA.out _ (by exact (Keeps.refl _ _).drew)).mono ?_;rintro e w1 ⟨rfl,hp1⟩)))
              have rb1:=hp1.row (Row.drew rb') id
              have rB1:=hp1.row (Row.drew rB') id
              have p1:Pure w w1:=Pure.after hp'.drew hp1
              have cB1:=Row.cell rB1 (i:=0) rfl
              have cb1:=bcell rb1 (k:=k) (by rw [HI'.out.1];exact hlt)
              have fb1:=Row.frozen rb1 k
              have HP1:=Lib.hid hp1
              clear hp1 cB cb
              go_wp2
              go_roundw
              case rel =>
                refine ⟨k+1,true,b'.set k true,by omega,by go_num,rfl,bset rb1 k true,rB1.far (by simp) _,p1.setCell (fun h=>absurd h (by simp)) _,⟨by simpa using HI'.out.1,?_,HI'.out.2.2.step HE.out (by rw [HI'.out.1];exact hlt) (by rw [←HJ.out];exact hlt2)⟩,(fun h=>by cases h),?_⟩
                · rw [yeB (by rw [HI'.out.1];exact hlt)]
                  split
                  · rfl
                  · exact HI'.out.2.1
                · have h1:=cf_set (b:=b') (v:=k) (by rw [HI'.out.1];exact hlt) HB.out
                  have h2:=HM'.out
                  show cf (b'.set k true)+1≤cf b
                  omega
              case measure=>simp [intOf];omega
            · have t1:decide (gi d k<J)=false:=by simpa using hlt2
              go_wp2
              go_region_held3 (fun w'=>w'.cell? ⟨w.heap.size+1,0,none⟩=some (.slice (some ⟨w.heap.size,0,none⟩) n n)∧w'.cell? ⟨w.heap.size,k,none⟩=some (.bool false)∧w'.cell? ⟨X,3,none⟩=some (.slice (some ⟨gd,0,none⟩) d.length cdd)∧w'.cell? ⟨gd,k,none⟩=some (.int .i64 (gi d k)))
                (first
                  | go_keep
                  | (go_split_ands
                     exact ⟨hp1.cell id (by assumption),hp1.cell id (by assumption),hp1.cell id (by assumption),hp1.cell id (by assumption)⟩))
                ((first | (go_at_call 111;refine (HCA.out _ (by exact (Keeps.refl _ _).drew)).mono ?_;rintro e w1 ⟨rfl,hp1⟩)))
              have rb1:=hp1.row (Row.drew rb') id
              have rB1:=hp1.row (Row.drew rB') id
              have p1:Pure w w1:=Pure.after hp'.drew hp1
              have HP1:=Lib.hid hp1
              clear hp1 cB cb
              go_wp2
              go_roundw
              case rel =>
                refine ⟨k+1,ag,b',by omega,by go_num,rfl,rb1,rB1,p1,HI',?_,HM'⟩
                intro hag
                obtain ⟨e1,e2⟩:=HA.out hag
                refine ⟨e1,fun v hv hvb=>?_⟩
                by_cases e:v=k
                · subst e;rw [←e1,←HJ.out];omega
                · exact e2 v (by omega) hvb
              case measure=>simp [intOf];omega
        · obtain rfl:k=n:=by omega
          go_wp2
          go_roundg (2*cf b'+(if ag then 1 else 0))
          case rel =>
            refine ⟨ag,b',rfl,rb',rB',hp',HI',?_,Nat.le_refl _⟩
            intro hag
            obtain ⟨e1,e2⟩:=HA.out hag
            rw [e1]
            exact e2
          case measure =>
            have h1:=HM.out
            have h2:=HM'.out
            simp only [if_true] at h1
            split at h2 <;> simp_all <;> omega
end Go.Proofs.YtjepipbkiadcpaaGreat

/- Words for contracts that are proved from shallow forms: rows of numbers and bools read and written by index, states, the links' iterator. -/
namespace Go.Proofs.YtjepipbkiadcpaaGreat
open Go Go.RowKit Go.Shelf Go.Proofs.Tryz
set_option maxRecDepth 100000
theorem in64{a:Int}(h : -1000000000000000000≤a∧a≤1000000000000000000):In64 a:=⟨by omega,by omega⟩
theorem ybr{p:Addr}{l:Nat}{i:Int}(h0:0≤i)(h1:i<(l:Int)):Ix (some p) l i:=⟨rfl,h0,h1⟩
theorem ixA_zero(g:Nat)(i:Int)(sz:Nat):ixA (some ⟨g,0,none⟩) i sz=⟨g,i.toNat*sz,none⟩:=by simp [ixA,Addr.add_mid]
theorem ybK(g:Nat)(i:Int):ixA (some ⟨g,0,none⟩) i 1=⟨g,i.toNat,none⟩:=by simp [ixA_zero]
theorem ixA_off(g o:Nat)(i:Int)(sz:Nat):ixA (some ⟨g,o,none⟩) i sz=⟨g,o+i.toNat*sz,none⟩:=by simp [ixA,Addr.add_mid]
theorem ycB(g k:Nat):(⟨g,0,none⟩:Addr).add k=⟨g,k,none⟩:=by simp [Addr.add_mid]
theorem ygC(a:Addr):a.add 0=a:=rfl
section
variable {w w' : World} {g : Nat} {e : TypeId} {size : Nat}
theorem Row.at_ {xs:List Value}(h:Row w g e size xs)(k:Nat){v:Value}(hv:xs[k]? = some v):w.cell? ((⟨g,0,none⟩:Addr).add k)=some v:=by rw [ycB];exact h.cell hv
theorem Row.wr_ {xs:List Value}(h:Row w g e size xs)(k:Nat)(hk:k<xs.length):Wr w ((⟨g,0,none⟩:Addr).add k):=by
  rw [ycB];exact ⟨by rw [h.cell (List.getElem?_eq_getElem hk)];rfl,h.frozen k⟩
theorem ild{xs:List Int}(h:IRow w g e size xs){i:Int}(h0:0≤i)(h1:i<(xs.length:Int)):w.cell? (ixA (some ⟨g,0,none⟩) i 1)=some (.int .i64 (gi xs i.toNat)):=by
  rw [ybK];exact icell h (by omega)
theorem bld{xs:List Bool}(h:BRow w g e size xs){i:Int}(h0:0≤i)(h1:i<(xs.length:Int)):w.cell? (ixA (some ⟨g,0,none⟩) i 1)=some (.bool (gb xs i.toNat)):=by
  rw [ybK];exact bcell h (by omega)
theorem iwr{xs:List Int}(h:IRow w g e size xs){i:Int}(h0:0≤i)(h1:i<(xs.length:Int)):Wr w (ixA (some ⟨g,0,none⟩) i 1):=by
  rw [ybK];exact ⟨by rw [icell h (by omega)];rfl,Row.frozen h _⟩
theorem bwr{xs:List Bool}(h:BRow w g e size xs){i:Int}(h0:0≤i)(h1:i<(xs.length:Int)):Wr w (ixA (some ⟨g,0,none⟩) i 1):=by
  rw [ybK];exact ⟨by rw [bcell h (by omega)];rfl,Row.frozen h _⟩
theorem ist{xs:List Int}(h:IRow w g e size xs)(i:Int)(v:Int):IRow (w.setCell (ixA (some ⟨g,0,none⟩) i 1) (.int .i64 v)) g e size (xs.set i.toNat v):=by
  rw [ybK];exact iset h _ _
theorem bst{xs:List Bool}(h:BRow w g e size xs)(i:Int)(v:Bool):BRow (w.setCell (ixA (some ⟨g,0,none⟩) i 1) (.bool v)) g e size (xs.set i.toNat v):=by
  rw [ybK];exact bset h _ _
theorem Row.far_ {xs:List Value}(h:Row w g e size xs){k:Nat}(hk:g≠k)(i:Int)(v:Value):Row (w.setCell (ixA (some ⟨k,0,none⟩) i 1) v) g e size xs:=by
  rw [ybK];exact h.far hk v
theorem Keeps.set_ {S:Nat→Prop}{a:World}(h:Keeps S a w){k:Nat}(hk:S k)(i:Int)(v:Value):Keeps S a (w.setCell (ixA (some ⟨k,0,none⟩) i 1) v):=by
  rw [ybK];exact h.setCell (fun _=>hk) v
theorem New.row_ {cs:Array Value}{T:TypeId}(h:New w g w' cs T){k:Nat}{e:TypeId}{size:Nat}{xs:List Value}(hr:Row w k e size xs):Row w' k e size xs:=hr.kp (h.kp k)
end
theorem ints_ld{w:World}{A:Option Addr}{xs:List Int}(h:Ints w A xs){i:Int}(h0:0≤i)(h1:i<(xs.length:Int)):w.cell? (ixA A i 1)=some (.int .i64 (gi xs i.toNat)):=by
  obtain ⟨b,off,rfl,_,hc⟩:=h (by omega)
  rw [ixA_off,Nat.mul_one];exact hc _ (by omega)
theorem ints_ix{w:World}{A:Option Addr}{xs:List Int}(h:Ints w A xs){l:Nat}(hl:l=xs.length){i:Int}(h0:0≤i)(h1:i<(xs.length:Int)):Ix A l i:=by
  obtain ⟨b,off,rfl,_,hc⟩:=h (by omega)
  exact ⟨rfl,h0,by omega⟩
theorem Row.cells_ {w:World}{g:Nat}{e:TypeId}{size:Nat}{xs:List Value}(h:Row w g e size xs):∀ o:Obj,w.heap[g]? = some o→o.isCells=true:=by
  intro o ho
  obtain ⟨cur,h1,_⟩:=h
  rw [h1] at ho
  cases ho
  rfl
theorem Row.ne_ {w:World}{g g':Nat}{e e':TypeId}{size size':Nat}{xs xs':List Value}(h:Row w g e size xs)(h':Row w g' e' size' xs')(he:e≠e'):g≠g':=by
  rintro rfl
  obtain ⟨cur,h1,_⟩:=h
  obtain ⟨cur',h1',_⟩:=h'
  rw [h1] at h1'
  cases h1'
  exact he rfl
def LinkK(A:Option Addr)(es:List E3)(bv:Nat)(k:Nat):Prop:=k=bv∨(0<es.length∧∃ a,A=some a∧k=a.block)
theorem links_iter(X:Nat)(A:Option Addr)(es:List E3)(cap:Nat)(v:Int)(bx bv:Nat)(w:World)(hx:Row w bx 117 1 [.pointer (some ⟨X,0,none⟩)])(hb:Row w bv 3 1 [.int .i64 v])
    (hX:w.cell? ⟨X,1,none⟩=some (.slice A es.length cap)) (hes:ydc w A es) (hE:ydz es) (hv0:0≤v) (hv:v<12) (hlen:es.length≤1000000000) :
    IterOf Tryz.prog (.func (.func 199) #[] #[.pointer (some ⟨bx,0,none⟩), .pointer (some ⟨bv,0,none⟩)]) (encL es v) (fun xs=>xs.map (·.1)=ycr es v) (KB (LinkK A es bv)) es.length w:=by
  obtain ⟨b,off,hA,hbl,hcs⟩:∃ b off,(0<es.length→A=some ⟨b,off,none⟩)∧(0<es.length→b<w.heap.size)∧∀ k,k<es.length→w.cell? ⟨b,off+k*3,none⟩=some (.int .i64 (ge es k).1)∧w.cell? ⟨b,off+k*3+1,none⟩=some (.int .i64 (ge es k).2.1)∧w.cell? ⟨b,off+k*3+2,none⟩=some (.int .i64 (ge es k).2.2):=by
    rcases Nat.eq_zero_or_pos es.length with h0 | h0
    · exact ⟨0,0,fun h=>absurd h (by omega),fun h=>absurd h (by omega),fun k hk=>absurd hk (by omega)⟩
    · obtain ⟨b,off,e,hb,hc⟩:=hes h0
      exact ⟨b,off,fun _=>e,fun _=>hb,hc⟩
  have hlt:∀ k,LinkK A es bv k→k<w.heap.size:=by
    rintro k (rfl | ⟨h0,a,ha,rfl⟩)
    · exact hb.lt
    · rw [hA h0] at ha;cases ha;exact hbl h0
  refine ⟨_,_,rfl,enters_of func199 (by kernel_rfl) rfl,?_,fun h k=>h.trans k,fun W l o o' h1 h2 h3 h4=>KB.put hlt W l o o' h1 h2 h3 h4⟩
  intro l J Jx W hW hJ hJx hY h0
  have hc:∀ (p:Addr) (u:Value),p.block<w.heap.size→w.cell? p=some u→W.cell? p=some u:=fun p u hp h=>(hW.cell (p:=p) hp).trans h
  have hXl:X<w.heap.size:=by
    rcases Nat.lt_or_ge X w.heap.size with h | h
    · exact h
    · rw [World.cell?,Array.getElem?_eq_none h] at hX;cases hX
  exact links_in 2 (by omega) l bx bv b off X W es cap v A hA _ (.inl rfl) (fun h => .inr ⟨h,_,hA h,rfl⟩) (fun k hk=>Nat.lt_of_lt_of_le (hlt k hk) hW.size) hE hv0 hv hlen J Jx hJ hY h0
    (hc _ _ hx.lt (Row.cell hx (i:=0) rfl)) (hc _ _ hb.lt (Row.cell hb (i:=0) rfl)) (hc _ _ hXl hX)
    (fun k hk=>⟨hc _ _ (hbl (by omega)) (hcs k hk).1,hc _ _ (hbl (by omega)) (hcs k hk).2.1,hc _ _ (hbl (by omega)) (hcs k hk).2.2⟩)
theorem stays_of{α:Type}{B:Nat}{I:List α→World→Prop}(h:∀ s W W' row,I s W→W.grownBy W' row→(∀ r,row=some r→B≤r∧∃ o:Obj,W.heap[r]? = some o∧o.isCells=false)→I s W'):Stays B I:=h
end Go.Proofs.YtjepipbkiadcpaaGreat

/- Shallow forms of functions, made by program (sh.py), each with the proof that the code does so. -/
namespace Go.Proofs.YtjepipbkiadcpaaGreat
open Go Go.RowKit Go.Shelf Go.Proofs.Tryz
set_option maxRecDepth 100000
set_option maxHeartbeats 8000000
def ycR(pd:Addr)(Ai:Option Addr)(li:Nat)(ci:Nat)(a:Int)(w:World)(R:World→Prop):Prop :=
(∀ (g:Nat) (w2:World),New w g w2 #[(Value.pointer (some pd))] 117 →
(∀ (g2:Nat) (w3:World),New w2 g2 w3 #[(Value.int .i64 a)] 3 →
(∃ I2:Nat→Int→World→Prop,(∃ m0,I2 m0 0 w3)∧∀ m1 i w4,I2 m1 i w4 → 
((i<((li:Nat):Int) →
(Ix Ai li i ∧
(∃ x:Bool,w4.cell? (ixA Ai i 1)=some (Value.bool (x)) ∧
(∀ (g3:Nat) (w5:World),New w4 g3 w5 #[(Value.int .i64 0)] 3 →
(g3≠g ∧
g3≠g2 ∧
∀ w6,w6=w5.setCell (⟨g3,0,none⟩:Addr) (Value.int .i64 i) →
((x=true →
(∃ Ax:Option Addr,∃ lx:Nat,∃ cx:Nat,w6.drew.cell? (Addr.add pd 4)=some (Value.slice Ax lx cx) ∧
(Ix Ax lx i ∧
(∃ x2:Int,w6.drew.cell? (ixA Ax i 1)=some (Value.int .i64 x2) ∧
(In64 (x2+a) ∧
(Ix Ax lx i ∧
(Wr w6.drew (ixA Ax i 1) ∧
(ixA Ax i 1).block≠g ∧
(ixA Ax i 1).block≠g2 ∧
(ixA Ax i 1).block≠g3 ∧
∀ w7,w7=w6.drew.setCell (ixA Ax i 1) (Value.int .i64 (x2+a)) →
(Calls Tryz.prog 166 #[(Value.pointer (some pd)),(Value.int .i64 i)] w7 fun e w8=>∃ r:Value,e = .returned r ∧
Kp w7 w8 g ∧
Kp w7 w8 g2 ∧
Kp w7 w8 g3 ∧
KpM w7 w8 ∧
(∃ (α:Type) (val:α→Array Value) (S:List α→Prop) (Kq:World→World→Prop) (len:Nat) (I3:List α→World→Prop),IterOf Tryz.prog r val S Kq len w8∧(∀ x,(val x).size=2)∧Stays w8.heap.size I3∧I3 [] w8∧(∀ pr W,I3 pr W→Kp w8 W g∧Kp w8 W g2∧Kp w8 W g3∧True) ∧
(∀ pre (el:α) w9,I3 pre w9→pre.length<len→∃ y:Int,∃ y2:Int,val el = #[(Value.int .i64 y),(Value.int .i64 y2)] ∧
(∃ Ax2:Option Addr,∃ lx2:Nat,∃ cx2:Nat,w9.drew.cell? (Addr.add pd 3)=some (Value.slice Ax2 lx2 cx2) ∧
(Ix Ax2 lx2 i ∧
(∃ x3:Int,w9.drew.cell? (ixA Ax2 i 1)=some (Value.int .i64 x3) ∧
(In64 (y2*a) ∧
(In64 (x3-(y2*a)) ∧
(Ix Ax2 lx2 i ∧
(Wr w9.drew (ixA Ax2 i 1) ∧
(ixA Ax2 i 1).block≠g ∧
(ixA Ax2 i 1).block≠g2 ∧
(ixA Ax2 i 1).block≠g3 ∧
∀ w11,w11=w9.drew.setCell (ixA Ax2 i 1) (Value.int .i64 (x3-(y2*a))) →
(∃ Ax3:Option Addr,∃ lx3:Nat,∃ cx3:Nat,w11.drew.cell? (Addr.add pd 3)=some (Value.slice Ax3 lx3 cx3) ∧
(Ix Ax3 lx3 y ∧
(∃ x4:Int,w11.drew.cell? (ixA Ax3 y 1)=some (Value.int .i64 x4) ∧
(In64 (y2*a) ∧
(In64 (x4+(y2*a)) ∧
(Ix Ax3 lx3 y ∧
(Wr w11.drew (ixA Ax3 y 1) ∧
(ixA Ax3 y 1).block≠g ∧
(ixA Ax3 y 1).block≠g2 ∧
(ixA Ax3 y 1).block≠g3 ∧
∀ w12,w12=w11.drew.setCell (ixA Ax3 y 1) (Value.int .i64 (x4+(y2*a))) →
(KeepsOthers w9 w12∧Kq w9 w12∧I3 (pre++[el]) w12)))))))))))))))) ∧
(∀ xs w10,S xs→I3 xs w10 →
KpM w8 w10 ∧
(In64 (i+1) ∧
∃ m2,m2<m1∧I2 m2 (i+1) w10))))))))))) ∧
(¬(x=true) →
(In64 (i+1) ∧
∃ m3,m3<m1∧I2 m3 (i+1) w6)))))))) ∧
(¬(i<((li:Nat):Int)) →
(∃ Ax4:Option Addr,∃ lx4:Nat,∃ cx4:Nat,w4.cell? (Addr.add pd 3)=some (Value.slice Ax4 lx4 cx4) ∧
(∃ I4:Nat→Int→World→Prop,(∃ m0,I4 m0 0 w4)∧∀ m4 i2 w13,I4 m4 i2 w13 → 
((i2<((lx4:Nat):Int) →
(∃ Ax5:Option Addr,∃ lx5:Nat,∃ cx5:Nat,w13.drew.cell? (Addr.add pd 3)=some (Value.slice Ax5 lx5 cx5) ∧
(Ix Ax5 lx5 i2 ∧
(∃ x5:Int,w13.drew.cell? (ixA Ax5 i2 1)=some (Value.int .i64 x5) ∧
(∃ Ax6:Option Addr,∃ lx6:Nat,∃ cx6:Nat,w13.drew.cell? (Addr.add pd 3)=some (Value.slice Ax6 lx6 cx6) ∧
(Ix Ax6 lx6 i2 ∧
(∃ x6:Int,w13.drew.cell? (ixA Ax6 i2 1)=some (Value.int .i64 x6) ∧
(In64 (-x6) ∧
(∃ Ax7:Option Addr,∃ lx7:Nat,∃ cx7:Nat,w13.drew.cell? (Addr.add pd 4)=some (Value.slice Ax7 lx7 cx7) ∧
(Ix Ax7 lx7 i2 ∧
(∃ x7:Int,w13.drew.cell? (ixA Ax7 i2 1)=some (Value.int .i64 x7) ∧
(∃ Ax8:Option Addr,∃ lx8:Nat,∃ cx8:Nat,w13.drew.cell? (Addr.add pd 4)=some (Value.slice Ax8 lx8 cx8) ∧
(Ix Ax8 lx8 i2 ∧
(∃ x8:Int,w13.drew.cell? (ixA Ax8 i2 1)=some (Value.int .i64 x8) ∧
(In64 (-x8) ∧
((2097152<(mxF4 x5 (-x6) x7 (-x8)) →
(∃ x9:Int,w13.drew.cell? (Addr.add pd 5)=some (Value.int .i64 x9) ∧
((x9=0 →
(Wr w13.drew (Addr.add pd 5) ∧
(Addr.add pd 5).block≠g ∧
(Addr.add pd 5).block≠g2 ∧
∀ w14,w14=w13.drew.setCell (Addr.add pd 5) (Value.int .i64 11) →
(In64 (i2+1) ∧
∃ m5,m5<m4∧I4 m5 (i2+1) w14))) ∧
(¬(x9=0) →
(In64 (i2+1) ∧
∃ m6,m6<m4∧I4 m6 (i2+1) w13.drew))))) ∧
(¬(2097152<(mxF4 x5 (-x6) x7 (-x8))) →
(In64 (i2+1) ∧
∃ m7,m7<m4∧I4 m7 (i2+1) w13.drew)))))))))))))))))) ∧
(¬(i2<((lx4:Nat):Int)) →
(∀ wz,After w.heap.size w13 wz→R wz))))))))))
theorem yfI(pd:Addr)(Ai:Option Addr)(li:Nat)(ci:Nat)(a:Int)(w:World)(R:World→Prop)(h:ycR pd Ai li ci a w R) :
    Calls Tryz.prog 109 #[(.pointer (some pd)),(.slice Ai li ci),(ii a)] w fun e w'=>e = .returned (.tuple #[])∧R  w':=by
  unfold ycR at h;refine yes (l:=[(.pointer (some pd)),(.slice Ai li ci),(ii a)]) func109 rfl ntmps109 zY ?_;have hM:=ydO.nil w;refine zs (zn (ybi (v:=(.pointer (some pd))) rfl ?_));intro g w2 hN;replace h:=h g w2 hN;replace hM:=hM.kp hN.kpm;have rB:Row w2 g 117 1 [(.pointer (some pd))]:=hN.row;clear hN;refine zb (zn (ybi (v:=(ii a)) rfl ?_));intro g2 w3 hN2;replace h:=h g2 w3 hN2;replace hM:=hM.kp hN2.kpm;replace rB:=rB.kp (hN2.kp _);have rB2:Row w3 g2 3 1 [(ii a)]:=hN2.row;clear hN2;refine zb (yaa (yac (zs (zM (.slice Ai li ci) (zq (yhE rfl underlying168) (zM (ii 0) (yaa (yah ?_))))))));obtain ⟨I2,⟨m0,h0⟩,hr⟩:=h;refine yaA (fun m E ds w'=>∃ i,I2 m i w'∧ydO w.heap.size ds w'∧E 3=(Value.pointer (some ⟨g,0,none⟩))∧E 5=(Value.pointer (some ⟨g2,0,none⟩))∧E 11=(Value.slice Ai li ci)∧E 12=(ii ((li:Nat):Int))∧E 13=(ii i)∧Row w' g 117 1 [(.pointer (some pd))]∧Row w' g2 3 1 [(ii a)]) m0 ⟨_,h0,hM,rfl,rfl,rfl,rfl,rfl,rB,rB2⟩ ?_;clear h0;rintro m1 E ds w4 ⟨i,h,hM,hE3,hE5,hE11,hE12,hE13,rB,rB2⟩ again;replace h:=hr m1 i w4 h;clear hr;refine zs (zq (ydf hE13 hE12) (yaa (yac ?_)));by_cases hp:i<((li:Nat):Int)
  · replace h:=h.1 hp;refine zc hp (yaf (yac (yah (zs (zq (yad hE13) ?_)))));obtain ⟨hx,h⟩:=h;refine zq (ycw hE11 hE13 underlying168 ybP hx) ?_;obtain ⟨x,hc,h⟩:=h;refine zq (zl underlying4 hc) (zn (ya1 yab ?_));intro g3 w5 hN3;replace h:=h g3 w5 hN3;replace hM:=hM.kp hN3.kpm;replace rB:=rB.kp (hN3.kp _);replace rB2:=rB2.kp (hN3.kp _);have rB3:Row w5 g3 3 1 [(ii 0)]:=hN3.row;clear hN3;refine zb ?_;obtain ⟨hb,h⟩:=h;obtain ⟨hb2,h⟩:=h;refine zo (zt (ii i) yab (wr_row rB3 (i:=0) rfl) ?_);intro w6 ew;replace h:=h w6 ew;replace hM:ydO _ _ w6:=hM.kp (by rw [ew];exact yfX);replace rB3:Row w6 g3 3 1 [(ii i)]:=row_set rB3 0 (ii i) ew;replace rB:Row w6 g 117 1 [(.pointer (some pd))]:=rB.kp (by rw [ew];exact yc2 hb);replace rB2:Row w6 g2 3 1 [(ii a)]:=rB2.kp (by rw [ew];exact yc2 hb2);clear ew;refine zb (zQ (.bool (x)) (yaa (yac (zs (zM (.bool (x)) (zq (ydd rfl) (yaa ?_)))))));by_cases hp2:x=true
    · replace h:=h.1 hp2;refine yaq (zC (zB hp2)) (yaf (yac (ya9 [0,1,2,3,4,5,6,7,8,9,10] st0 yaQ (by kernel_rfl) (by kernel_rfl) ?_)));replace hM:=hM.kp (KpM.drew _);replace rB:=rB.drew;replace rB2:=rB2.drew;replace rB3:=rB3.drew;refine zp (yam hE3 underlying117 rfl (Row.cell rB (i:=0) rfl)) (zp (ybj rfl) (zp (yae rfl underlying172 rfl yfO) ?_));obtain ⟨Ax,lx,cx,hc2,h⟩:=h;refine zp (zl underlying56 hc2) (zp (zl underlying3 (Row.cell rB3 (i:=0) rfl)) ?_);obtain ⟨hx2,h⟩:=h;refine zp (zi underlying56 yab hx2) ?_;obtain ⟨x2,hc3,h⟩:=h;refine zp (zl underlying3 hc3) (zp (yam hE5 underlying3 rfl (Row.cell rB2 (i:=0) rfl)) ?_);obtain ⟨hi,h⟩:=h;refine zp (zA hi) ?_;obtain ⟨hx3,h⟩:=h;refine zp (zi underlying56 yab hx3) ?_;obtain ⟨hw2,h⟩:=h;obtain ⟨hb3,h⟩:=h;obtain ⟨hb4,h⟩:=h;obtain ⟨hb5,h⟩:=h;refine ygv rfl rfl rfl (zt (ii (x2+a)) yab hw2 ?_);intro w7 ew2;replace h:=h w7 ew2;replace hM:ydO _ _ w7:=hM.kp (by rw [ew2];exact yfX);replace rB:Row w7 g 117 1 [(.pointer (some pd))]:=rB.kp (by rw [ew2];exact yc2 hb3);replace rB2:Row w7 g2 3 1 [(ii a)]:=rB2.kp (by rw [ew2];exact yc2 hb4);replace rB3:Row w7 g3 3 1 [(ii i)]:=rB3.kp (by rw [ew2];exact yc2 hb5);clear ew2;refine zb (ybq (zs (zq (yam hE3 underlying117 rfl (Row.cell rB (i:=0) rfl)) (zq (zl underlying3 (Row.cell rB3 (i:=0) rfl)) (zn (yaj rfl (am2 rfl rfl) enter_166 (h.mono ?_)))))));rintro _ w8 ⟨r,rfl,hk,hk2,hk3,hkm,h⟩;replace hM:=hM.kp hkm;replace rB:=rB.kp hk;replace rB2:=rB2.kp hk2;replace rB3:=rB3.kp hk3;refine ⟨_,rfl,Stb.none _,?_⟩;refine yaa (yah ?_);obtain ⟨α,val,S,Kq,len,I3,hIt,hsz,hst,h0,hkp,hb,h⟩:=h;refine wt_range rfl hIt hsz rfl rfl I3 hst h0 ?_ ?_
      · intro ll pre el w9 hIp hlen;obtain ⟨y,y2,hv,h⟩:=hb pre el w9 hIp hlen;rw [hv];replace rB:=rB.kp (hkp pre w9 hIp).1;replace rB2:=rB2.kp (hkp pre w9 hIp).2.1;replace rB3:=rB3.kp (hkp pre w9 hIp).2.2.1;refine yah (yac (ya9 [0,1,2,3,4,5,6,7,8,9,10,11,12] st0 (ybG ll) (by kernel_rfl) (by kernel_rfl) ?_));replace rB:=rB.drew;replace rB2:=rB2.drew;replace rB3:=rB3.drew;refine zp (yam hE3 underlying117 rfl (Row.cell rB (i:=0) rfl)) (zp (ybj rfl) (zp (yae rfl underlying172 rfl yaY) ?_));obtain ⟨Ax2,lx2,cx2,hc4,h⟩:=h;refine zp (zl underlying34 hc4) (zp (zl underlying3 (Row.cell rB3 (i:=0) rfl)) ?_);obtain ⟨hx4,h⟩:=h;refine zp (zi underlying34 yab hx4) ?_;obtain ⟨x3,hc5,h⟩:=h;refine zp (zl underlying3 hc5) (zp (zm (ii y2)) (zp (yam hE5 underlying3 rfl (Row.cell rB2 (i:=0) rfl)) ?_));obtain ⟨hi2,h⟩:=h;refine zp (v_mul rfl rfl hi2) ?_;obtain ⟨hi3,h⟩:=h;refine zp (zS hi3) ?_;obtain ⟨hx5,h⟩:=h;refine zp (zi underlying34 yab hx5) ?_;obtain ⟨hw3,h⟩:=h;obtain ⟨hb6,h⟩:=h;obtain ⟨hb7,h⟩:=h;obtain ⟨hb8,h⟩:=h;refine ygv rfl rfl rfl (zt (ii (x3-(y2*a))) yab hw3 ?_);intro w11 ew3;replace h:=h w11 ew3;replace rB:Row w11 g 117 1 [(.pointer (some pd))]:=rB.kp (by rw [ew3];exact yc2 hb6);replace rB2:Row w11 g2 3 1 [(ii a)]:=rB2.kp (by rw [ew3];exact yc2 hb7);replace rB3:Row w11 g3 3 1 [(ii i)]:=rB3.kp (by rw [ew3];exact yc2 hb8);clear ew3;refine zb (ybq (ya9 [0,1,2,3,4,5,6,7,8,9,10,11,12] st0 (ybG ll) (by kernel_rfl) (by kernel_rfl) ?_));replace rB:=rB.drew;replace rB2:=rB2.drew;replace rB3:=rB3.drew;refine zp (yam hE3 underlying117 rfl (Row.cell rB (i:=0) rfl)) (zp (ybj rfl) (zp (yae rfl underlying172 rfl yaY) ?_));obtain ⟨Ax3,lx3,cx3,hc6,h⟩:=h;refine zp (zl underlying34 hc6) (zp (zm (ii y)) ?_);obtain ⟨hx6,h⟩:=h;refine zp (zi underlying34 yab hx6) ?_;obtain ⟨x4,hc7,h⟩:=h;refine zp (zl underlying3 hc7) (zp (zm (ii y2)) (zp (yam hE5 underlying3 rfl (Row.cell rB2 (i:=0) rfl)) ?_));obtain ⟨hi4,h⟩:=h;refine zp (v_mul rfl rfl hi4) ?_;obtain ⟨hi5,h⟩:=h;refine zp (zA hi5) ?_;obtain ⟨hx7,h⟩:=h;refine zp (zi underlying34 yab hx7) ?_;obtain ⟨hw4,h⟩:=h;obtain ⟨hb9,h⟩:=h;obtain ⟨hb10,h⟩:=h;obtain ⟨hb11,h⟩:=h;refine ygv rfl rfl rfl (zt (ii (x4+(y2*a))) yab hw4 ?_);intro w12 ew4;replace h:=h w12 ew4;replace rB:Row w12 g 117 1 [(.pointer (some pd))]:=rB.kp (by rw [ew4];exact yc2 hb9);replace rB2:Row w12 g2 3 1 [(ii a)]:=rB2.kp (by rw [ew4];exact yc2 hb10);replace rB3:Row w12 g3 3 1 [(ii i)]:=rB3.kp (by rw [ew4];exact yc2 hb11);clear ew4;exact zb (ybq (yag (yer (fun a r=>h))))
      · intro D xs w10 hD hS hIp hK;replace h:=h xs w10 hS hIp;replace rB:=rB.kp (hkp xs w10 hIp).1;replace rB2:=rB2.kp (hkp xs w10 hIp).2.1;replace rB3:=rB3.kp (hkp xs w10 hIp).2.2.1;obtain ⟨hkm,h⟩:=h;replace hM:=ydO.push hM hkm hD hK;refine yag (yag (zr ?_));obtain ⟨hi6,h⟩:=h;refine zq (ybU hE13 rfl hi6) (zM (ii (i+1)) (yaa ?_));obtain ⟨mq,hlt,h⟩:=h;exact again mq _ _ _ ⟨_,h,hM,hE3,hE5,hE11,hE12,rfl,rB,rB2⟩ hlt
    · replace h:=h.2 hp2;refine yal (zC (zB (zI hp2))) (yav rfl (zr ?_));obtain ⟨hi7,h⟩:=h;refine zq (ybU hE13 rfl hi7) (zM (ii (i+1)) (yaa ?_));obtain ⟨mq,hlt,h⟩:=h;exact again mq _ _ _ ⟨_,h,hM,hE3,hE5,hE11,hE12,rfl,rB,rB2⟩ hlt
  · replace h:=h.2 hp;refine zd hp (yav rfl (zs (zq (yam hE3 underlying117 rfl (Row.cell rB (i:=0) rfl)) (zq (ybj rfl) (zq (yae rfl underlying172 rfl yaY) ?_)))));obtain ⟨Ax4,lx4,cx4,hc8,h⟩:=h;refine zq (zl underlying34 hc8) (zq (yhE rfl underlying34) (zM (ii 0) (yaa (yah ?_))));obtain ⟨I4,⟨m0,h0⟩,hr⟩:=h;refine yaA (fun m E ds w'=>∃ i2,I4 m i2 w'∧ydO w.heap.size ds w'∧E 3=(Value.pointer (some ⟨g,0,none⟩))∧E 64=(ii ((lx4:Nat):Int))∧E 65=(ii i2)∧Row w' g 117 1 [(.pointer (some pd))]∧Row w' g2 3 1 [(ii a)]) m0 ⟨_,h0,hM,hE3,rfl,rfl,rB,rB2⟩ ?_;clear h0;rintro m4 E ds w13 ⟨i2,h,hM,hE3,hE64,hE65,rB,rB2⟩ again2;replace h:=hr m4 i2 w13 h;clear hr;refine zs (zq (ydf hE65 hE64) (yaa (yac ?_)));by_cases hp3:i2<((lx4:Nat):Int)
    · replace h:=h.1 hp3;refine zc hp3 (yaf (yac (yah (zs (zq (yad hE65) (zQ (ii i2) (yaa (yac (ya9 [0,1,2,3,4,5,6,7,8,9,10,11,12,13,14,15,16,17,18,19,20,21,22,23,24,25,26,27,28,29,30,31,32,33,34,35,36,37,38] st0 yaQ (by kernel_rfl) (by kernel_rfl) ?_)))))))));replace hM:=hM.kp (KpM.drew _);replace rB:=rB.drew;replace rB2:=rB2.drew;refine zp (yam hE3 underlying117 rfl (Row.cell rB (i:=0) rfl)) (zp (ybj rfl) (zp (yae rfl underlying172 rfl yaY) ?_));obtain ⟨Ax5,lx5,cx5,hc9,h⟩:=h;refine zp (zl underlying34 hc9) (zp (zm (ii i2)) ?_);obtain ⟨hx8,h⟩:=h;refine zp (zi underlying34 yab hx8) ?_;obtain ⟨x5,hc10,h⟩:=h;refine zp (zl underlying3 hc10) (zp (yam hE3 underlying117 rfl (Row.cell rB (i:=0) rfl)) (zp (ybj rfl) (zp (yae rfl underlying172 rfl yaY) ?_)));obtain ⟨Ax6,lx6,cx6,hc11,h⟩:=h;refine zp (zl underlying34 hc11) (zp (zm (ii i2)) ?_);obtain ⟨hx9,h⟩:=h;refine zp (zi underlying34 yab hx9) ?_;obtain ⟨x6,hc12,h⟩:=h;refine zp (zl underlying3 hc12) ?_;obtain ⟨hi8,h⟩:=h;refine zp (v_neg rfl hi8) (zp (yam hE3 underlying117 rfl (Row.cell rB (i:=0) rfl)) (zp (ybj rfl) (zp (yae rfl underlying172 rfl yfO) ?_)));obtain ⟨Ax7,lx7,cx7,hc13,h⟩:=h;refine zp (zl underlying56 hc13) (zp (zm (ii i2)) ?_);obtain ⟨hx10,h⟩:=h;refine zp (zi underlying56 yab hx10) ?_;obtain ⟨x7,hc14,h⟩:=h;refine zp (zl underlying3 hc14) (zp (yam hE3 underlying117 rfl (Row.cell rB (i:=0) rfl)) (zp (ybj rfl) (zp (yae rfl underlying172 rfl yfO) ?_)));obtain ⟨Ax8,lx8,cx8,hc15,h⟩:=h;refine zp (zl underlying56 hc15) (zp (zm (ii i2)) ?_);obtain ⟨hx11,h⟩:=h;refine zp (zi underlying56 yab hx11) ?_;obtain ⟨x8,hc16,h⟩:=h;refine zp (zl underlying3 hc16) ?_;obtain ⟨hi9,h⟩:=h;refine zp (v_neg rfl hi9) (zp (v_max4 rfl rfl rfl rfl) (zp zG (zp (zm (.bool (decide (2097152<(mxF4 x5 (-x6) x7 (-x8)))))) ?_)));by_cases hp4:2097152<(mxF4 x5 (-x6) x7 (-x8))
      · replace h:=h.1 hp4;refine rp_q (yar rfl (yaD rfl (zT hp4))) rfl rfl (yam hE3 underlying117 rfl (Row.cell rB (i:=0) rfl)) (rp_q (yar rfl (yaD rfl (zT hp4))) rfl rfl (ybj rfl) (rp_q (yar rfl (yaD rfl (zT hp4))) rfl rfl (yae rfl underlying172 rfl ycK) ?_));obtain ⟨x9,hc17,h⟩:=h;refine rp_q (yar rfl (yaD rfl (zT hp4))) rfl rfl (zl underlying29 hc17) (rp_q (yar rfl (yaD rfl (zT hp4))) rfl rfl zE (zp (yau (v:=(.bool (decide (x9=0)))) (zT hp4) rfl) (ybq ?_)));by_cases hp5:x9=0
        · replace h:=h.1 hp5;refine zc hp5 (zr (zq (yam hE3 underlying117 rfl (Row.cell rB (i:=0) rfl)) (zq (ybj rfl) (zq (yae rfl underlying172 rfl ycK) ?_))));obtain ⟨hw5,h⟩:=h;obtain ⟨hb12,h⟩:=h;obtain ⟨hb13,h⟩:=h;refine zo (zt (ii 11) ycK hw5 ?_);intro w14 ew5;replace h:=h w14 ew5;replace hM:ydO _ _ w14:=hM.kp (by rw [ew5];exact yfX);replace rB:Row w14 g 117 1 [(.pointer (some pd))]:=rB.kp (by rw [ew5];exact yc2 hb12);replace rB2:Row w14 g2 3 1 [(ii a)]:=rB2.kp (by rw [ew5];exact yc2 hb13);clear ew5;refine zb (yaa (yag (zr ?_)));obtain ⟨hi10,h⟩:=h;refine zq (ybU hE65 rfl hi10) (zM (ii (i2+1)) (yaa ?_));obtain ⟨mq,hlt,h⟩:=h;exact again2 mq _ _ _ ⟨_,h,hM,hE3,hE64,rfl,rB,rB2⟩ hlt
        · replace h:=h.2 hp5;refine zd hp5 (yaf (yag (zr ?_)));obtain ⟨hi11,h⟩:=h;refine zq (ybU hE65 rfl hi11) (zM (ii (i2+1)) (yaa ?_));obtain ⟨mq,hlt,h⟩:=h;exact again2 mq _ _ _ ⟨_,h,hM,hE3,hE64,rfl,rB,rB2⟩ hlt
      · replace h:=h.2 hp4;refine rp_p (yax rfl (yaD rfl (zF hp4)) rfl) rfl (rp_p (yax rfl (yaD rfl (zF hp4)) rfl) rfl (rp_p (yax rfl (yaD rfl (zF hp4)) rfl) rfl (rp_p (yax rfl (yaD rfl (zF hp4)) rfl) rfl (rp_p (yax rfl (yaD rfl (zF hp4)) rfl) rfl (zp (yaw (v:=(.bool (false))) (zF hp4) rfl) (ybq (yaq rfl (yaf (yag (zr ?_))))))))));obtain ⟨hi12,h⟩:=h;refine zq (ybU hE65 rfl hi12) (zM (ii (i2+1)) (yaa ?_));obtain ⟨mq,hlt,h⟩:=h;exact again2 mq _ _ _ ⟨_,h,hM,hE3,hE64,rfl,rB,rB2⟩ hlt
    · replace h:=h.2 hp3;exact zd hp3 (yav rfl (wt_endm0 hM rfl fun wz hz=>⟨rfl,h wz hz⟩))
def ybW(px:Addr)(w:World)(R:Option Addr→Nat→Nat→World→Prop):Prop :=
(∀ (g:Nat) (w2:World),New w g w2 #[(Value.int .i64 (-1))] 3 →
(∃ x:Int,w2.cell? (Addr.add (Addr.add px 0) 0)=some (Value.int .i64 x) ∧
(Calls Tryz.prog 165 #[(Value.slice (some ⟨g,0,none⟩) 1 1),(Value.int .i64 x)] w2 fun e w3=>∃ Ar2:Option Addr,∃ lr2:Nat,∃ cr2:Nat,e = .returned (Value.slice Ar2 lr2 cr2) ∧
KpM w2 w3 ∧
(∀ (g2:Nat) (w4:World),New w3 g2 w4 #[(Value.slice none 0 0)] 33 →
(∀ w5,w5=w4.setCell (⟨g2,0,none⟩:Addr) (Value.slice Ar2 lr2 cr2) →
(∃ x2:Int,w5.drew.cell? (Addr.add px 2)=some (Value.int .i64 x2) ∧
(Ix Ar2 lr2 x2 ∧
(Wr w5.drew (ixA Ar2 x2 1) ∧
(ixA Ar2 x2 1).block≠g2 ∧
∀ w6,w6=w5.drew.setCell (ixA Ar2 x2 1) (Value.int .i64 0) →
(∃ x3:Int,w6.cell? (Addr.add px 2)=some (Value.int .i64 x3) ∧
(∀ (g3:Nat) (w7:World),New w6 g3 w7 #[(Value.int .i64 x3)] 3 →
(∀ (g4:Nat) (w8:World),New w7 g4 w8 #[(Value.slice none 0 0)] 33 →
(Wr w8 (⟨g4,0,none⟩:Addr) ∧
(⟨g4,0,none⟩:Addr).block≠g2 ∧
∀ w9,w9=w8.setCell (⟨g4,0,none⟩:Addr) (Value.slice (some ⟨g3,0,none⟩) 1 1) →
(∃ I2:Nat→World→Prop,(∃ m0,I2 m0 w9)∧∀ m1 w10,I2 m1 w10 → 
(∃ Ax:Option Addr,∃ lx:Nat,∃ cx:Nat,w10.cell? (⟨g4,0,none⟩:Addr)=some (Value.slice Ax lx cx) ∧
((0<((lx:Nat):Int) →
(∃ Ax2:Option Addr,∃ lx2:Nat,∃ cx2:Nat,w10.cell? (⟨g4,0,none⟩:Addr)=some (Value.slice Ax2 lx2 cx2) ∧
(Ix Ax2 lx2 0 ∧
(∃ x4:Int,w10.cell? (ixA Ax2 0 1)=some (Value.int .i64 x4) ∧
(∀ (g5:Nat) (w11:World),New w10 g5 w11 #[(Value.int .i64 0)] 3 →
(g5≠g2 ∧
∀ w12,w12=w11.setCell (⟨g5,0,none⟩:Addr) (Value.int .i64 x4) →
(∃ Ax3:Option Addr,∃ lx3:Nat,∃ cx3:Nat,w12.cell? (⟨g4,0,none⟩:Addr)=some (Value.slice Ax3 lx3 cx3) ∧
((0≤(1:Int)∧(1:Int)≤((lx3:Nat):Int)) ∧
(Wr w12 (⟨g4,0,none⟩:Addr) ∧
(⟨g4,0,none⟩:Addr).block≠g2 ∧
(⟨g4,0,none⟩:Addr).block≠g5 ∧
∀ w13,w13=w12.setCell (⟨g4,0,none⟩:Addr) (Value.slice (slA Ax3 cx3 (1:Int).toNat 1) (lx3-(1:Int).toNat) (cx3-(1:Int).toNat)) →
(Calls Tryz.prog 166 #[(Value.pointer (some px)),(Value.int .i64 x4)] w13 fun e w14=>∃ r:Value,e = .returned r ∧
Kp w13 w14 g2 ∧
Kp w13 w14 g5 ∧
KpM w13 w14 ∧
(∃ (α:Type) (val:α→Array Value) (S:List α→Prop) (Kq:World→World→Prop) (len:Nat) (I3:List α→World→Prop),IterOf Tryz.prog r val S Kq len w14∧(∀ x,(val x).size=2)∧Stays w14.heap.size I3∧I3 [] w14∧(∀ pr W,I3 pr W→Kp w14 W g2∧Kp w14 W g5∧True) ∧
(∀ pre (el:α) w15,I3 pre w15→pre.length<len→∃ y:Int,∃ y2:Int,val el = #[(Value.int .i64 y),(Value.int .i64 y2)] ∧
(Ix Ar2 lr2 y ∧
(∃ x5:Int,w15.cell? (ixA Ar2 y 1)=some (Value.int .i64 x5) ∧
((x5<0 →
(Ix Ar2 lr2 x4 ∧
(∃ x6:Int,w15.drew.cell? (ixA Ar2 x4 1)=some (Value.int .i64 x6) ∧
(In64 (x6+1) ∧
(Ix Ar2 lr2 y ∧
(Wr w15.drew (ixA Ar2 y 1) ∧
(ixA Ar2 y 1).block≠g2 ∧
(ixA Ar2 y 1).block≠g5 ∧
∀ w17,w17=w15.drew.setCell (ixA Ar2 y 1) (Value.int .i64 (x6+1)) →
(∃ Ax4:Option Addr,∃ lx4:Nat,∃ cx4:Nat,w17.cell? (⟨g4,0,none⟩:Addr)=some (Value.slice Ax4 lx4 cx4) ∧
(∀ (g6:Nat) (w18:World),New w17 g6 w18 #[(Value.int .i64 y)] 3 →
(∃ (B:Nat) (xs2 nw:List Value) (ad:Addr),OwnS w18 B 3 1 Ax4 lx4 cx4 xs2∧(some ⟨g6,0,none⟩)=some ad∧nw.length=1*1∧(∀ j u,nw[j]? = some u→w18.cell? (ad.add j)=some u)∧(∀ u∈nw,u.oneCell'=true)∧lx4+1≤maxLen∧(lx4+1)*8≤140737488355328∧B≤w18.heap.size ∧
∀ A c w19,OwnS w19 B 3 1 A (lx4+1) c (xs2++nw)→w18.grownBy w19 (Option.map Addr.block Ax4)→(Option.map Addr.block A=Option.map Addr.block Ax4∨Option.map Addr.block A=some w18.heap.size) →
Kp w18 w19 g2 ∧
Kp w18 w19 g5 ∧
(Wr w19 (⟨g4,0,none⟩:Addr) ∧
(⟨g4,0,none⟩:Addr).block≠g2 ∧
(⟨g4,0,none⟩:Addr).block≠g5 ∧
∀ w20,w20=w19.setCell (⟨g4,0,none⟩:Addr) (Value.slice A (lx4+1) c) →
(KeepsOthers w15 w20∧Kq w15 w20∧I3 (pre++[el]) w20))))))))))) ∧
(¬(x5<0) →
(KeepsOthers w15 w15∧Kq w15 w15∧I3 (pre++[el]) w15)))))) ∧
(∀ xs w16,S xs→I3 xs w16 →
KpM w14 w16 ∧
∃ m2,m2<m1∧I2 m2 w16)))))))))))) ∧
(¬(0<((lx:Nat):Int)) →
(∀ wz,After w.heap.size w10 wz→R Ar2 lr2 cr2 wz)))))))))))))))))
theorem yey(px:Addr)(w:World)(R:Option Addr→Nat→Nat→World→Prop)(h:ybW px w R) :
    Calls Tryz.prog 108 #[(.pointer (some px))] w fun e w'=>∃ Ar lr cr,e = .returned (.slice Ar lr cr)∧R Ar lr cr w':=by
  unfold ybW at h;refine yes (l:=[(.pointer (some px))]) func108 rfl ntmps108 zY ?_;have hM:=ydO.nil w;refine zs (zQ (.slice none 0 0) (yaa (zs (zn (ybb (l:=[(0,(ii (-1)))]) (cells:=[(ii (-1))]) (bp1 rfl) underlying33 yab rfl rfl ?_)))));intro g w2 hN;replace h:=h g w2 hN;replace hM:=hM.kp hN.kpm;clear hN;refine zb (zM (.pointer (some px)) (zq (ybj rfl) (zq (yae rfl underlying172 rfl yat) (zq (yae rfl underlying24 rfl yab) ?_))));obtain ⟨x,hc,h⟩:=h;refine zq (zl underlying3 hc) (zn (yaj rfl (am2 rfl rfl) enter_165 (h.mono ?_)));rintro _ w3 ⟨Ar2,lr2,cr2,rfl,hkm,h⟩;replace hM:=hM.kp hkm;refine ⟨_,rfl,Stb.none _,?_⟩;refine zn (ya1 ycf ?_);intro g2 w4 hN2;replace h:=h g2 w4 hN2;replace hM:=hM.kp hN2.kpm;have rB:Row w4 g2 33 1 [(.slice none 0 0)]:=hN2.row;clear hN2;refine zb (zo (zt (.slice Ar2 lr2 cr2) ycf (wr_row rB (i:=0) rfl) ?_));intro w5 ew;replace h:=h w5 ew;replace hM:ydO _ _ w5:=hM.kp (by rw [ew];exact yfX);replace rB:Row w5 g2 33 1 [(.slice Ar2 lr2 cr2)]:=row_set rB 0 (.slice Ar2 lr2 cr2) ew;clear ew;refine zb (yaa (yac (ya9 [0,1,2,3,4,5,6] st0 yaQ (by kernel_rfl) (by kernel_rfl) ?_)));replace hM:=hM.kp (KpM.drew _);replace rB:=rB.drew;refine zp (zl underlying33 (Row.cell rB (i:=0) rfl)) (zp (zm (.pointer (some px))) (zp (ybj rfl) (zp (yae rfl underlying172 rfl yab) ?_)));obtain ⟨x2,hc2,h⟩:=h;refine zp (zl underlying3 hc2) ?_;obtain ⟨hx,h⟩:=h;refine zp (zi underlying33 yab hx) ?_;obtain ⟨hw2,h⟩:=h;obtain ⟨hb,h⟩:=h;refine ygv rfl rfl rfl (zt (ii 0) yab hw2 ?_);intro w6 ew2;replace h:=h w6 ew2;replace hM:ydO _ _ w6:=hM.kp (by rw [ew2];exact yfX);replace rB:Row w6 g2 33 1 [(.slice Ar2 lr2 cr2)]:=rB.kp (by rw [ew2];exact yc2 hb);clear ew2;refine zb (ybq (zs (zM (.pointer (some px)) (zq (ybj rfl) (zq (yae rfl underlying172 rfl yab) ?_)))));obtain ⟨x3,hc3,h⟩:=h;refine zq (zl underlying3 hc3) (zn (ybb (l:=[(0,(ii x3))]) (cells:=[(ii x3)]) (bp1 rfl) underlying33 yab rfl rfl ?_));intro g3 w7 hN3;replace h:=h g3 w7 hN3;replace hM:=hM.kp hN3.kpm;replace rB:=rB.kp (hN3.kp _);clear hN3;refine zb (zn (ya1 ycf ?_));intro g4 w8 hN4;replace h:=h g4 w8 hN4;replace hM:=hM.kp hN4.kpm;replace rB:=rB.kp (hN4.kp _);clear hN4;refine zb ?_;obtain ⟨hw3,h⟩:=h;obtain ⟨hb2,h⟩:=h;refine zo (zt (.slice (some ⟨g3,0,none⟩) 1 1) ycf hw3 ?_);intro w9 ew3;replace h:=h w9 ew3;replace hM:ydO _ _ w9:=hM.kp (by rw [ew3];exact yfX);replace rB:Row w9 g2 33 1 [(.slice Ar2 lr2 cr2)]:=rB.kp (by rw [ew3];exact yc2 hb2);clear ew3;refine zb (yaa (yac (yah ?_)));obtain ⟨I2,⟨m0,h0⟩,hr⟩:=h;refine yaA (fun m E ds w'=>I2 m w'∧ydO w.heap.size ds w'∧E 0=(Value.pointer (some px))∧E 3=(Value.pointer (some ⟨g2,0,none⟩))∧E 4=(Value.pointer (some ⟨g4,0,none⟩))∧Row w' g2 33 1 [(.slice Ar2 lr2 cr2)]) m0 ⟨h0,hM,rfl,rfl,rfl,rB⟩ ?_;clear h0;rintro m1 E ds w10 ⟨h,hM,hE0,hE3,hE4,rB⟩ again;replace h:=hr m1 w10 h;clear hr;refine yac (zs ?_);obtain ⟨Ax,lx,cx,hc4,h⟩:=h;refine zq (yam hE4 underlying33 rfl hc4) (zq (yhE rfl underlying33) (zq zG (yaa ?_)));by_cases hp:0<((lx:Nat):Int)
  · replace h:=h.1 hp;refine zc hp (yaf (yah (zs ?_)));obtain ⟨Ax2,lx2,cx2,hc5,h⟩:=h;refine zq (yam hE4 underlying33 rfl hc5) ?_;obtain ⟨hx2,h⟩:=h;refine zq (zi underlying33 yab hx2) ?_;obtain ⟨x4,hc6,h⟩:=h;refine zq (zl underlying3 hc6) (zn (ya1 yab ?_));intro g5 w11 hN5;replace h:=h g5 w11 hN5;replace hM:=hM.kp hN5.kpm;replace rB:=rB.kp (hN5.kp _);have rB2:Row w11 g5 3 1 [(ii 0)]:=hN5.row;clear hN5;refine zb ?_;obtain ⟨hb3,h⟩:=h;refine zo (zt (ii x4) yab (wr_row rB2 (i:=0) rfl) ?_);intro w12 ew4;replace h:=h w12 ew4;replace hM:ydO _ _ w12:=hM.kp (by rw [ew4];exact yfX);replace rB2:Row w12 g5 3 1 [(ii x4)]:=row_set rB2 0 (ii x4) ew4;replace rB:Row w12 g2 33 1 [(.slice Ar2 lr2 cr2)]:=rB.kp (by rw [ew4];exact yc2 hb3);clear ew4;refine zb (yaa (zs ?_));obtain ⟨Ax3,lx3,cx3,hc7,h⟩:=h;refine zq (yam hE4 underlying33 rfl hc7) ?_;obtain ⟨hs,h⟩:=h;refine zq (yh8 rfl rfl underlying33 yab hs) ?_;obtain ⟨hw5,h⟩:=h;obtain ⟨hb4,h⟩:=h;obtain ⟨hb5,h⟩:=h;refine zo (yfb (v:=(.slice (slA Ax3 cx3 (1:Int).toNat 1) (lx3-(1:Int).toNat) (cx3-(1:Int).toNat))) hE4 rfl rfl ycf hw5 ?_);intro w13 ew5;replace h:=h w13 ew5;replace hM:ydO _ _ w13:=hM.kp (by rw [ew5];exact yfX);replace rB:Row w13 g2 33 1 [(.slice Ar2 lr2 cr2)]:=rB.kp (by rw [ew5];exact yc2 hb4);replace rB2:Row w13 g5 3 1 [(ii x4)]:=rB2.kp (by rw [ew5];exact yc2 hb5);clear ew5;refine zb (yaa (zs (zq (yad hE0) (zq (zl underlying3 (Row.cell rB2 (i:=0) rfl)) (zn (yaj rfl (am2 rfl rfl) enter_166 (h.mono ?_)))))));rintro _ w14 ⟨r,rfl,hk,hk2,hkm,h⟩;replace hM:=hM.kp hkm;replace rB:=rB.kp hk;replace rB2:=rB2.kp hk2;refine ⟨_,rfl,Stb.none _,?_⟩;refine yaa (yah ?_);obtain ⟨α,val,S,Kq,len,I3,hIt,hsz,hst,h0,hkp,hb,h⟩:=h;refine wt_range rfl hIt hsz rfl rfl I3 hst h0 ?_ ?_
    · intro ll pre el w15 hIp hlen;obtain ⟨y,y2,hv,h⟩:=hb pre el w15 hIp hlen;rw [hv];replace rB:=rB.kp (hkp pre w15 hIp).1;replace rB2:=rB2.kp (hkp pre w15 hIp).2.1;refine yah (yac (yaL (ybG ll) (zq (yam hE3 underlying33 rfl (Row.cell rB (i:=0) rfl)) (zM (ii y) ?_))));obtain ⟨hx3,h⟩:=h;refine zq (zi underlying33 yab hx3) ?_;obtain ⟨x5,hc8,h⟩:=h;refine zq (zl underlying3 hc8) (zq zL (yaa ?_));by_cases hp2:x5<0
      · replace h:=h.1 hp2;refine zc hp2 (yac (ya9 [0,1,2,3,4,5,6,7,8] st0 (ybG ll) (by kernel_rfl) (by kernel_rfl) ?_));replace rB:=rB.drew;replace rB2:=rB2.drew;refine zp (yam hE3 underlying33 rfl (Row.cell rB (i:=0) rfl)) (zp (zm (ii y)) (zp (yam hE3 underlying33 rfl (Row.cell rB (i:=0) rfl)) (zp (zl underlying3 (Row.cell rB2 (i:=0) rfl)) ?_)));obtain ⟨hx4,h⟩:=h;refine zp (zi underlying33 yab hx4) ?_;obtain ⟨x6,hc9,h⟩:=h;refine zp (zl underlying3 hc9) ?_;obtain ⟨hi,h⟩:=h;refine zp (zA hi) ?_;obtain ⟨hx5,h⟩:=h;refine zp (zi underlying33 yab hx5) ?_;obtain ⟨hw6,h⟩:=h;obtain ⟨hb6,h⟩:=h;obtain ⟨hb7,h⟩:=h;refine ygv rfl rfl rfl (zt (ii (x6+1)) yab hw6 ?_);intro w17 ew6;replace h:=h w17 ew6;replace rB:Row w17 g2 33 1 [(.slice Ar2 lr2 cr2)]:=rB.kp (by rw [ew6];exact yc2 hb6);replace rB2:Row w17 g5 3 1 [(ii x4)]:=rB2.kp (by rw [ew6];exact yc2 hb7);clear ew6;refine zb (ybq (yaL (ybG ll) ?_));obtain ⟨Ax4,lx4,cx4,hc10,h⟩:=h;refine zq (yam hE4 underlying33 rfl hc10) (zM (ii y) (zn (ybb (l:=[(0,(ii y))]) (cells:=[(ii y)]) (bp1 rfl) underlying33 yab rfl rfl ?_)));intro g6 w18 hN6;replace h:=h g6 w18 hN6;replace rB:=rB.kp (hN6.kp _);replace rB2:=rB2.kp (hN6.kp _);clear hN6;refine zb ?_;obtain ⟨B,xs2,nw,ad,q1,q2,q3,q4,q5,q6,q7,q8,h⟩:=h;refine zn (n_append rfl rfl underlying33 yab rfl ⟨B,xs2,nw,ad,q1,q2,q3,q4,q5,q6,q7,q8,?_⟩);intro A c w19 q9 q10 q11;replace h:=h A c w19 q9 q10 q11;clear q1 q2 q3 q4 q5 q6 q7 q8 q9 q10 q11;obtain ⟨hk3,hk4,h⟩:=h;replace rB:=rB.kp hk3;replace rB2:=rB2.kp hk4;refine zb ?_;obtain ⟨hw7,h⟩:=h;obtain ⟨hb8,h⟩:=h;obtain ⟨hb9,h⟩:=h;refine zo (yfb (v:=(.slice A (lx4+1) c)) hE4 rfl rfl ycf hw7 ?_);intro w20 ew7;replace h:=h w20 ew7;replace rB:Row w20 g2 33 1 [(.slice Ar2 lr2 cr2)]:=rB.kp (by rw [ew7];exact yc2 hb8);replace rB2:Row w20 g5 3 1 [(ii x4)]:=rB2.kp (by rw [ew7];exact yc2 hb9);clear ew7;exact zb (yaa (yag (yer (fun a r=>h))))
      · replace h:=h.2 hp2;exact zd hp2 (yaf (yag (yer (fun a r=>h))))
    · intro D xs w16 hD hS hIp hK;replace h:=h xs w16 hS hIp;replace rB:=rB.kp (hkp xs w16 hIp).1;replace rB2:=rB2.kp (hkp xs w16 hIp).2.1;obtain ⟨hkm,h⟩:=h;replace hM:=ydO.push hM hkm hD hK;refine yag (yag ?_);obtain ⟨mq,hlt,h⟩:=h;exact again mq _ _ _ ⟨h,hM,hE0,hE3,hE4,rB⟩ hlt
  · replace h:=h.2 hp;exact zd hp (yav rfl (zs (zq (yam hE3 underlying33 rfl (Row.cell rB (i:=0) rfl)) (zQ (.slice Ar2 lr2 cr2) (yaa (wt_retm1 hM rfl rfl fun wz hz=>⟨_,_,_,rfl,h wz hz⟩))))))
def ycS(pd:Addr)(w:World)(R:World→Prop):Prop :=
(Calls Tryz.prog 108 #[(Value.pointer (some pd))] w fun e w2=>∃ Ar:Option Addr,∃ lr:Nat,∃ cr:Nat,e = .returned (Value.slice Ar lr cr) ∧
(Calls Tryz.prog 110 #[(Value.slice Ar lr cr)] w2 fun e w3=>∃ r:Int,e = .returned (Value.int .i64 r) ∧
(∃ I2:Nat→Int→World→Prop,(∃ m0,I2 m0 r w3)∧∀ m1 i w4,I2 m1 i w4 → 
(∃ J2:World→Prop,(∀ (w5:World),J2 w5→(∃ x:Int,w5.cell? (Addr.add (Addr.add pd 0) 0)=some (Value.int .i64 x) ∧
((0≤x∧x≤1000000) ∧
∀ (g:Nat) (w6:World),New w5 g w6 (Array.replicate x.toNat (Value.bool (false))) 4 →
(∀ (g2:Nat) (w7:World),New w6 g2 w7 #[(Value.slice none 0 0)] 168 →
(Wr w7 (⟨g2,0,none⟩:Addr) ∧
∀ w8,w8=w7.setCell (⟨g2,0,none⟩:Addr) (Value.slice (some ⟨g,0,none⟩) x.toNat x.toNat) →
(∃ Ax:Option Addr,∃ lx:Nat,∃ cx:Nat,w8.cell? (⟨g2,0,none⟩:Addr)=some (Value.slice Ax lx cx) ∧
(∃ I3:Nat→Int→World→Prop,(∃ m0,I3 m0 0 w8)∧∀ m2 i2 w9,I3 m2 i2 w9 → 
((i2<((lx:Nat):Int) →
(∃ Ax2:Option Addr,∃ lx2:Nat,∃ cx2:Nat,w9.drew.cell? (⟨g2,0,none⟩:Addr)=some (Value.slice Ax2 lx2 cx2) ∧
(Ix Ar lr i2 ∧
(∃ x2:Int,w9.drew.cell? (ixA Ar i2 1)=some (Value.int .i64 x2) ∧
(Ix Ax2 lx2 i2 ∧
(Wr w9.drew (ixA Ax2 i2 1) ∧
∀ w10,w10=w9.drew.setCell (ixA Ax2 i2 1) (Value.bool (decide (x2<i))) →
(In64 (i2+1) ∧
∃ m3,m3<m2∧I3 m3 (i2+1) w10))))))) ∧
(¬(i2<((lx:Nat):Int)) →
(∃ I4:Nat→Int→Int→World→Prop,(∃ m0,I4 m0 0 0 w9)∧∀ m4 i3 i4 w11,I4 m4 i3 i4 w11 → 
((i4<((lr:Nat):Int) →
(Ix Ar lr i4 ∧
(∃ x3:Int,w11.cell? (ixA Ar i4 1)=some (Value.int .i64 x3) ∧
(∃ J3:World→Prop,(∀ (w12:World),J3 w12→(Calls Tryz.prog 111 #[(Value.pointer (some pd)),(Value.int .i64 i4),(Value.func (Fn.func 112) #[] #[(Value.pointer (some ⟨g2,0,none⟩))])] w12 fun e w13=>∃ r2:Int,e = .returned (Value.int .i64 r2) ∧
(∃ Ax3:Option Addr,∃ lx3:Nat,∃ cx3:Nat,w13.cell? (Addr.add pd 3)=some (Value.slice Ax3 lx3 cx3) ∧
(Ix Ax3 lx3 i4 ∧
(∃ x4:Int,w13.cell? (ixA Ax3 i4 1)=some (Value.int .i64 x4) ∧
(In64 (-x4) ∧
(In64 ((-x4)+r2) ∧
(In64 (((-x4)+r2)-1) ∧
(r2≠0 ∧
In64 ((((-x4)+r2)-1).tdiv r2) ∧
(In64 (i4+1) ∧
∃ m5,m5<m4∧I4 m5 (mxF i3 ((((-x4)+r2)-1).tdiv r2)) (i4+1) w13)))))))))) ∧
((x3=i →
(∃ Ax4:Option Addr,∃ lx4:Nat,∃ cx4:Nat,w11.cell? (Addr.add pd 3)=some (Value.slice Ax4 lx4 cx4) ∧
(Ix Ax4 lx4 i4 ∧
(∃ x5:Int,w11.cell? (ixA Ax4 i4 1)=some (Value.int .i64 x5) ∧
((x5<0 →
J3 w11) ∧
(¬(x5<0) →
(In64 (i4+1) ∧
∃ m6,m6<m4∧I4 m6 i3 (i4+1) w11))))))) ∧
(¬(x3=i) →
(In64 (i4+1) ∧
∃ m7,m7<m4∧I4 m7 i3 (i4+1) w11))))))) ∧
(¬(i4<((lr:Nat):Int)) →
((0<i3 →
(∃ Ax5:Option Addr,∃ lx5:Nat,∃ cx5:Nat,w11.cell? (⟨g2,0,none⟩:Addr)=some (Value.slice Ax5 lx5 cx5) ∧
(Calls Tryz.prog 109 #[(Value.pointer (some pd)),(Value.slice Ax5 lx5 cx5),(Value.int .i64 i3)] w11 fun e w14=>e = .returned (Value.tuple #[]) ∧
(In64 (i-1) ∧
∃ m8,m8<m1∧I2 m8 (i-1) w14)))) ∧
(¬(0<i3) →
(In64 (i-1) ∧
∃ m9,m9<m1∧I2 m9 (i-1) w11))))))))))))))) ∧
((0<i →
(∃ x6:Int,w4.cell? (Addr.add pd 5)=some (Value.int .i64 x6) ∧
((x6=0 →
J2 w4) ∧
(¬(x6=0) →
R w4)))) ∧
(¬(0<i) →
R w4))))))
theorem yfW(pd:Addr)(w:World)(R:World→Prop)(h:ycS pd w R) :
    Calls Tryz.prog 67 #[(.pointer (some pd))] w fun e w'=>e = .returned (.tuple #[])∧R  w':=by
  unfold ycS at h;refine yak (l:=[(.pointer (some pd))]) func67 rfl ntmps67 zY (zs (zM (.pointer (some pd)) (zn (yaj rfl (am1 rfl) enter_108 (h.mono ?_)))));rintro _ w2 ⟨Ar,lr,cr,rfl,h⟩;refine ⟨_,rfl,Stb.none _,?_⟩;refine zQ (.slice Ar lr cr) (yaa (zs (zM (.pointer (some pd)) (zq (yfM (am1 rfl) (am0)) (zQ (.func (Fn.func 109) #[(.pointer (some pd))] #[]) (yaa (zs (zM (.slice Ar lr cr) (zn (yaj rfl (am1 rfl) enter_110 (h.mono ?_)))))))))));rintro _ w3 ⟨r,rfl,h⟩;refine ⟨_,rfl,Stb.none _,?_⟩;refine zQ (ii r) (yaa (yah ?_));obtain ⟨I2,⟨m0,h0⟩,hr⟩:=h;refine yaA (fun m E ds w'=>∃ i,I2 m i w'∧ds=[]∧E 0=(Value.pointer (some pd))∧E 2=(Value.slice Ar lr cr)∧E 3=(Value.func (Fn.func 109) #[(.pointer (some pd))] #[])∧E 4=(ii i)) m0 ⟨_,h0,rfl,rfl,rfl,rfl,rfl⟩ ?_;clear h0;rintro m1 E ds w4 ⟨i,h,rfl,hE0,hE2,hE3,hE4⟩ again;replace h:=hr m1 i w4 h;clear hr;refine yac (yac ?_);obtain ⟨J2,hJ,h⟩:=h;refine ydm (fun E ds w'=>J2 w'∧ds=[]∧E 0=(Value.pointer (some pd))∧E 2=(Value.slice Ar lr cr)∧E 3=(Value.func (Fn.func 109) #[(.pointer (some pd))] #[])∧E 4=(ii i)) ?_ ?_
  · rintro E ds w5 ⟨h,rfl,hE0,hE2,hE3,hE4⟩;replace h:=hJ w5 h;refine yac (yah (zs (zq (yad hE0) (zq (ybj rfl) (zq (yae rfl underlying172 rfl yat) (zq (yae rfl underlying24 rfl yab) ?_))))));obtain ⟨x,hc,h⟩:=h;refine zq (zl underlying3 hc) ?_;obtain ⟨hn,h⟩:=h;refine zn (ydg rfl rfl underlying168 ybP (by decide) rfl hn ?_);intro g w6 hN;replace h:=h g w6 hN;clear hN;refine zb (zn (ya1 yh3 ?_));intro g2 w7 hN2;replace h:=h g2 w7 hN2;clear hN2;refine zb ?_;obtain ⟨hw,h⟩:=h;refine zo (zt (.slice (some ⟨g,0,none⟩) x.toNat x.toNat) yh3 hw ?_);intro w8 ew;replace h:=h w8 ew;clear ew;refine zb (yaa (yac (zs ?_)));obtain ⟨Ax,lx,cx,hc2,h⟩:=h;refine zq (zl underlying168 hc2) (zq (yhE rfl underlying168) (zM (ii 0) (yaa (yah ?_))));obtain ⟨I3,⟨m0,h0⟩,hr⟩:=h;refine yaA (fun m E ds w'=>∃ i2,I3 m i2 w'∧ds=[]∧E 0=(Value.pointer (some pd))∧E 2=(Value.slice Ar lr cr)∧E 3=(Value.func (Fn.func 109) #[(.pointer (some pd))] #[])∧E 4=(ii i)∧E 5=(Value.pointer (some ⟨g2,0,none⟩))∧E 35=(ii ((lx:Nat):Int))∧E 36=(ii i2)) m0 ⟨_,h0,rfl,hE0,hE2,hE3,hE4,rfl,rfl,rfl⟩ ?_;clear h0;rintro m2 E ds w9 ⟨i2,h,rfl,hE0,hE2,hE3,hE4,hE5,hE35,hE36⟩ again2;replace h:=hr m2 i2 w9 h;clear hr;refine zs (zq (ydf hE36 hE35) (yaa (yac ?_)));by_cases hp:i2<((lx:Nat):Int)
    · replace h:=h.1 hp;refine zc hp (yaf (yac (yah (zs (zq (yad hE36) (zQ (ii i2) (yaa (ya9 [0,1,2,3,4,5,6,7,8,9] st0 yaQ (by kernel_rfl) (by kernel_rfl) ?_))))))));obtain ⟨Ax2,lx2,cx2,hc3,h⟩:=h;refine zp (yam hE5 underlying168 rfl hc3) (zp (zm (ii i2)) (zp (yad hE2) (zp (zm (ii i2)) ?_)));obtain ⟨hx,h⟩:=h;refine zp (zi underlying33 yab hx) ?_;obtain ⟨x2,hc4,h⟩:=h;refine zp (zl underlying3 hc4) (zp (yad hE4) (zp zL ?_));obtain ⟨hx2,h⟩:=h;refine zp (zi underlying168 ybP hx2) ?_;obtain ⟨hw2,h⟩:=h;refine ygv rfl rfl rfl (zt (.bool (decide (x2<i))) ybP hw2 ?_);intro w10 ew2;replace h:=h w10 ew2;clear ew2;refine zb (ybq (yag (zr ?_)));obtain ⟨hi,h⟩:=h;refine zq (ybU hE36 rfl hi) (zM (ii (i2+1)) (yaa ?_));obtain ⟨mq,hlt,h⟩:=h;exact again2 mq _ _ _ ⟨_,h,rfl,hE0,hE2,hE3,hE4,hE5,hE35,rfl⟩ hlt
    · replace h:=h.2 hp;refine zd hp (yav rfl (zs (zQ (ii 0) (yaa (yac (zs (zq (yad hE2) (zq (yhE rfl underlying33) (zM (ii 0) (yaa (yah ?_)))))))))));obtain ⟨I4,⟨m0,h0⟩,hr⟩:=h;refine yaA (fun m E ds w'=>∃ i3 i4,I4 m i3 i4 w'∧ds=[]∧E 0=(Value.pointer (some pd))∧E 2=(Value.slice Ar lr cr)∧E 3=(Value.func (Fn.func 109) #[(.pointer (some pd))] #[])∧E 4=(ii i)∧E 5=(Value.pointer (some ⟨g2,0,none⟩))∧E 7=(ii i3)∧E 49=(Value.slice Ar lr cr)∧E 50=(ii ((lr:Nat):Int))∧E 51=(ii i4)) m0 ⟨_,_,h0,rfl,hE0,hE2,hE3,hE4,hE5,rfl,rfl,rfl,rfl⟩ ?_;clear h0;rintro m4 E ds w11 ⟨i3,i4,h,rfl,hE0,hE2,hE3,hE4,hE5,hE7,hE49,hE50,hE51⟩ again3;replace h:=hr m4 i3 i4 w11 h;clear hr;refine zs (zq (ydf hE51 hE50) (yaa (yac ?_)));by_cases hp2:i4<((lr:Nat):Int)
      · replace h:=h.1 hp2;refine zc hp2 (yaf (yac (yah (zs (zq (yad hE51) ?_)))));obtain ⟨hx3,h⟩:=h;refine zq (ycw hE49 hE51 underlying33 yab hx3) ?_;obtain ⟨x3,hc5,h⟩:=h;refine zq (zl underlying3 hc5) (zQ (ii i4) (zQ (ii x3) (yaa (yac ?_))));obtain ⟨J3,hJ,h⟩:=h;refine wt_cutA1 (fun E ds w'=>J3 w'∧ds=[]∧E 0=(Value.pointer (some pd))∧E 2=(Value.slice Ar lr cr)∧E 3=(Value.func (Fn.func 109) #[(.pointer (some pd))] #[])∧E 4=(ii i)∧E 5=(Value.pointer (some ⟨g2,0,none⟩))∧E 7=(ii i3)∧E 8=(ii i4)∧E 49=(Value.slice Ar lr cr)∧E 50=(ii ((lr:Nat):Int))∧E 51=(ii i4)) ?_ ?_
        · rintro E ds w12 ⟨h,rfl,hE0,hE2,hE3,hE4,hE5,hE7,hE8,hE49,hE50,hE51⟩;replace h:=hJ w12 h;refine zs (zq (yad hE0) (zq (yad hE8) (zq (yfM (am0) (am1 hE5)) (zn (yaj rfl (am3 rfl rfl rfl) enter_111 (h.mono ?_))))));rintro _ w13 ⟨r2,rfl,h⟩;refine ⟨_,rfl,Stb.none _,?_⟩;refine zQ (ii r2) (yaa (zr (zq (yad hE7) (zq (yad hE0) (zq (ybj rfl) (zq (yae rfl underlying172 rfl yaY) ?_))))));obtain ⟨Ax3,lx3,cx3,hc6,h⟩:=h;refine zq (zl underlying34 hc6) (zq (yad hE8) ?_);obtain ⟨hx4,h⟩:=h;refine zq (zi underlying34 yab hx4) ?_;obtain ⟨x4,hc7,h⟩:=h;refine zq (zl underlying3 hc7) ?_;obtain ⟨hi2,h⟩:=h;refine zq (v_neg rfl hi2) (zM (ii r2) ?_);obtain ⟨hi3,h⟩:=h;refine zq (zA hi3) ?_;obtain ⟨hi4,h⟩:=h;refine zq (zS hi4) (zM (ii r2) ?_);obtain ⟨hz,h⟩:=h;obtain ⟨hi5,h⟩:=h;refine zq (v_quo rfl rfl hz hi5) (zq (v_max2 rfl rfl) (zQ (ii (mxF i3 ((((-x4)+r2)-1).tdiv r2))) (yaa (yag (zr ?_)))));obtain ⟨hi6,h⟩:=h;refine zq (ybU hE51 rfl hi6) (zM (ii (i4+1)) (yaa ?_));obtain ⟨mq,hlt,h⟩:=h;exact again3 mq _ _ _ ⟨_,_,h,rfl,hE0,hE2,hE3,hE4,hE5,rfl,hE49,hE50,rfl⟩ hlt
        clear hJ;intro j2;refine zr (zM (ii x3) (zq (yad hE4) (zq zE (zM (.bool (decide (x3=i))) ?_))));by_cases hp3:x3=i
        · replace h:=h.1 hp3;refine zW rfl rfl (zT hp3) (yad hE0) (zW rfl rfl (zT hp3) (ybj rfl) (zW rfl rfl (zT hp3) (yae rfl underlying172 rfl yaY) ?_));obtain ⟨Ax4,lx4,cx4,hc8,h⟩:=h;refine zW rfl rfl (zT hp3) (zl underlying34 hc8) (zW rfl rfl (zT hp3) (zm (ii i4)) ?_);obtain ⟨hx5,h⟩:=h;refine zW rfl rfl (zT hp3) (zi underlying34 yab hx5) ?_;obtain ⟨x5,hc9,h⟩:=h;refine zW rfl rfl (zT hp3) (zl underlying3 hc9) (zW rfl rfl (zT hp3) zL (zq (yau (v:=(.bool (decide (x5<0)))) (zT hp3) rfl) (yaa ?_)));by_cases hp4:x5<0
          · replace h:=h.1 hp4;exact zc hp4 (j2 _ _ _ ⟨h,rfl,hE0,hE2,hE3,hE4,hE5,hE7,rfl,hE49,hE50,hE51⟩)
          · replace h:=h.2 hp4;refine zd hp4 (yaf (yag (zr ?_)));obtain ⟨hi7,h⟩:=h;refine zq (ybU hE51 rfl hi7) (zM (ii (i4+1)) (yaa ?_));obtain ⟨mq,hlt,h⟩:=h;exact again3 mq _ _ _ ⟨_,_,h,rfl,hE0,hE2,hE3,hE4,hE5,hE7,hE49,hE50,rfl⟩ hlt
        · replace h:=h.2 hp3;refine zV rfl rfl (zF hp3) (zV rfl rfl (zF hp3) (zV rfl rfl (zF hp3) (zV rfl rfl (zF hp3) (zV rfl rfl (zF hp3) (zV rfl rfl (zF hp3) (zV rfl rfl (zF hp3) (zV rfl rfl (zF hp3) (zq (yaw (v:=(.bool (false))) (zF hp3) rfl) (yaa (yaq rfl (yaf (yag (zr ?_)))))))))))));obtain ⟨hi8,h⟩:=h;refine zq (ybU hE51 rfl hi8) (zM (ii (i4+1)) (yaa ?_));obtain ⟨mq,hlt,h⟩:=h;exact again3 mq _ _ _ ⟨_,_,h,rfl,hE0,hE2,hE3,hE4,hE5,hE7,hE49,hE50,rfl⟩ hlt
      · replace h:=h.2 hp2;refine zd hp2 (yav rfl (zs (zq (yad hE7) (zq zG (yaa ?_)))));by_cases hp5:0<i3
        · replace h:=h.1 hp5;refine zc hp5 (zr (zq (yad (v:=(Value.func (Fn.func 109) #[(.pointer (some pd))] #[])) hE3) ?_));obtain ⟨Ax5,lx5,cx5,hc10,h⟩:=h;refine zq (yam hE5 underlying168 rfl hc10) (zq (yad hE7) (zn (n_callx (all:=[(.pointer (some pd)),(.slice Ax5 lx5 cx5),(ii i3)]) rfl (am2 rfl rfl) enter_109 rfl (h.mono ?_))));rintro _ w14 ⟨rfl,h⟩;refine ⟨_,rfl,Stb.none _,?_⟩;refine yaa (yag (zr (zq (yad hE4) ?_)));obtain ⟨hi9,h⟩:=h;refine zq (zS hi9) (zQ (ii (i-1)) (yaa ?_));obtain ⟨mq,hlt,h⟩:=h;exact again mq _ _ _ ⟨_,h,rfl,hE0,hE2,hE3,rfl⟩ hlt
        · replace h:=h.2 hp5;refine zd hp5 (yaf (yag (zr (zq (yad hE4) ?_))));obtain ⟨hi10,h⟩:=h;refine zq (zS hi10) (zQ (ii (i-1)) (yaa ?_));obtain ⟨mq,hlt,h⟩:=h;exact again mq _ _ _ ⟨_,h,rfl,hE0,hE2,hE3,rfl⟩ hlt
  clear hJ;intro j;refine zr (zq (yad hE4) (zq zG (zM (.bool (decide (0<i))) ?_)));by_cases hp6:0<i
  · replace h:=h.1 hp6;refine zW rfl rfl (zT hp6) (yad hE0) (zW rfl rfl (zT hp6) (ybj rfl) (zW rfl rfl (zT hp6) (yae rfl underlying172 rfl ycK) ?_));obtain ⟨x6,hc11,h⟩:=h;refine zW rfl rfl (zT hp6) (zl underlying29 hc11) (zW rfl rfl (zT hp6) zE (zq (yau (v:=(.bool (decide (x6=0)))) (zT hp6) rfl) (yaa ?_)));by_cases hp7:x6=0
    · replace h:=h.1 hp7;exact zc hp7 (yaf (j _ _ _ ⟨h,rfl,hE0,hE2,hE3,hE4⟩))
    · replace h:=h.2 hp7;exact zd hp7 (yav rfl (ydJ rfl ⟨rfl,h⟩))
  · replace h:=h.2 hp6;exact zV rfl rfl (zF hp6) (zV rfl rfl (zF hp6) (zV rfl rfl (zF hp6) (zV rfl rfl (zF hp6) (zV rfl rfl (zF hp6) (zq (yaw (v:=(.bool (false))) (zF hp6) rfl) (yaa (yaq rfl (yav rfl (ydJ rfl ⟨rfl,h⟩)))))))))
def ycy(px:Addr)(w:World)(R:World→Prop):Prop :=
(∃ I2:Nat→World→Prop,(∃ m0,I2 m0 w)∧∀ m1 w2,I2 m1 w2 → 
(∃ x:Int,w2.cell? (Addr.add px 5)=some (Value.int .i64 x) ∧
((x=0 →
(Calls Tryz.prog 113 #[(Value.pointer (some px))] w2 fun e w3=>∃ Ar:Option Addr,∃ lr:Nat,∃ cr:Nat,∃ r:Bool,e = .returned (Value.tuple #[(Value.slice Ar lr cr),(Value.bool (r))]) ∧
(∀ (g:Nat) (w4:World),New w3 g w4 #[(Value.slice none 0 0)] 168 →
(Wr w4 (⟨g,0,none⟩:Addr) ∧
∀ w5,w5=w4.setCell (⟨g,0,none⟩:Addr) (Value.slice Ar lr cr) →
((r=true →
(∃ Ax:Option Addr,∃ lx:Nat,∃ cx:Nat,w5.cell? (⟨g,0,none⟩:Addr)=some (Value.slice Ax lx cx) ∧
(∃ I3:Nat→Int→Int→World→Prop,(∃ m0,I3 m0 0 0 w5)∧∀ m2 times i w6,I3 m2 times i w6 → 
((i<((lx:Nat):Int) →
(Ix Ax lx i ∧
(∃ x2:Bool,w6.cell? (ixA Ax i 1)=some (Value.bool (x2)) ∧
((x2=true →
(Calls Tryz.prog 111 #[(Value.pointer (some px)),(Value.int .i64 i),(Value.func (Fn.func 114) #[] #[(Value.pointer (some ⟨g,0,none⟩))])] w6 fun e w7=>∃ r2:Int,e = .returned (Value.int .i64 r2) ∧
((0<r2 →
(∃ Ax2:Option Addr,∃ lx2:Nat,∃ cx2:Nat,w7.cell? (Addr.add px 3)=some (Value.slice Ax2 lx2 cx2) ∧
(Ix Ax2 lx2 i ∧
(∃ x3:Int,w7.cell? (ixA Ax2 i 1)=some (Value.int .i64 x3) ∧
(r2≠0 ∧
In64 (x3.tdiv r2) ∧
((times=0 →
(In64 (i+1) ∧
∃ m3,m3<m2∧I3 m3 (x3.tdiv r2) (i+1) w7)) ∧
(¬(times=0) →
(((x3.tdiv r2)<times →
(In64 (i+1) ∧
∃ m4,m4<m2∧I3 m4 (x3.tdiv r2) (i+1) w7)) ∧
(¬((x3.tdiv r2)<times) →
(In64 (i+1) ∧
∃ m5,m5<m2∧I3 m5 times (i+1) w7)))))))))) ∧
(¬(0<r2) →
(In64 (i+1) ∧
∃ m6,m6<m2∧I3 m6 times (i+1) w7))))) ∧
(¬(x2=true) →
(In64 (i+1) ∧
∃ m7,m7<m2∧I3 m7 times (i+1) w6)))))) ∧
(¬(i<((lx:Nat):Int)) →
(∃ Ax3:Option Addr,∃ lx3:Nat,∃ cx3:Nat,w6.cell? (⟨g,0,none⟩:Addr)=some (Value.slice Ax3 lx3 cx3) ∧
(Calls Tryz.prog 109 #[(Value.pointer (some px)),(Value.slice Ax3 lx3 cx3),(Value.int .i64 times)] w6 fun e w8=>e = .returned (Value.tuple #[]) ∧
∃ m8,m8<m1∧I2 m8 w8))))))) ∧
(¬(r=true) →
R w5)))))) ∧
(¬(x=0) →
R w2))))
theorem yfq(px:Addr)(w:World)(R:World→Prop)(h:ycy px w R) :
    Calls Tryz.prog 68 #[(.pointer (some px))] w fun e w'=>e = .returned (.tuple #[])∧R  w':=by
  unfold ycy at h;refine yak (l:=[(.pointer (some px))]) func68 rfl ntmps68 zY (yah ?_);obtain ⟨I2,⟨m0,h0⟩,hr⟩:=h;refine yaA (fun m E ds w'=>I2 m w'∧ds=[]∧E 0=(Value.pointer (some px))) m0 ⟨h0,rfl,rfl⟩ ?_;clear h0;rintro m1 E ds w2 ⟨h,rfl,hE0⟩ again;replace h:=hr m1 w2 h;clear hr;refine yac (zs (zq (yad hE0) (zq (ybj rfl) (zq (yae rfl underlying172 rfl ycK) ?_))));obtain ⟨x,hc,h⟩:=h;refine zq (zl underlying29 hc) (zq zE (yaa ?_));by_cases hp:x=0
  · replace h:=h.1 hp;refine zc hp (yaf (yah (zs (zq (yad hE0) (zn (yaj rfl (am1 rfl) enter_113 (h.mono ?_)))))));rintro _ w3 ⟨Ar,lr,cr,r,rfl,h⟩;refine ⟨_,rfl,Stb.none _,?_⟩;refine zM (.tuple #[(.slice Ar lr cr),(.bool (r))]) (zq (zx (.slice Ar lr cr)) (zq (zx (.bool (r))) (zn (ya1 yh3 ?_))));intro g w4 hN;replace h:=h g w4 hN;clear hN;refine zb ?_;obtain ⟨hw,h⟩:=h;refine zo (zt (.slice Ar lr cr) yh3 hw ?_);intro w5 ew;replace h:=h w5 ew;clear ew;refine zb (zQ (.bool (r)) (yaa (yac (zs (zM (.bool (r)) (zq (ydd rfl) (yaa ?_)))))));by_cases hp2:r=true
    · replace h:=h.1 hp2;refine yaq (zC (zB hp2)) (yaf (zs (zQ (ii 0) (yaa (yac (zs ?_))))));obtain ⟨Ax,lx,cx,hc2,h⟩:=h;refine zq (zl underlying168 hc2) (zq (yhE rfl underlying168) (zM (ii 0) (yaa (yah ?_))));obtain ⟨I3,⟨m0,h0⟩,hr⟩:=h;refine yaA (fun m E ds w'=>∃ times i,I3 m times i w'∧ds=[]∧E 0=(Value.pointer (some px))∧E 2=(Value.pointer (some ⟨g,0,none⟩))∧E 4=(ii times)∧E 21=(Value.slice Ax lx cx)∧E 22=(ii ((lx:Nat):Int))∧E 23=(ii i)) m0 ⟨_,_,h0,rfl,hE0,rfl,rfl,rfl,rfl,rfl⟩ ?_;clear h0;rintro m2 E ds w6 ⟨times,i,h,rfl,hE0,hE2,hE4,hE21,hE22,hE23⟩ again2;replace h:=hr m2 times i w6 h;clear hr;refine zs (zq (ydf hE23 hE22) (yaa (yac ?_)));by_cases hp3:i<((lx:Nat):Int)
      · replace h:=h.1 hp3;refine zc hp3 (yaf (yac (yah (zs (zq (yad hE23) ?_)))));obtain ⟨hx,h⟩:=h;refine zq (ycw hE21 hE23 underlying168 ybP hx) ?_;obtain ⟨x2,hc3,h⟩:=h;refine zq (zl underlying4 hc3) (zQ (ii i) (zQ (.bool (x2)) (yaa (yac (zs (zM (.bool (x2)) (zq (ydd rfl) (yaa ?_))))))));by_cases hp4:x2=true
        · replace h:=h.1 hp4;refine yaq (zC (zB hp4)) (yaf (zs (zq (yad hE0) (zM (ii i) (zq (yfM (am0) (am1 hE2)) (zn (yaj rfl (am3 rfl rfl rfl) enter_111 (h.mono ?_))))))));rintro _ w7 ⟨r2,rfl,h⟩;refine ⟨_,rfl,Stb.none _,?_⟩;refine zQ (ii r2) (yaa (zs (zM (ii r2) (zq zG (yaa ?_)))));by_cases hp5:0<r2
          · replace h:=h.1 hp5;refine zc hp5 (zs (zq (yad hE0) (zq (ybj rfl) (zq (yae rfl underlying172 rfl yaY) ?_))));obtain ⟨Ax2,lx2,cx2,hc4,h⟩:=h;refine zq (zl underlying34 hc4) (zM (ii i) ?_);obtain ⟨hx2,h⟩:=h;refine zq (zi underlying34 yab hx2) ?_;obtain ⟨x3,hc5,h⟩:=h;refine zq (zl underlying3 hc5) (zM (ii r2) ?_);obtain ⟨hz,h⟩:=h;obtain ⟨hi,h⟩:=h;refine zq (v_quo rfl rfl hz hi) (zQ (ii (x3.tdiv r2)) (yaa (zs (zq (yad hE4) (zq zE (zM (.bool (decide (times=0))) ?_))))));by_cases hp6:times=0
            · replace h:=h.1 hp6;refine zV rfl rfl (zT hp6) (zV rfl rfl (zT hp6) (zV rfl rfl (zT hp6) (zq (yau (v:=(.bool (true))) (zT hp6) rfl) (yaa (yal rfl (zr (zM (ii (x3.tdiv r2)) (zQ (ii (x3.tdiv r2)) (yaa (yag (zr ?_)))))))))));obtain ⟨hi2,h⟩:=h;refine zq (ybU hE23 rfl hi2) (zM (ii (i+1)) (yaa ?_));obtain ⟨mq,hlt,h⟩:=h;exact again2 mq _ _ _ ⟨_,_,h,rfl,hE0,hE2,rfl,hE21,hE22,rfl⟩ hlt
            · replace h:=h.2 hp6;refine zW rfl rfl (zF hp6) (zm (ii (x3.tdiv r2))) (zW rfl rfl (zF hp6) (yad hE4) (zW rfl rfl (zF hp6) zL (zq (yaw (v:=(.bool (decide ((x3.tdiv r2)<times)))) (zF hp6) rfl) (yaa ?_))));by_cases hp7:(x3.tdiv r2)<times
              · replace h:=h.1 hp7;refine zc hp7 (zr (zM (ii (x3.tdiv r2)) (zQ (ii (x3.tdiv r2)) (yaa (yag (zr ?_))))));obtain ⟨hi3,h⟩:=h;refine zq (ybU hE23 rfl hi3) (zM (ii (i+1)) (yaa ?_));obtain ⟨mq,hlt,h⟩:=h;exact again2 mq _ _ _ ⟨_,_,h,rfl,hE0,hE2,rfl,hE21,hE22,rfl⟩ hlt
              · replace h:=h.2 hp7;refine zd hp7 (yaf (yag (zr ?_)));obtain ⟨hi4,h⟩:=h;refine zq (ybU hE23 rfl hi4) (zM (ii (i+1)) (yaa ?_));obtain ⟨mq,hlt,h⟩:=h;exact again2 mq _ _ _ ⟨_,_,h,rfl,hE0,hE2,hE4,hE21,hE22,rfl⟩ hlt
          · replace h:=h.2 hp5;refine zd hp5 (yaf (yag (zr ?_)));obtain ⟨hi5,h⟩:=h;refine zq (ybU hE23 rfl hi5) (zM (ii (i+1)) (yaa ?_));obtain ⟨mq,hlt,h⟩:=h;exact again2 mq _ _ _ ⟨_,_,h,rfl,hE0,hE2,hE4,hE21,hE22,rfl⟩ hlt
        · replace h:=h.2 hp4;refine yal (zC (zB (zI hp4))) (yav rfl (zr ?_));obtain ⟨hi6,h⟩:=h;refine zq (ybU hE23 rfl hi6) (zM (ii (i+1)) (yaa ?_));obtain ⟨mq,hlt,h⟩:=h;exact again2 mq _ _ _ ⟨_,_,h,rfl,hE0,hE2,hE4,hE21,hE22,rfl⟩ hlt
      · replace h:=h.2 hp3;refine zd hp3 (yav rfl (zr (zq (yad hE0) ?_)));obtain ⟨Ax3,lx3,cx3,hc6,h⟩:=h;refine zq (yam hE2 underlying168 rfl hc6) (zq (yad hE4) (zn (yaj rfl (am3 rfl rfl rfl) enter_109 (h.mono ?_))));rintro _ w8 ⟨rfl,h⟩;refine ⟨_,rfl,Stb.none _,?_⟩;refine yaa (yag ?_);obtain ⟨mq,hlt,h⟩:=h;exact again mq _ _ _ ⟨h,rfl,hE0⟩ hlt
    · replace h:=h.2 hp2;exact yal (zC (zB (zI hp2))) (yiz rfl ⟨rfl,h⟩)
  · replace h:=h.2 hp;exact zd hp (yav rfl (ydJ rfl ⟨rfl,h⟩))
def ycx(pd:Addr)(w:World)(R:Option Addr→Nat→Nat→Option Addr→Nat→Nat→Int→World→Prop):Prop :=
(∃ x:Int,w.cell? (Addr.add pd 5)=some (Value.int .i64 x) ∧
((x=0 →
(∃ Ax:Option Addr,∃ lx:Nat,∃ cx:Nat,w.drew.cell? (Addr.add pd 4)=some (Value.slice Ax lx cx) ∧
(∃ x2:Int,w.drew.cell? (Addr.add pd 2)=some (Value.int .i64 x2) ∧
(Ix Ax lx x2 ∧
(∃ x3:Int,w.drew.cell? (ixA Ax x2 1)=some (Value.int .i64 x3) ∧
(∃ Ax2:Option Addr,∃ lx2:Nat,∃ cx2:Nat,w.drew.cell? (Addr.add pd 4)=some (Value.slice Ax2 lx2 cx2) ∧
(∃ I2:Nat→Int→World→Prop,(∃ m0,I2 m0 0 w.drew)∧∀ m1 i w2,I2 m1 i w2 → 
((i<((lx2:Nat):Int) →
(∃ Ax3:Option Addr,∃ lx3:Nat,∃ cx3:Nat,w2.cell? (Addr.add pd 4)=some (Value.slice Ax3 lx3 cx3) ∧
(Ix Ax3 lx3 i ∧
(∃ x4:Int,w2.cell? (ixA Ax3 i 1)=some (Value.int .i64 x4) ∧
(In64 (x4-x3) ∧
(Ix Ax3 lx3 i ∧
(Wr w2 (ixA Ax3 i 1) ∧
∀ w3,w3=w2.setCell (ixA Ax3 i 1) (Value.int .i64 (x4-x3)) →
(In64 (i+1) ∧
∃ m2,m2<m1∧I2 m2 (i+1) w3)))))))) ∧
(¬(i<((lx2:Nat):Int)) →
(∃ J2:World→Prop,(∀ (w4:World),J2 w4→(∃ Ax4:Option Addr,∃ lx4:Nat,∃ cx4:Nat,w4.drew.cell? (Addr.add pd 3)=some (Value.slice Ax4 lx4 cx4) ∧
(∃ Ax5:Option Addr,∃ lx5:Nat,∃ cx5:Nat,w4.drew.cell? (Addr.add pd 4)=some (Value.slice Ax5 lx5 cx5) ∧
R Ax4 lx4 cx4 Ax5 lx5 cx5 0 w4.drew))) ∧
(∃ Ax6:Option Addr,∃ lx6:Nat,∃ cx6:Nat,w2.drew.cell? (Addr.add pd 3)=some (Value.slice Ax6 lx6 cx6) ∧
(∃ x5:Int,w2.drew.cell? (Addr.add (Addr.add pd 0) 0)=some (Value.int .i64 x5) ∧
(Calls Tryz.prog 33 #[(Value.slice Ax6 lx6 cx6),(Value.int .i64 x5)] w2.drew fun e w5=>∃ r2:Int,e = .returned (Value.int .i64 r2) ∧
((r2=0 →
(∃ Ax7:Option Addr,∃ lx7:Nat,∃ cx7:Nat,w5.cell? (Addr.add pd 4)=some (Value.slice Ax7 lx7 cx7) ∧
(∃ x6:Int,w5.cell? (Addr.add (Addr.add pd 0) 0)=some (Value.int .i64 x6) ∧
(Calls Tryz.prog 33 #[(Value.slice Ax7 lx7 cx7),(Value.int .i64 x6)] w5 fun e w6=>∃ r3:Int,e = .returned (Value.int .i64 r3) ∧
((r3=0 →
J2 w6) ∧
(¬(r3=0) →
R none 0 0 none 0 0 11 w6)))))) ∧
(¬(r2=0) →
R none 0 0 none 0 0 11 w5))))))))))))))) ∧
(¬(x=0) →
(∃ x7:Int,w.drew.cell? (Addr.add pd 5)=some (Value.int .i64 x7) ∧
R none 0 0 none 0 0 x7 w.drew))))
theorem yfc(pd:Addr)(w:World)(R:Option Addr→Nat→Nat→Option Addr→Nat→Nat→Int→World→Prop)(h:ycx pd w R) :
    Calls Tryz.prog 69 #[(.pointer (some pd))] w fun e w'=>∃ Ar lr cr Ar2 lr2 cr2 r,e = .returned (.tuple #[(.slice Ar lr cr),(.slice Ar2 lr2 cr2),(ii r)])∧R Ar lr cr Ar2 lr2 cr2 r w':=by
  unfold ycx at h;refine yak (l:=[(.pointer (some pd))]) func69 rfl ntmps69 zY (zs (zQ (.slice none 0 0) (zQ (.slice none 0 0) (zQ (ii 0) (yaa (yac (zs (zM (.pointer (some pd)) (zq (ybj rfl) (zq (yae rfl underlying172 rfl ycK) ?_))))))))));obtain ⟨x,hc,h⟩:=h;refine zq (zl underlying29 hc) (zq zN (yaa ?_));by_cases hp:x=0
  · replace h:=h.1 hp;refine ze hp (yaf (yac (ya9 [0,1,2,3,4,5,6,7,8,9,10] st0 yaQ (by kernel_rfl) (by kernel_rfl) (zp (zm (.pointer (some pd))) (zp (ybj rfl) (zp (yae rfl underlying172 rfl yfO) ?_))))));obtain ⟨Ax,lx,cx,hc2,h⟩:=h;refine zp (zl underlying56 hc2) (zp (zm (.pointer (some pd))) (zp (ybj rfl) (zp (yae rfl underlying172 rfl yab) ?_)));obtain ⟨x2,hc3,h⟩:=h;refine zp (zl underlying3 hc3) ?_;obtain ⟨hx,h⟩:=h;refine zp (zi underlying56 yab hx) ?_;obtain ⟨x3,hc4,h⟩:=h;refine zp (zl underlying3 hc4) (zp (za (ii x3)) (ybq (yac (zs (zM (.pointer (some pd)) (zq (ybj rfl) (zq (yae rfl underlying172 rfl yfO) ?_)))))));obtain ⟨Ax2,lx2,cx2,hc5,h⟩:=h;refine zq (zl underlying56 hc5) (zq (yhE rfl underlying56) (zM (ii 0) (yaa (yah ?_))));obtain ⟨I2,⟨m0,h0⟩,hr⟩:=h;refine yaA (fun m E ds w'=>∃ i,I2 m i w'∧ds=[]∧E 0=(Value.pointer (some pd))∧E 5=(ii x3)∧E 30=(ii ((lx2:Nat):Int))∧E 31=(ii i)) m0 ⟨_,h0,rfl,rfl,rfl,rfl,rfl⟩ ?_;clear h0;rintro m1 E ds w2 ⟨i,h,rfl,hE0,hE5,hE30,hE31⟩ again;replace h:=hr m1 i w2 h;clear hr;refine zs (zq (ydf hE31 hE30) (yaa (yac ?_)));by_cases hp2:i<((lx2:Nat):Int)
    · replace h:=h.1 hp2;refine zc hp2 (yaf (yac (yah (zs (zq (yad hE31) (zQ (ii i) (yaa (zr (zq (yad hE0) (zq (ybj rfl) (zq (yae rfl underlying172 rfl yfO) ?_)))))))))));obtain ⟨Ax3,lx3,cx3,hc6,h⟩:=h;refine zq (zl underlying56 hc6) (zM (ii i) ?_);obtain ⟨hx2,h⟩:=h;refine zq (zi underlying56 yab hx2) ?_;obtain ⟨x4,hc7,h⟩:=h;refine zq (zl underlying3 hc7) (zq (yad hE5) ?_);obtain ⟨hi,h⟩:=h;refine zq (zS hi) ?_;obtain ⟨hx3,h⟩:=h;refine zq (zi underlying56 yab hx3) ?_;obtain ⟨hw,h⟩:=h;refine zo (zt (ii (x4-x3)) yab hw ?_);intro w3 ew;replace h:=h w3 ew;clear ew;refine zb (yaa (yag (zr ?_)));obtain ⟨hi2,h⟩:=h;refine zq (ybU hE31 rfl hi2) (zM (ii (i+1)) (yaa ?_));obtain ⟨mq,hlt,h⟩:=h;exact again mq _ _ _ ⟨_,h,rfl,hE0,hE5,hE30,rfl⟩ hlt
    · replace h:=h.2 hp2;refine zd hp2 (yav rfl (yac (yac ?_)));obtain ⟨J2,hJ,h⟩:=h;refine ydm (fun E ds w'=>J2 w'∧ds=[]∧E 0=(Value.pointer (some pd))) ?_ ?_
      · rintro E ds w4 ⟨h,rfl,hE0⟩;replace h:=hJ w4 h;refine yac (ya9 [0,1,2,3,4,5,6,7,8,9,10] st0 yaQ (by kernel_rfl) (by kernel_rfl) (zp (yad hE0) (zp (ybj rfl) (zp (yae rfl underlying172 rfl yaY) ?_))));obtain ⟨Ax4,lx4,cx4,hc8,h⟩:=h;refine zp (zl underlying34 hc8) (zp (yad hE0) (zp (ybj rfl) (zp (yae rfl underlying172 rfl yfO) ?_)));obtain ⟨Ax5,lx5,cx5,hc9,h⟩:=h;exact zp (zl underlying56 hc9) (zp (za (.slice Ax4 lx4 cx4)) (zp (za (.slice Ax5 lx5 cx5)) (zp (za (ii 0)) (ybq (yhm rfl rfl rfl rfl ⟨_,_,_,_,_,_,_,rfl,h⟩)))))
      clear hJ;intro j;refine ya9 [0,1,2,3,4,5,6,7,8,9,10,11,12,13,14,15,16,17,18,19,20,21,22,23] st0 yaQ (by kernel_rfl) (by kernel_rfl) (zp (yad hE0) (zp (ybj rfl) (zp (yae rfl underlying172 rfl yaY) ?_)));obtain ⟨Ax6,lx6,cx6,hc10,h⟩:=h;refine zp (zl underlying34 hc10) (zp (yad hE0) (zp (ybj rfl) (zp (yae rfl underlying172 rfl yat) (zp (yae rfl underlying24 rfl yab) ?_))));obtain ⟨x5,hc11,h⟩:=h;refine zp (zl underlying3 hc11) (rp_n rfl rfl rfl rfl (yaj rfl (am2 rfl rfl) yf6 (h.mono ?_)));rintro _ w5 ⟨r2,rfl,h⟩;refine ⟨_,rfl,Stb.none _,?_⟩;refine zp zN (zp (zm (.bool (!(decide (r2=0))))) ?_);by_cases hp3:r2=0
      · replace h:=h.1 hp3;refine rp_q (yar rfl (yaD rfl (zC (zB (decide_eq_true hp3))))) rfl rfl (yad hE0) (rp_q (yar rfl (yaD rfl (zC (zB (decide_eq_true hp3))))) rfl rfl (ybj rfl) (rp_q (yar rfl (yaD rfl (zC (zB (decide_eq_true hp3))))) rfl rfl (yae rfl underlying172 rfl yfO) ?_));obtain ⟨Ax7,lx7,cx7,hc12,h⟩:=h;refine rp_q (yar rfl (yaD rfl (zC (zB (decide_eq_true hp3))))) rfl rfl (zl underlying56 hc12) (rp_q (yar rfl (yaD rfl (zC (zB (decide_eq_true hp3))))) rfl rfl (yad hE0) (rp_q (yar rfl (yaD rfl (zC (zB (decide_eq_true hp3))))) rfl rfl (ybj rfl) (rp_q (yar rfl (yaD rfl (zC (zB (decide_eq_true hp3))))) rfl rfl (yae rfl underlying172 rfl yat) (rp_q (yar rfl (yaD rfl (zC (zB (decide_eq_true hp3))))) rfl rfl (yae rfl underlying24 rfl yab) ?_))));obtain ⟨x6,hc13,h⟩:=h;refine rp_q (yar rfl (yaD rfl (zC (zB (decide_eq_true hp3))))) rfl rfl (zl underlying3 hc13) (rp_n (yar rfl (yaD rfl (zC (zB (decide_eq_true hp3))))) rfl rfl rfl (yaj rfl (am2 rfl rfl) yf6 (h.mono ?_)));rintro _ w6 ⟨r3,rfl,h⟩;refine ⟨_,rfl,Stb.none _,?_⟩;refine rp_q (yar rfl (yaD rfl (zC (zB (decide_eq_true hp3))))) rfl rfl zN (zp (yaw (v:=(.bool (!(decide (r3=0))))) (zC (zB (decide_eq_true hp3))) rfl) (ybq ?_));by_cases hp4:r3=0
        · replace h:=h.1 hp4;exact ze hp4 (yaf (j _ _ _ ⟨h,rfl,hE0⟩))
        · replace h:=h.2 hp4;exact zf hp4 (zs (zQ (.slice none 0 0) (zQ (.slice none 0 0) (zQ (ii 11) (yaa (yhm rfl rfl rfl rfl ⟨_,_,_,_,_,_,_,rfl,h⟩))))))
      · replace h:=h.2 hp3;exact rp_p (yax rfl (yaD rfl (zC (zB (decide_eq_false hp3)))) rfl) rfl (rp_p (yax rfl (yaD rfl (zC (zB (decide_eq_false hp3)))) rfl) rfl (rp_p (yax rfl (yaD rfl (zC (zB (decide_eq_false hp3)))) rfl) rfl (rp_p (yax rfl (yaD rfl (zC (zB (decide_eq_false hp3)))) rfl) rfl (rp_p (yax rfl (yaD rfl (zC (zB (decide_eq_false hp3)))) rfl) rfl (rp_p (yax rfl (yaD rfl (zC (zB (decide_eq_false hp3)))) rfl) rfl (rp_p (yax rfl (yaD rfl (zC (zB (decide_eq_false hp3)))) rfl) rfl (rp_p (yax rfl (yaD rfl (zC (zB (decide_eq_false hp3)))) rfl) rfl (rp_p (yax rfl (yaD rfl (zC (zB (decide_eq_false hp3)))) rfl) rfl (rp_p (yax rfl (yaD rfl (zC (zB (decide_eq_false hp3)))) rfl) rfl (rp_p (yax rfl (yaD rfl (zC (zB (decide_eq_false hp3)))) rfl) rfl (zp (yau (v:=(.bool (true))) (zC (zB (decide_eq_false hp3))) rfl) (ybq (yal rfl (zs (zQ (.slice none 0 0) (zQ (.slice none 0 0) (zQ (ii 11) (yaa (yhm rfl rfl rfl rfl ⟨_,_,_,_,_,_,_,rfl,h⟩)))))))))))))))))))
  · replace h:=h.2 hp;refine zf hp (yac (ya9 [0,1,2,3,4,5,6] st0 yaQ (by kernel_rfl) (by kernel_rfl) (zp (zm (.pointer (some pd))) (zp (ybj rfl) (zp (yae rfl underlying172 rfl ycK) ?_)))));obtain ⟨x7,hc14,h⟩:=h;exact zp (zl underlying29 hc14) (zp (za (.slice none 0 0)) (zp (za (.slice none 0 0)) (zp (za (ii x7)) (ybq (yhm rfl rfl rfl rfl ⟨_,_,_,_,_,_,_,rfl,h⟩)))))
def yct(u:Int)(cap:Addr)(w:World)(R:Bool→World→Prop):Prop :=
(∃ Ax:Option Addr,∃ lx:Nat,∃ cx:Nat,w.cell? cap=some (Value.slice Ax lx cx) ∧
(Ix Ax lx u ∧
(∃ x:Bool,w.cell? (ixA Ax u 1)=some (Value.bool (x)) ∧
R x w)))
theorem yfd(u:Int)(cap:Addr)(w:World)(R:Bool→World→Prop)(h:yct u cap w R) :
    Calls Tryz.prog 112 #[(ii u),(.pointer (some cap))] w fun e w'=>∃ r,e = .returned (.bool (r))∧R r w':=by
  unfold yct at h;refine yak (l:=[(ii u),(.pointer (some cap))]) func112 rfl ntmps112 zY (zs (zQ (.bool (false)) (yaa (zs ?_))));obtain ⟨Ax,lx,cx,hc,h⟩:=h;refine zq (zl underlying168 hc) (zM (ii u) ?_);obtain ⟨hx,h⟩:=h;refine zq (zi underlying168 ybP hx) ?_;obtain ⟨x,hc2,h⟩:=h;exact zq (zl underlying4 hc2) (zQ (.bool (x)) (yaa (yai rfl rfl ⟨_,rfl,h⟩)))
def ych(u:Int)(cap:Addr)(w:World)(R:Bool→World→Prop):Prop :=
(∃ Ax:Option Addr,∃ lx:Nat,∃ cx:Nat,w.cell? cap=some (Value.slice Ax lx cx) ∧
(Ix Ax lx u ∧
(∃ x:Bool,w.cell? (ixA Ax u 1)=some (Value.bool (x)) ∧
R (!(x)) w)))
theorem yeO(u:Int)(cap:Addr)(w:World)(R:Bool→World→Prop)(h:ych u cap w R) :
    Calls Tryz.prog 114 #[(ii u),(.pointer (some cap))] w fun e w'=>∃ r,e = .returned (.bool (r))∧R r w':=by
  unfold ych at h;refine yak (l:=[(ii u),(.pointer (some cap))]) func114 rfl ntmps114 zY (zs (zQ (.bool (false)) (yaa (zs ?_))));obtain ⟨Ax,lx,cx,hc,h⟩:=h;refine zq (zl underlying168 hc) (zM (ii u) ?_);obtain ⟨hx,h⟩:=h;refine zq (zi underlying168 ybP hx) ?_;obtain ⟨x,hc2,h⟩:=h;exact zq (zl underlying4 hc2) (zq (ydd rfl) (zQ (.bool (!(x))) (yaa (yai rfl rfl ⟨_,rfl,h⟩))))
def ycY(g:Int)(Ag:Option Addr)(lg:Nat)(cg:Nat)(q:Int)(Ad:Option Addr)(ld:Nat)(cd:Nat)(w:World)(R:Option Addr→Nat→Nat→Option Addr→Nat→Nat→Int→World→Prop):Prop :=
(∀ (g2:Nat) (w2:World),New w g2 w2 #[(Value.int .i64 g),(Value.slice Ag lg cg)] 24 →
(Calls Tryz.prog 65 #[(Value.agg #[(Value.int .i64 g),(Value.slice Ag lg cg)]),(Value.int .i64 q),(Value.slice Ad ld cd)] w2 fun e w3=>∃ r2:Int,e = .returned (Value.int .i64 r2) ∧
Kp w2 w3 g2 ∧
((r2=0 →
(Calls Tryz.prog 66 #[(Value.agg #[(Value.int .i64 g),(Value.slice Ag lg cg)]),(Value.int .i64 q),(Value.slice Ad ld cd)] w3 fun e w4=>∃ pr:Addr,e = .returned (Value.pointer (some pr)) ∧
Kp w3 w4 g2 ∧
(Calls Tryz.prog 67 #[(Value.pointer (some pr))] w4 fun e w5=>e = .returned (Value.tuple #[]) ∧
Kp w4 w5 g2 ∧
(Calls Tryz.prog 68 #[(Value.pointer (some pr))] w5 fun e w6=>e = .returned (Value.tuple #[]) ∧
Kp w5 w6 g2 ∧
(Calls Tryz.prog 69 #[(Value.pointer (some pr))] w6 fun e w7=>∃ Ar3:Option Addr,∃ lr3:Nat,∃ cr3:Nat,∃ Ar4:Option Addr,∃ lr4:Nat,∃ cr4:Nat,∃ r3:Int,e = .returned (Value.tuple #[(Value.slice Ar3 lr3 cr3),(Value.slice Ar4 lr4 cr4),(Value.int .i64 r3)]) ∧
Kp w6 w7 g2 ∧
R Ar3 lr3 cr3 Ar4 lr4 cr4 r3 w7))))) ∧
(¬(r2=0) →
R none 0 0 none 0 0 r2 w3))))
theorem ye0(g:Int)(Ag:Option Addr)(lg:Nat)(cg:Nat)(q:Int)(Ad:Option Addr)(ld:Nat)(cd:Nat)(w:World)(R:Option Addr→Nat→Nat→Option Addr→Nat→Nat→Int→World→Prop)(h:ycY g Ag lg cg q Ad ld cd w R) :
    Calls Tryz.prog 28 #[(.agg #[(ii g),(.slice Ag lg cg)]),(ii q),(.slice Ad ld cd)] w fun e w'=>∃ Ar lr cr Ar2 lr2 cr2 r,e = .returned (.tuple #[(.slice Ar lr cr),(.slice Ar2 lr2 cr2),(ii r)])∧R Ar lr cr Ar2 lr2 cr2 r w':=by
  unfold ycY at h;refine yak (l:=[(.agg #[(ii g),(.slice Ag lg cg)]),(ii q),(.slice Ad ld cd)]) func28 rfl ntmps28 zY (zs (zn (ybi (v:=(.agg #[(ii g),(.slice Ag lg cg)])) rfl ?_)));intro g2 w2 hN;replace h:=h g2 w2 hN;have rB:Row w2 g2 24 2 [(ii g),(.slice Ag lg cg)]:=hN.row;clear hN;refine zb (zQ (.slice none 0 0) (zQ (.slice none 0 0) (zQ (ii 0) (yaa (yac (zs (zq (yao (vs:=[(ii g),(.slice Ag lg cg)]) rfl underlying24 rfl yat ⟨Row.cell rB (i:=0) rfl,Row.cell rB (i:=1) rfl,trivial⟩) (zM (ii q) (zM (.slice Ad ld cd) (zn (yaj rfl (am3 rfl rfl rfl) enter_65 (h.mono ?_))))))))))));rintro _ w3 ⟨r2,rfl,hk,h⟩;replace rB:=rB.kp hk;refine ⟨_,rfl,Stb.none _,?_⟩;refine zQ (ii r2) (yaa (zs (zM (ii r2) (zq zN (yaa ?_)))));by_cases hp:r2=0
  · replace h:=h.1 hp;refine ze hp (yaf (zs (zq (yao (vs:=[(ii g),(.slice Ag lg cg)]) rfl underlying24 rfl yat ⟨Row.cell rB (i:=0) rfl,Row.cell rB (i:=1) rfl,trivial⟩) (zM (ii q) (zM (.slice Ad ld cd) (zn (yaj rfl (am3 rfl rfl rfl) enter_66 (h.mono ?_))))))));rintro _ w4 ⟨pr,rfl,hk2,h⟩;replace rB:=rB.kp hk2;refine ⟨_,rfl,Stb.none _,?_⟩;refine zQ (.pointer (some pr)) (yaa (zs (zM (.pointer (some pr)) (zn (yaj rfl (am1 rfl) enter_67 (h.mono ?_))))));rintro _ w5 ⟨rfl,hk3,h⟩;replace rB:=rB.kp hk3;refine ⟨_,rfl,Stb.none _,?_⟩;refine yaa (zs (zM (.pointer (some pr)) (zn (yaj rfl (am1 rfl) enter_68 (h.mono ?_)))));rintro _ w6 ⟨rfl,hk4,h⟩;replace rB:=rB.kp hk4;refine ⟨_,rfl,Stb.none _,?_⟩;refine yaa (zs (zM (.pointer (some pr)) (zn (yaj rfl (am1 rfl) enter_69 (h.mono ?_)))));rintro _ w7 ⟨Ar3,lr3,cr3,Ar4,lr4,cr4,r3,rfl,hk5,h⟩;replace rB:=rB.kp hk5;refine ⟨_,rfl,Stb.none _,?_⟩;exact zq (zx (.slice Ar3 lr3 cr3)) (zq (zx (.slice Ar4 lr4 cr4)) (zq (zx (ii r3)) (zQ (.slice Ar3 lr3 cr3) (zQ (.slice Ar4 lr4 cr4) (zQ (ii r3) (yaa (yhm rfl rfl rfl rfl ⟨_,_,_,_,_,_,_,rfl,h⟩)))))))
  · replace h:=h.2 hp;exact zf hp (zs (zM (ii r2) (zQ (.slice none 0 0) (zQ (.slice none 0 0) (zQ (ii r2) (yaa (yhm rfl rfl rfl rfl ⟨_,_,_,_,_,_,_,rfl,h⟩)))))))
def yc3(g:Int)(Ag:Option Addr)(lg:Nat)(cg:Nat)(q:Int)(Ad:Option Addr)(ld:Nat)(cd:Nat)(w:World)(R:Bool→Int→World→Prop):Prop :=
(∀ (g2:Nat) (w2:World),New w g2 w2 #[(Value.int .i64 g),(Value.slice Ag lg cg)] 24 →
(Calls Tryz.prog 65 #[(Value.agg #[(Value.int .i64 g),(Value.slice Ag lg cg)]),(Value.int .i64 q),(Value.slice Ad ld cd)] w2 fun e w3=>∃ r3:Int,e = .returned (Value.int .i64 r3) ∧
Kp w2 w3 g2 ∧
((r3=0 →
(Calls Tryz.prog 168 #[(Value.int .i64 q),(Value.slice Ad ld cd)] w3 fun e w4=>∃ r4:Bool,e = .returned (Value.bool (r4)) ∧
Kp w3 w4 g2 ∧
((r4=true →
R false 0 w4) ∧
(¬(r4=true) →
(Calls Tryz.prog 66 #[(Value.agg #[(Value.int .i64 g),(Value.slice Ag lg cg)]),(Value.int .i64 q),(Value.slice Ad ld cd)] w4 fun e w5=>∃ pr:Addr,e = .returned (Value.pointer (some pr)) ∧
Kp w4 w5 g2 ∧
(Calls Tryz.prog 113 #[(Value.pointer (some pr))] w5 fun e w6=>∃ Ar:Option Addr,∃ lr:Nat,∃ cr:Nat,∃ r5:Bool,e = .returned (Value.tuple #[(Value.slice Ar lr cr),(Value.bool (r5))]) ∧
Kp w5 w6 g2 ∧
R (!(r5)) 0 w6)))))) ∧
(¬(r3=0) →
R false r3 w3))))
theorem yga(g:Int)(Ag:Option Addr)(lg:Nat)(cg:Nat)(q:Int)(Ad:Option Addr)(ld:Nat)(cd:Nat)(w:World)(R:Bool→Int→World→Prop)(h:yc3 g Ag lg cg q Ad ld cd w R) :
    Calls Tryz.prog 115 #[(.agg #[(ii g),(.slice Ag lg cg)]),(ii q),(.slice Ad ld cd)] w fun e w'=>∃ r r2,e = .returned (.tuple #[(.bool (r)),(ii r2)])∧R r r2 w':=by
  unfold yc3 at h;refine yak (l:=[(.agg #[(ii g),(.slice Ag lg cg)]),(ii q),(.slice Ad ld cd)]) func115 rfl ntmps115 zY (zs (zn (ybi (v:=(.agg #[(ii g),(.slice Ag lg cg)])) rfl ?_)));intro g2 w2 hN;replace h:=h g2 w2 hN;have rB:Row w2 g2 24 2 [(ii g),(.slice Ag lg cg)]:=hN.row;clear hN;refine zb (zQ (.bool (false)) (zQ (ii 0) (yaa (yac (zs (zq (yao (vs:=[(ii g),(.slice Ag lg cg)]) rfl underlying24 rfl yat ⟨Row.cell rB (i:=0) rfl,Row.cell rB (i:=1) rfl,trivial⟩) (zM (ii q) (zM (.slice Ad ld cd) (zn (yaj rfl (am3 rfl rfl rfl) enter_65 (h.mono ?_)))))))))));rintro _ w3 ⟨r3,rfl,hk,h⟩;replace rB:=rB.kp hk;refine ⟨_,rfl,Stb.none _,?_⟩;refine zQ (ii r3) (yaa (zs (zM (ii r3) (zq zN (yaa ?_)))));by_cases hp:r3=0
  · replace h:=h.1 hp;refine ze hp (yaf (yac (zs (zM (ii q) (zM (.slice Ad ld cd) (zn (yaj rfl (am2 rfl rfl) enter_168 (h.mono ?_))))))));rintro _ w4 ⟨r4,rfl,hk2,h⟩;replace rB:=rB.kp hk2;refine ⟨_,rfl,Stb.none _,?_⟩;refine yaa ?_;by_cases hp2:r4=true
    · replace h:=h.1 hp2;exact yal (zC hp2) (zs (zQ (.bool (false)) (zQ (ii 0) (yaa (yaZ rfl rfl rfl ⟨_,_,rfl,h⟩)))))
    · replace h:=h.2 hp2;refine yaq (zC (zI hp2)) (yaf (zs (zq (yao (vs:=[(ii g),(.slice Ag lg cg)]) rfl underlying24 rfl yat ⟨Row.cell rB (i:=0) rfl,Row.cell rB (i:=1) rfl,trivial⟩) (zM (ii q) (zM (.slice Ad ld cd) (zn (yaj rfl (am3 rfl rfl rfl) enter_66 (h.mono ?_))))))));rintro _ w5 ⟨pr,rfl,hk3,h⟩;replace rB:=rB.kp hk3;refine ⟨_,rfl,Stb.none _,?_⟩;refine zn (yaj rfl (am1 rfl) enter_113 (h.mono ?_));rintro _ w6 ⟨Ar,lr,cr,r5,rfl,hk4,h⟩;replace rB:=rB.kp hk4;refine ⟨_,rfl,Stb.none _,?_⟩;exact zM (.tuple #[(.slice Ar lr cr),(.bool (r5))]) (zq (zx (.slice Ar lr cr)) (zq (zx (.bool (r5))) (zQ (.slice Ar lr cr) (zQ (.bool (r5)) (yaa (zs (zM (.bool (r5)) (zq (ydd rfl) (zQ (.bool (!(r5))) (zQ (ii 0) (yaa (yaZ rfl rfl rfl ⟨_,_,rfl,h⟩))))))))))))
  · replace h:=h.2 hp;exact zf hp (zs (zM (ii r3) (zQ (.bool (false)) (zQ (ii r3) (yaa (yaZ rfl rfl rfl ⟨_,_,rfl,h⟩))))))
def yeP(Ax:Option Addr)(lx:Nat)(cx:Nat)(w:World)(R:Int→World→Prop):Prop :=
(∃ J2:World→Prop,(∀ (w2:World),J2 w2→(Ix Ax lx 0 ∧
(∃ x:Int,w2.cell? (ixA Ax 0 1)=some (Value.int .i64 x) ∧
(∃ I2:Nat→Int→Int→World→Prop,(∃ m0,I2 m0 x 1 w2)∧∀ m1 m2 i w3,I2 m1 m2 i w3 → 
((i<((lx:Nat):Int) →
(Ix Ax lx i ∧
(∃ x2:Int,w3.cell? (ixA Ax i 1)=some (Value.int .i64 x2) ∧
(In64 (i+1) ∧
∃ m3,m3<m1∧I2 m3 (mxF m2 x2) (i+1) w3)))) ∧
(¬(i<((lx:Nat):Int)) →
R m2 w3)))))) ∧
((((lx:Nat):Int)<1 →
False) ∧
(¬(((lx:Nat):Int)<1) →
J2 w)))
theorem ok_slices_Max_ (Ax:Option Addr)(lx:Nat)(cx:Nat)(w:World)(R:Int→World→Prop)(h:yeP Ax lx cx w R) :
    Calls Tryz.prog 110 #[(.slice Ax lx cx)] w fun e w'=>∃ r,e = .returned (ii r)∧R r w':=by
  unfold yeP at h;refine yak (l:=[(.slice Ax lx cx)]) func110 rfl ntmps110 zY (zs (zQ (ii 0) (yaa (yac (zs (zM (.slice Ax lx cx) (zq (yhE rfl underlying33) (zq zL (yaa ?_)))))))));obtain ⟨J2,hJ,h⟩:=h;refine wt_cutT0 (fun E ds w'=>J2 w'∧ds=[]∧E 0=(Value.slice Ax lx cx)) ?_ ?_
  · rintro E ds w2 ⟨h,rfl,hE0⟩;replace h:=hJ w2 h;refine zs (zq (yad hE0) ?_);obtain ⟨hx,h⟩:=h;refine zq (zi underlying33 yab hx) ?_;obtain ⟨x,hc,h⟩:=h;refine zq (zl underlying3 hc) (zQ (ii x) (yaa (yac (zs (zQ (ii 1) (yaa (yah ?_)))))));obtain ⟨I2,⟨m0,h0⟩,hr⟩:=h;refine yaA (fun m E ds w'=>∃ m2 i,I2 m m2 i w'∧ds=[]∧E 0=(Value.slice Ax lx cx)∧E 3=(ii m2)∧E 4=(ii i)) m0 ⟨_,_,h0,rfl,hE0,rfl,rfl⟩ ?_;clear h0;rintro m1 E ds w3 ⟨m2,i,h,rfl,hE0,hE3,hE4⟩ again;replace h:=hr m1 m2 i w3 h;clear hr;refine yac (zs (zq (yad hE4) (zq (yad hE0) (zq (yhE rfl underlying33) (zq zL (yaa ?_))))));by_cases hp:i<((lx:Nat):Int)
    · replace h:=h.1 hp;refine zc hp (yaf (yac (yah (zr (zq (yad hE3) (zq (yad hE0) (zq (yad hE4) ?_)))))));obtain ⟨hx2,h⟩:=h;refine zq (zi underlying33 yab hx2) ?_;obtain ⟨x2,hc2,h⟩:=h;refine zq (zl underlying3 hc2) (zq (v_max2 rfl rfl) (zQ (ii (mxF m2 x2)) (yaa (yag (zr (zq (yad hE4) ?_))))));obtain ⟨hi,h⟩:=h;refine zq (zA hi) (zQ (ii (i+1)) (yaa ?_));obtain ⟨mq,hlt,h⟩:=h;exact again mq _ _ _ ⟨_,_,h,rfl,hE0,rfl,rfl⟩ hlt
    · replace h:=h.2 hp;exact zd hp (yav rfl (zs (zq (yad hE3) (zQ (ii m2) (yaa (yai rfl rfl ⟨_,rfl,h⟩))))))
  clear hJ;intro j;by_cases hp2:((lx:Nat):Int)<1
  · replace h:=h.1 hp2;exact zc hp2 (zr h.elim)
  · replace h:=h.2 hp2;exact zd hp2 (yaf (j _ _ _ ⟨h,rfl,rfl⟩))
end Go.Proofs.YtjepipbkiadcpaaGreat

/- Shallow forms of functions, made by program (sh.py), each with the proof that the code does so. -/
namespace Go.Proofs.YtjepipbkiadcpaaGreat
open Go Go.RowKit Go.Shelf Go.Proofs.Tryz
set_option maxRecDepth 100000
set_option maxHeartbeats 8000000
def ydK(Ax:Option Addr)(lx:Nat)(cx:Nat)(count:Int)(w:World)(R:Option Addr→Nat→Nat→World→Prop):Prop :=
(∃ J2:World→Prop,(∀ (w2:World),J2 w2→(InK .u64 ((lx:Nat):Int) ∧
(InK .u64 count ∧
(Calls Tryz.prog 191 #[(Value.int .u64 ((lx:Nat):Int)),(Value.int .u64 count)] w2 fun e w3=>∃ r:Int,∃ r2:Int,e = .returned (Value.tuple #[(Value.int .u64 r),(Value.int .u64 r2)]) ∧
(∃ J3:World→Prop,(∀ (w4:World),J3 w4→(In64 r2 ∧
((0≤r2∧r2≤1000000) ∧
∀ (g:Nat) (w5:World),New w4 g w5 (Array.replicate r2.toNat (Value.int .i64 0)) 3 →
(∃ (bl o:Nat) (ad:Addr) (nw:List Value),((some ⟨g,0,none⟩):Option Addr)=some ⟨bl,o,none⟩∧Ax=some ad∧nw.length=min lx r2.toNat∧(∀ j u,nw[j]? = some u→w5.cell? (ad.add j)=some u)∧(∀ u∈nw,u.oneCell'=true)∧w5.there bl o nw.length ∧
∀ w6,w6=w5.setCells bl o nw →
(∃ I2:Nat→Int→World→Prop,(∃ m0,I2 m0 ((min lx r2.toNat:Nat):Int) w6)∧∀ m1 n w7,I2 m1 n w7 → 
((n<((r2.toNat:Nat):Int) →
((0≤n∧n≤((r2.toNat:Nat):Int)) ∧
((0≤n∧n≤((r2.toNat:Nat):Int)) ∧
(∃ (bl2 o2:Nat) (ad2:Addr) (nw2:List Value),((slA (some ⟨g,0,none⟩) r2.toNat n.toNat 1):Option Addr)=some ⟨bl2,o2,none⟩∧(some ⟨g,0,none⟩)=some ad2∧nw2.length=min (n.toNat) (r2.toNat-n.toNat)∧(∀ j u,nw2[j]? = some u→w7.drew.cell? (ad2.add j)=some u)∧(∀ u∈nw2,u.oneCell'=true)∧w7.drew.there bl2 o2 nw2.length ∧
∀ w8,w8=w7.drew.setCells bl2 o2 nw2 →
(In64 (n+((min (n.toNat) (r2.toNat-n.toNat):Nat):Int)) ∧
∃ m2,m2<m1∧I2 m2 (n+((min (n.toNat) (r2.toNat-n.toNat):Nat):Int)) w8))))) ∧
(¬(n<((r2.toNat:Nat):Int)) →
R (some ⟨g,0,none⟩) r2.toNat r2.toNat w7))))))) ∧
((0<r →
False) ∧
(¬(0<r) →
((9223372036854775807<r2 →
False) ∧
(¬(9223372036854775807<r2) →
J3 w3))))))))) ∧
((count<0 →
False) ∧
(¬(count<0) →
J2 w)))
theorem yg3(Ax:Option Addr)(lx:Nat)(cx:Nat)(count:Int)(w:World)(R:Option Addr→Nat→Nat→World→Prop)(h:ydK Ax lx cx count w R) :
    Calls Tryz.prog 165 #[(.slice Ax lx cx),(ii count)] w fun e w'=>∃ Ar lr cr,e = .returned (.slice Ar lr cr)∧R Ar lr cr w':=by
  unfold ydK at h;refine yak (l:=[(.slice Ax lx cx),(ii count)]) func165 rfl ntmps165 zY (zs (zQ (.slice none 0 0) (yaa (yac (zs (zM (ii count) (zq zL (yaa ?_))))))));obtain ⟨J2,hJ,h⟩:=h;refine wt_cutT0 (fun E ds w'=>J2 w'∧ds=[]∧E 0=(Value.slice Ax lx cx)∧E 1=(ii count)) ?_ ?_
  · rintro E ds w2 ⟨h,rfl,hE0,hE1⟩;replace h:=hJ w2 h;refine zs (zq (yad hE0) (zq (yhE rfl underlying33) ?_));obtain ⟨hi,h⟩:=h;refine zq (v_convk rfl underlying3 underlying129 hi) (zq (yad hE1) ?_);obtain ⟨hi2,h⟩:=h;refine zq (v_convk rfl underlying3 underlying129 hi2) (zn (yaj rfl (am2 rfl rfl) enter_191 (h.mono ?_)));rintro _ w3 ⟨r,r2,rfl,h⟩;refine ⟨_,rfl,Stb.none _,?_⟩;refine zM (.tuple #[(.int .u64 r),(.int .u64 r2)]) (zq (zx (.int .u64 r)) (zq (zx (.int .u64 r2)) (zQ (.int .u64 r) (zQ (.int .u64 r2) (yaa (yac (yac ?_)))))));obtain ⟨J3,hJ,h⟩:=h;refine ydm (fun E ds w'=>J3 w'∧ds=[]∧E 0=(Value.slice Ax lx cx)∧E 6=(Value.int .u64 r2)) ?_ ?_
    · rintro E ds w4 ⟨h,rfl,hE0,hE6⟩;replace h:=hJ w4 h;refine zs (zq (yad hE6) ?_);obtain ⟨hi3,h⟩:=h;refine zq (v_conv rfl underlying129 underlying3 hi3) ?_;obtain ⟨hn,h⟩:=h;refine zn (ydg rfl rfl underlying33 yab (by decide) rfl hn ?_);intro g w5 hN;replace h:=h g w5 hN;clear hN;refine zb (zQ (.slice (some ⟨g,0,none⟩) r2.toNat r2.toNat) (yaa (zs (zM (.slice (some ⟨g,0,none⟩) r2.toNat r2.toNat) (zq (yad hE0) ?_)))));obtain ⟨bl,o,ad,nw,q1,q2,q3,q4,q5,q6,h⟩:=h;refine zn (n_copy rfl rfl underlying33 yab ⟨bl,o,ad,nw,q1,q2,q3,q4,q5,q6,?_⟩);intro w6 ew;replace h:=h w6 ew;clear ew q1 q2 q3 q4 q5 q6;refine zb (zQ (ii ((min lx r2.toNat:Nat):Int)) (yaa (yac (yah ?_))));obtain ⟨I2,⟨m0,h0⟩,hr⟩:=h;refine yaA (fun m E ds w'=>∃ n,I2 m n w'∧ds=[]∧E 7=(Value.slice (some ⟨g,0,none⟩) r2.toNat r2.toNat)∧E 8=(ii n)) m0 ⟨_,h0,rfl,rfl,rfl⟩ ?_;clear h0;rintro m1 E ds w7 ⟨n,h,rfl,hE7,hE8⟩ again;replace h:=hr m1 n w7 h;clear hr;refine yac (zs (zq (yad hE8) (zq (yad hE7) (zq (yhE rfl underlying33) (zq zL (yaa ?_))))));by_cases hp:n<((r2.toNat:Nat):Int)
      · replace h:=h.1 hp;refine zc hp (yaf (yah (ya9 [0,1,2,3,4,5,6,7,8,9] (fun i=>match i with | 7=>[0] | _=>[]) yaQ (by kernel_rfl) (by kernel_rfl) ?_)));refine zp (yad hE8) (zp (yad hE7) (zp (yad hE8) ?_));obtain ⟨hs,h⟩:=h;refine zp (yh8 rfl rfl underlying33 yab hs) (zp (yad hE7) (zp (yad hE8) ?_));obtain ⟨hs2,h⟩:=h;refine zp (v_slice_h rfl rfl underlying33 yab hs2) ?_;obtain ⟨bl2,o2,ad2,nw2,q1,q2,q3,q4,q5,q6,h⟩:=h;refine rp_n rfl rfl rfl rfl (n_copy rfl rfl underlying33 yab ⟨bl2,o2,ad2,nw2,q1,q2,q3,q4,q5,q6,?_⟩);intro w8 ew2;replace h:=h w8 ew2;clear ew2 q1 q2 q3 q4 q5 q6;refine ⟨⟨fun hh=>zZ hh,⟨fun hh=>zZ hh,⟨fun hh=>zZ hh,⟨fun hh=>zZ hh,⟨fun hh=>zZ hh,⟨fun hh=>zZ hh,⟨fun _=>(yad hE8),trivial⟩⟩⟩⟩⟩⟩⟩,?_⟩;obtain ⟨hi4,h⟩:=h;refine zp (zA hi4) (zp (za (ii (n+((min (n.toNat) (r2.toNat-n.toNat):Nat):Int)))) (ybq (yag ?_)));obtain ⟨mq,hlt,h⟩:=h;exact again mq _ _ _ ⟨_,h,rfl,hE7,rfl⟩ hlt
      · replace h:=h.2 hp;exact zd hp (yav rfl (zs (zq (yad hE7) (zQ (.slice (some ⟨g,0,none⟩) r2.toNat r2.toNat) (yaa (yai rfl rfl ⟨_,_,_,rfl,h⟩))))))
    clear hJ;intro j2;refine zr (zM (.int .u64 r) (zq zG (zM (.bool (decide (0<r))) ?_)));by_cases hp2:0<r
    · replace h:=h.1 hp2;exact zV rfl rfl (zT hp2) (zV rfl rfl (zT hp2) (zq (yau (v:=(.bool (true))) (zT hp2) rfl) (yaa (yal rfl (zr h.elim)))))
    · replace h:=h.2 hp2;refine zW rfl rfl (zF hp2) (zm (.int .u64 r2)) (zW rfl rfl (zF hp2) zG (zq (yaw (v:=(.bool (decide (9223372036854775807<r2)))) (zF hp2) rfl) (yaa ?_)));by_cases hp3:9223372036854775807<r2
      · replace h:=h.1 hp3;exact zc hp3 (zr h.elim)
      · replace h:=h.2 hp3;exact zd hp3 (yaf (j2 _ _ _ ⟨h,rfl,hE0,rfl⟩))
  clear hJ;intro j;by_cases hp4:count<0
  · replace h:=h.1 hp4;exact zc hp4 (zr h.elim)
  · replace h:=h.2 hp4;exact zd hp4 (yaf (j _ _ _ ⟨h,rfl,rfl,rfl⟩))
def yd1(x:Int)(y:Int)(w:World)(R:Int→Int→World→Prop):Prop :=
(Calls Tryz.prog 208 #[(Value.int .u64 x),(Value.int .u64 y)] w fun e w2=>∃ r3:Int,∃ r4:Int,e = .returned (Value.tuple #[(Value.int .u64 r3),(Value.int .u64 r4)]) ∧
R r3 r4 w2)
theorem yhL(x:Int)(y:Int)(w:World)(R:Int→Int→World→Prop)(h:yd1 x y w R) :
    Calls Tryz.prog 191 #[(.int .u64 x),(.int .u64 y)] w fun e w'=>∃ r r2,e = .returned (.tuple #[(.int .u64 r),(.int .u64 r2)])∧R r r2 w':=by
  unfold yd1 at h;refine yak (l:=[(.int .u64 x),(.int .u64 y)]) func191 rfl ntmps191 zY (zs (zQ (.int .u64 0) (zQ (.int .u64 0) (yaa (yac (yaq rfl (yaf (zs (zM (.int .u64 x) (zM (.int .u64 y) (zn (yaj rfl (am2 rfl rfl) enter_208 (h.mono ?_)))))))))))));rintro _ w2 ⟨r3,r4,rfl,h⟩;refine ⟨_,rfl,Stb.none _,?_⟩;exact zM (.tuple #[(.int .u64 r3),(.int .u64 r4)]) (zq (zx (.int .u64 r3)) (zq (zx (.int .u64 r4)) (zQ (.int .u64 r3) (zQ (.int .u64 r4) (yaa (zs (zM (.int .u64 r3) (zM (.int .u64 r4) (zQ (.int .u64 r3) (zQ (.int .u64 r4) (yaa (yaZ rfl rfl rfl ⟨_,_,rfl,h⟩))))))))))))
def ydn(x:Int)(y:Int)(w:World)(R:Int→Int→World→Prop):Prop :=
((0≤x∧x<18446744073709551616∧0≤(4294967295:Int)∧(4294967295:Int)<18446744073709551616) ∧
((0≤(32:Int)∧(32:Int)<64) ∧
((0≤y∧y<18446744073709551616∧0≤(4294967295:Int)∧(4294967295:Int)<18446744073709551616) ∧
((0≤(32:Int)∧(32:Int)<64) ∧
(InK .u64 (((x.toNat &&& (4294967295:Int).toNat:Nat):Int)*((y.toNat &&& (4294967295:Int).toNat:Nat):Int)) ∧
(InK .u64 ((x / 2^(32:Int).toNat)*((y.toNat &&& (4294967295:Int).toNat:Nat):Int)) ∧
((0≤(32:Int)∧(32:Int)<64) ∧
(InK .u64 (((x / 2^(32:Int).toNat)*((y.toNat &&& (4294967295:Int).toNat:Nat):Int))+((((x.toNat &&& (4294967295:Int).toNat:Nat):Int)*((y.toNat &&& (4294967295:Int).toNat:Nat):Int)) / 2^(32:Int).toNat)) ∧
((0≤(((x / 2^(32:Int).toNat)*((y.toNat &&& (4294967295:Int).toNat:Nat):Int))+((((x.toNat &&& (4294967295:Int).toNat:Nat):Int)*((y.toNat &&& (4294967295:Int).toNat:Nat):Int)) / 2^(32:Int).toNat))∧(((x / 2^(32:Int).toNat)*((y.toNat &&& (4294967295:Int).toNat:Nat):Int))+((((x.toNat &&& (4294967295:Int).toNat:Nat):Int)*((y.toNat &&& (4294967295:Int).toNat:Nat):Int)) / 2^(32:Int).toNat))<18446744073709551616∧0≤(4294967295:Int)∧(4294967295:Int)<18446744073709551616) ∧
((0≤(32:Int)∧(32:Int)<64) ∧
(InK .u64 (((x.toNat &&& (4294967295:Int).toNat:Nat):Int)*(y / 2^(32:Int).toNat)) ∧
(InK .u64 ((((((x / 2^(32:Int).toNat)*((y.toNat &&& (4294967295:Int).toNat:Nat):Int))+((((x.toNat &&& (4294967295:Int).toNat:Nat):Int)*((y.toNat &&& (4294967295:Int).toNat:Nat):Int)) / 2^(32:Int).toNat)).toNat &&& (4294967295:Int).toNat:Nat):Int)+(((x.toNat &&& (4294967295:Int).toNat:Nat):Int)*(y / 2^(32:Int).toNat))) ∧
(InK .u64 ((x / 2^(32:Int).toNat)*(y / 2^(32:Int).toNat)) ∧
(InK .u64 (((x / 2^(32:Int).toNat)*(y / 2^(32:Int).toNat))+((((x / 2^(32:Int).toNat)*((y.toNat &&& (4294967295:Int).toNat:Nat):Int))+((((x.toNat &&& (4294967295:Int).toNat:Nat):Int)*((y.toNat &&& (4294967295:Int).toNat:Nat):Int)) / 2^(32:Int).toNat)) / 2^(32:Int).toNat)) ∧
((0≤(32:Int)∧(32:Int)<64) ∧
(InK .u64 ((((x / 2^(32:Int).toNat)*(y / 2^(32:Int).toNat))+((((x / 2^(32:Int).toNat)*((y.toNat &&& (4294967295:Int).toNat:Nat):Int))+((((x.toNat &&& (4294967295:Int).toNat:Nat):Int)*((y.toNat &&& (4294967295:Int).toNat:Nat):Int)) / 2^(32:Int).toNat)) / 2^(32:Int).toNat))+(((((((x / 2^(32:Int).toNat)*((y.toNat &&& (4294967295:Int).toNat:Nat):Int))+((((x.toNat &&& (4294967295:Int).toNat:Nat):Int)*((y.toNat &&& (4294967295:Int).toNat:Nat):Int)) / 2^(32:Int).toNat)).toNat &&& (4294967295:Int).toNat:Nat):Int)+(((x.toNat &&& (4294967295:Int).toNat:Nat):Int)*(y / 2^(32:Int).toNat))) / 2^(32:Int).toNat)) ∧
(InK .u64 (x*y) ∧
R ((((x / 2^(32:Int).toNat)*(y / 2^(32:Int).toNat))+((((x / 2^(32:Int).toNat)*((y.toNat &&& (4294967295:Int).toNat:Nat):Int))+((((x.toNat &&& (4294967295:Int).toNat:Nat):Int)*((y.toNat &&& (4294967295:Int).toNat:Nat):Int)) / 2^(32:Int).toNat)) / 2^(32:Int).toNat))+(((((((x / 2^(32:Int).toNat)*((y.toNat &&& (4294967295:Int).toNat:Nat):Int))+((((x.toNat &&& (4294967295:Int).toNat:Nat):Int)*((y.toNat &&& (4294967295:Int).toNat:Nat):Int)) / 2^(32:Int).toNat)).toNat &&& (4294967295:Int).toNat:Nat):Int)+(((x.toNat &&& (4294967295:Int).toNat:Nat):Int)*(y / 2^(32:Int).toNat))) / 2^(32:Int).toNat)) (x*y) w)))))))))))))))))
theorem ygF(x:Int)(y:Int)(w:World)(R:Int→Int→World→Prop)(h:ydn x y w R) :
    Calls Tryz.prog 208 #[(.int .u64 x),(.int .u64 y)] w fun e w'=>∃ r r2,e = .returned (.tuple #[(.int .u64 r),(.int .u64 r2)])∧R r r2 w':=by
  unfold ydn at h;refine yak (l:=[(.int .u64 x),(.int .u64 y)]) func208 rfl ntmps208 zY (zs (zQ (.int .u64 0) (zQ (.int .u64 0) (yaa (zs (zM (.int .u64 x) ?_))))));obtain ⟨hz,h⟩:=h;refine zq (v_andu rfl rfl hz) (zQ (.int .u64 ((x.toNat &&& (4294967295:Int).toNat:Nat):Int)) (yaa (zs (zM (.int .u64 x) ?_))));obtain ⟨hz2,h⟩:=h;refine zq (v_shru rfl rfl hz2) (zQ (.int .u64 (x / 2^(32:Int).toNat)) (yaa (zs (zM (.int .u64 y) ?_))));obtain ⟨hz3,h⟩:=h;refine zq (v_andu rfl rfl hz3) (zQ (.int .u64 ((y.toNat &&& (4294967295:Int).toNat:Nat):Int)) (yaa (zs (zM (.int .u64 y) ?_))));obtain ⟨hz4,h⟩:=h;refine zq (v_shru rfl rfl hz4) (zQ (.int .u64 (y / 2^(32:Int).toNat)) (yaa (zs (zM (.int .u64 ((x.toNat &&& (4294967295:Int).toNat:Nat):Int)) (zM (.int .u64 ((y.toNat &&& (4294967295:Int).toNat:Nat):Int)) ?_)))));obtain ⟨hi,h⟩:=h;refine zq (v_mulk rfl rfl hi) (zQ (.int .u64 (((x.toNat &&& (4294967295:Int).toNat:Nat):Int)*((y.toNat &&& (4294967295:Int).toNat:Nat):Int))) (yaa (zs (zM (.int .u64 (x / 2^(32:Int).toNat)) (zM (.int .u64 ((y.toNat &&& (4294967295:Int).toNat:Nat):Int)) ?_)))));obtain ⟨hi2,h⟩:=h;refine zq (v_mulk rfl rfl hi2) (zM (.int .u64 (((x.toNat &&& (4294967295:Int).toNat:Nat):Int)*((y.toNat &&& (4294967295:Int).toNat:Nat):Int))) ?_);obtain ⟨hz5,h⟩:=h;refine zq (v_shru rfl rfl hz5) ?_;obtain ⟨hi3,h⟩:=h;refine zq (v_addk rfl rfl hi3) (zQ (.int .u64 (((x / 2^(32:Int).toNat)*((y.toNat &&& (4294967295:Int).toNat:Nat):Int))+((((x.toNat &&& (4294967295:Int).toNat:Nat):Int)*((y.toNat &&& (4294967295:Int).toNat:Nat):Int)) / 2^(32:Int).toNat))) (yaa (zs (zM (.int .u64 (((x / 2^(32:Int).toNat)*((y.toNat &&& (4294967295:Int).toNat:Nat):Int))+((((x.toNat &&& (4294967295:Int).toNat:Nat):Int)*((y.toNat &&& (4294967295:Int).toNat:Nat):Int)) / 2^(32:Int).toNat))) ?_))));obtain ⟨hz6,h⟩:=h;refine zq (v_andu rfl rfl hz6) (zQ (.int .u64 (((((x / 2^(32:Int).toNat)*((y.toNat &&& (4294967295:Int).toNat:Nat):Int))+((((x.toNat &&& (4294967295:Int).toNat:Nat):Int)*((y.toNat &&& (4294967295:Int).toNat:Nat):Int)) / 2^(32:Int).toNat)).toNat &&& (4294967295:Int).toNat:Nat):Int)) (yaa (zs (zM (.int .u64 (((x / 2^(32:Int).toNat)*((y.toNat &&& (4294967295:Int).toNat:Nat):Int))+((((x.toNat &&& (4294967295:Int).toNat:Nat):Int)*((y.toNat &&& (4294967295:Int).toNat:Nat):Int)) / 2^(32:Int).toNat))) ?_))));obtain ⟨hz7,h⟩:=h;refine zq (v_shru rfl rfl hz7) (zQ (.int .u64 ((((x / 2^(32:Int).toNat)*((y.toNat &&& (4294967295:Int).toNat:Nat):Int))+((((x.toNat &&& (4294967295:Int).toNat:Nat):Int)*((y.toNat &&& (4294967295:Int).toNat:Nat):Int)) / 2^(32:Int).toNat)) / 2^(32:Int).toNat)) (yaa (zs (zM (.int .u64 (((((x / 2^(32:Int).toNat)*((y.toNat &&& (4294967295:Int).toNat:Nat):Int))+((((x.toNat &&& (4294967295:Int).toNat:Nat):Int)*((y.toNat &&& (4294967295:Int).toNat:Nat):Int)) / 2^(32:Int).toNat)).toNat &&& (4294967295:Int).toNat:Nat):Int)) (zM (.int .u64 ((x.toNat &&& (4294967295:Int).toNat:Nat):Int)) (zM (.int .u64 (y / 2^(32:Int).toNat)) ?_))))));obtain ⟨hi4,h⟩:=h;refine zq (v_mulk rfl rfl hi4) ?_;obtain ⟨hi5,h⟩:=h;refine zq (v_addk rfl rfl hi5) (zQ (.int .u64 ((((((x / 2^(32:Int).toNat)*((y.toNat &&& (4294967295:Int).toNat:Nat):Int))+((((x.toNat &&& (4294967295:Int).toNat:Nat):Int)*((y.toNat &&& (4294967295:Int).toNat:Nat):Int)) / 2^(32:Int).toNat)).toNat &&& (4294967295:Int).toNat:Nat):Int)+(((x.toNat &&& (4294967295:Int).toNat:Nat):Int)*(y / 2^(32:Int).toNat)))) (yaa (zs (zM (.int .u64 (x / 2^(32:Int).toNat)) (zM (.int .u64 (y / 2^(32:Int).toNat)) ?_)))));obtain ⟨hi6,h⟩:=h;refine zq (v_mulk rfl rfl hi6) (zM (.int .u64 ((((x / 2^(32:Int).toNat)*((y.toNat &&& (4294967295:Int).toNat:Nat):Int))+((((x.toNat &&& (4294967295:Int).toNat:Nat):Int)*((y.toNat &&& (4294967295:Int).toNat:Nat):Int)) / 2^(32:Int).toNat)) / 2^(32:Int).toNat)) ?_);obtain ⟨hi7,h⟩:=h;refine zq (v_addk rfl rfl hi7) (zM (.int .u64 ((((((x / 2^(32:Int).toNat)*((y.toNat &&& (4294967295:Int).toNat:Nat):Int))+((((x.toNat &&& (4294967295:Int).toNat:Nat):Int)*((y.toNat &&& (4294967295:Int).toNat:Nat):Int)) / 2^(32:Int).toNat)).toNat &&& (4294967295:Int).toNat:Nat):Int)+(((x.toNat &&& (4294967295:Int).toNat:Nat):Int)*(y / 2^(32:Int).toNat)))) ?_);obtain ⟨hz8,h⟩:=h;refine zq (v_shru rfl rfl hz8) ?_;obtain ⟨hi8,h⟩:=h;refine zq (v_addk rfl rfl hi8) (zQ (.int .u64 ((((x / 2^(32:Int).toNat)*(y / 2^(32:Int).toNat))+((((x / 2^(32:Int).toNat)*((y.toNat &&& (4294967295:Int).toNat:Nat):Int))+((((x.toNat &&& (4294967295:Int).toNat:Nat):Int)*((y.toNat &&& (4294967295:Int).toNat:Nat):Int)) / 2^(32:Int).toNat)) / 2^(32:Int).toNat))+(((((((x / 2^(32:Int).toNat)*((y.toNat &&& (4294967295:Int).toNat:Nat):Int))+((((x.toNat &&& (4294967295:Int).toNat:Nat):Int)*((y.toNat &&& (4294967295:Int).toNat:Nat):Int)) / 2^(32:Int).toNat)).toNat &&& (4294967295:Int).toNat:Nat):Int)+(((x.toNat &&& (4294967295:Int).toNat:Nat):Int)*(y / 2^(32:Int).toNat))) / 2^(32:Int).toNat))) (yaa (zs (zM (.int .u64 x) (zM (.int .u64 y) ?_)))));obtain ⟨hi9,h⟩:=h;exact zq (v_mulk rfl rfl hi9) (zQ (.int .u64 (x*y)) (yaa (yaZ rfl rfl rfl ⟨_,_,rfl,h⟩)))
end Go.Proofs.YtjepipbkiadcpaaGreat

/- The contracts of slices.Repeat at one number, of bits.Mul at small numbers, of slices.Max. -/
namespace Go.Proofs.YtjepipbkiadcpaaGreat
open Go Go.RowKit Go.Shelf Go.Proofs.Tryz
set_option maxRecDepth 100000
set_option maxHeartbeats 8000000
theorem inU64{a:Int}(h0:0≤a)(h1:a<18446744073709551616):InK .u64 a:=by
  unfold InK IntKind.wrap
  simp [IntKind.bits,IntKind.signed]
  omega
theorem and32{x:Int}(h0:0≤x)(h1:x≤65535):((x.toNat &&& (4294967295:Int).toNat:Nat):Int)=x:=by
  have:(4294967295:Int).toNat=2^32-1:=rfl
  rw [this,Nat.and_two_pow_sub_one_eq_mod]
  omega
theorem mul64_any(x y:Int)(w:World)(hx:0≤x∧x≤65535)(hy:0≤y∧y≤65535) :
    Calls Tryz.prog 208 #[.int .u64 x, .int .u64 y] w fun e w'=>∃ r r2:Int,e = .returned (.tuple #[.int .u64 r, .int .u64 r2])∧r=0∧r2=x*y∧w=w':=by
  refine ygF x y w (fun r r2 w'=>r=0∧r2=x*y∧w=w') ?_
  unfold ydn
  have e1:=and32 hx.1 hx.2
  have e2:=and32 hy.1 hy.2
  have hxy0:0≤x*y:=Int.mul_nonneg hx.1 hy.1
  have hxy1:x*y≤65535*65535:=Int.mul_le_mul hx.2 hy.2 hy.1 (by omega)
  have p32:(2:Int)^(32:Int).toNat=4294967296:=rfl
  have e3:x / 4294967296=0:=by omega
  have e4:y / 4294967296=0:=by omega
  have e5:x*y / 4294967296=0:=by omega
  have e6:=and32 (x:=0) (by omega) (by omega)
  simp only [e1,e2,p32,e3,e4,e5,Int.zero_mul,Int.mul_zero,Int.add_zero,Int.zero_add,e6]
  have z:InK .u64 0:=inU64 (by omega) (by omega)
  have zz:(0:Int) / 4294967296=0:=by omega
  simp only [zz,Int.add_zero,Int.zero_add]
  refine ⟨by omega,by omega,by omega,by omega,inU64 (by omega) (by omega),z,by omega,z,by omega,by omega,z,z,z,z,by omega,z,inU64 (by omega) (by omega),trivial,trivial,trivial⟩
theorem mul_any(x y:Int)(w:World)(hx:0≤x∧x≤65535)(hy:0≤y∧y≤65535) :
    Calls Tryz.prog 191 #[.int .u64 x, .int .u64 y] w fun e w'=>∃ r r2:Int,e = .returned (.tuple #[.int .u64 r, .int .u64 r2])∧r=0∧r2=x*y∧w=w':=by
  refine yhL x y w (fun r r2 w'=>r=0∧r2=x*y∧w=w') ?_
  unfold yd1
  refine (mul64_any x y w hx hy).mono ?_
  rintro _ w2 ⟨r,r2,rfl,h1,h2,h3⟩
  exact ⟨_,_,rfl,h1,h2,h3⟩
theorem setL_rep(v:Int):∀ (j k m:Nat),j≤m→setL ((List.replicate k v++List.replicate m 0).map (Value.int .i64)) k (List.replicate j (Value.int .i64 v))=(List.replicate (k+j) v++List.replicate (m-j) 0).map (Value.int .i64)
  | 0,k,m,_=>by simp [setL]
  | j+1,k,m,h=>by
    obtain ⟨m,rfl⟩:∃ m',m=m'+1:=⟨m-1,by omega⟩
    rw [show List.replicate (j+1) (Value.int .i64 v)=Value.int .i64 v::List.replicate j (Value.int .i64 v) from rfl]
    show setL (((List.replicate k v++List.replicate (m+1) 0).map (Value.int .i64)).set k (Value.int .i64 v)) (k+1) (List.replicate j (Value.int .i64 v))=_
    have h1:((List.replicate k v++List.replicate (m+1) 0).map (Value.int .i64)).set k (Value.int .i64 v)=(List.replicate (k+1) v++List.replicate m 0).map (Value.int .i64):=by
      rw [←List.map_set]
      congr 1
      rw [List.set_append_right _ _ (by simp)]
      rw [List.length_replicate,Nat.sub_self,List.replicate_succ,List.set_cons_zero,List.replicate_succ' (n:=k),List.append_assoc]
      rfl
    rw [h1,setL_rep v j (k+1) m (by omega)]
    congr 3 <;> omega
def RepPost(v:Int)(n:Nat)(w:World)(A:Option Addr)(l c:Nat)(w':World):Prop :=
  ∃ g,A=some ⟨g,0,none⟩∧l=n∧c=n∧w.heap.size≤g∧IRow w' g 3 n (List.replicate n v)∧Pure w w'
theorem repeat_any(A:Option Addr)(v:Int)(c n:Nat)(w:World)(hA:Ints w A [v])(hn:1≤n)(hn2:n≤1000) :
    Calls Tryz.prog 165 #[.slice A 1 c, .int .i64 (n:Int)] w fun e w'=>∃ A' l' c',e = .returned (.slice A' l' c')∧RepPost v n w A' l' c' w':=by
  refine yg3 A 1 c n w (RepPost v n w) ?_
  unfold ydK
  refine ⟨fun w'=>w'=w,?_,fun h=>absurd h (by omega),fun _=>rfl⟩
  intro w2 hw2
  have hw2:=hw2.symm
  subst hw2
  refine ⟨inU64 (by omega) (by omega),inU64 (by omega) (by omega),(mul_any _ _ _ (by omega) (by omega)).mono ?_⟩
  rintro _ w3 ⟨r,r2,rfl,rfl,rfl,rfl⟩
  refine ⟨_,_,rfl,fun w'=>w'=w,?_,fun h=>absurd h (by omega),fun _=>⟨fun h=>absurd h (by omega),fun _=>rfl⟩⟩
  intro w4 hw4
  have hw4:=hw4.symm
  subst hw4
  obtain ⟨b,off,rfl,hb,hc⟩:=hA (by simp)
  have e1:((1:Nat):Int)*(n:Int)=(n:Int):=by omega
  rw [e1]
  simp only [Int.toNat_natCast]
  refine ⟨in64 (by omega),by omega,fun g w5 hN=>?_⟩
  have ag:=hN.at_
  have hr5:IRow w5 g 3 n (List.replicate n 0):=by
    have:=hN.row
    simpa [IRow] using this
  have hr5':Row w5 g 3 n ((List.replicate 0 v++List.replicate n 0).map (Value.int .i64)):=by simpa [IRow] using hr5
  have hcv:=(hN.keeps (fun _=>False)).cell (p:=⟨b,off,none⟩) id (hc 0 (by simp))
  refine ⟨g,0,⟨b,off,none⟩,[.int .i64 v],rfl,rfl,by simp;omega,?_,by simp [Value.oneCell'],ybQ hr5' (by simp;omega),fun w6 e6=>?_⟩
  · intro j u hj
    cases j with
    | zero=>simp only [List.getElem?_cons_zero,Option.some.injEq] at hj;subst hj;exact hcv
    | succ j=>simp at hj
  have hr6:IRow w6 g 3 n (List.replicate 1 v++List.replicate (n-1) 0):=by
    rw [e6]
    have:=yhX [.int .i64 v] 0 hr5'
    rw [show [Value.int .i64 v]=List.replicate 1 (Value.int .i64 v) from rfl,setL_rep v 1 0 n (by omega)] at this
    exact this
  have hp6:Pure w w6:=by
    rw [e6]
    exact (hN.keeps _).setCell (fun h=>absurd h (by simp;omega)) _
  refine ⟨fun m i w7=>∃ k:Nat,m=n-k∧1≤k∧k≤n∧i=(k:Int)∧IRow w7 g 3 n (List.replicate k v++List.replicate (n-k) 0)∧Pure w w7,⟨n-1,1,rfl,by omega,by omega,by omega,hr6,hp6⟩,?_⟩
  clear hr6 hp6
  rintro m i w7 ⟨k,rfl,hk1,hk2,rfl,hr,hp⟩
  simp only [Int.toNat_natCast]
  refine ⟨fun hlt=>?_,fun hge=>?_⟩
  · have hs:slA (some ⟨g,0,none⟩) n k 1=some ⟨g,k,none⟩:=by
      unfold slA
      rw [if_neg (by omega)]
      simp [Addr.add_mid]
    have hrd:Row w7.drew g 3 n ((List.replicate k v++List.replicate (n-k) 0).map (Value.int .i64)):=Row.drew hr
    refine ⟨by omega,by omega,g,k,⟨g,0,none⟩,List.replicate (min k (n-k)) (.int .i64 v),hs,rfl,by simp,?_,?_,ybQ hrd (by simp;omega),fun w8 e8=>?_⟩
    · intro j u hj
      have hj1:j<min k (n-k):=by
        rcases Nat.lt_or_ge j (min k (n-k)) with h | h
        · exact h
        · rw [List.getElem?_eq_none (by simpa using h)] at hj;cases hj
      rw [List.getElem?_replicate,if_pos hj1] at hj
      cases hj
      rw [ycB]
      have:=icell (w:=w7.drew) (xs:=List.replicate k v++List.replicate (n-k) 0) hrd (k:=j) (by simp;omega)
      rw [this]
      congr 2
      unfold gi
      simp [List.getElem?_append,List.getElem?_replicate]
      rw [if_pos (by omega),if_pos (by omega)]
      rfl
    · intro u hu
      rw [List.mem_replicate] at hu
      rw [hu.2];rfl
    · refine ⟨in64 (by omega),n-(k+min k (n-k)),by omega,k+min k (n-k),rfl,by omega,by omega,by omega,?_,?_⟩
      · rw [e8]
        have:=yhX (List.replicate (min k (n-k)) (.int .i64 v)) k hrd
        rw [setL_rep v _ k (n-k) (by omega)] at this
        rw [show n-(k+min k (n-k))=n-k-min k (n-k) by omega]
        exact this
      · rw [e8]
        have hgw:w.heap.size≤g:=by omega
        have key:∀ (vs:List Value) (o:Nat) (W:World),Pure w W→Pure w (W.setCells g o vs):=by
          intro vs
          induction vs with
          | nil=>intro o W h;exact h
          | cons u vs ih=>intro o W h;exact ih _ _ (h.setCell (fun h=>absurd h (by simp;omega)) _)
        exact key _ _ _ hp.drew
  · obtain rfl:k=n:=by omega
    exact ⟨g,rfl,rfl,rfl,by omega,by simpa using hr,hp⟩
end Go.Proofs.YtjepipbkiadcpaaGreat

/- Distances by a search in breadth: what its two lists say at each step. No program in sight. -/
namespace Go.Proofs.YtjepipbkiadcpaaGreat
open Go Go.Proofs.Tryz
def Adj(es:List E3)(v u:Nat):Prop:=∃ m,((u:Int),m)∈ycr es (v:Int)
theorem ybY{es:List E3}{v u m:Int} : (u,m)∈ycr es v↔∃ x∈es,x.1≠x.2.1∧(x.1=v∨x.2.1=v)∧u=x.1+x.2.1-v∧m=x.2.2:=by
  unfold ycr
  rw [List.mem_filterMap]
  constructor
  · rintro ⟨x,hx,hl⟩
    unfold link at hl
    split at hl
    · rename_i h
      simp only [Option.some.injEq,Prod.mk.injEq] at hl
      exact ⟨x,hx,h.1,h.2,hl.1.symm,hl.2.symm⟩
    · cases hl
  · rintro ⟨x,hx,h1,h2,rfl,rfl⟩
    exact ⟨x,hx,by unfold link;rw [if_pos ⟨h1,h2⟩]⟩
theorem Adj.symm{es:List E3}{v u:Nat}(h:Adj es v u):Adj es u v:=by
  obtain ⟨m,h⟩:=h
  obtain ⟨x,hx,h1,h2,h3,h4⟩:=ybY.1 h
  exact ⟨m,ybY.2 ⟨x,hx,h1,by omega,by omega,h4⟩⟩
def cu(o:List Int):Nat:=(o.filter fun x=>decide (x<0)).length
theorem cu_set{o:List Int}{v:Nat}{x:Int}(h:v<o.length)(hv:gi o v<0)(hx:0≤x):cu (o.set v x)+1=cu o:=by
  unfold cu
  induction o generalizing v with
  | nil=>simp at h
  | cons y o ih =>
    cases v with
    | zero =>
      simp [gi] at hv
      simp [List.filter_cons,hv,Int.not_lt.2 hx]
    | succ v =>
      have:=ih (v:=v) (by simpa using h) (by simpa [gi] using hv)
      simp only [List.set_cons_succ,List.filter_cons]
      split
      · simp only [List.length_cons];omega
      · omega
structure BIn(n:Nat)(es:List E3)(q v:Nat)(pre:List (Int×Int))(o:List Int)(Q:List Nat):Prop where
  len:o.length=n
  vn:v<n
  v0:0≤gi o v
  rng:∀ a∈Q,a<n∧0≤gi o a
  q0:gi o q=0
  low:∀ b, -1≤gi o b
  val:∀ b,gi o b+cu o≤(n:Int)-1
  par:∀ b,b<n→0<gi o b→∃ u,u<n∧Adj es b u∧gi o u=gi o b-1
  top:∀ b,b<n→gi o b≤gi o v+1
  bot:∀ a∈Q,gi o v≤gi o a
  mono:Q.Pairwise fun a b=>gi o a≤gi o b
  done:∀ x,x<n→0≤gi o x→x∉Q→x≠v→gi o x≤gi o v∧∀ u,Adj es x u→0≤gi o u∧gi o u≤gi o x+1
  now:∀ p∈pre,0≤gi o p.1.toNat∧gi o p.1.toNat≤gi o v+1
  zero:∀ b,b<n→gi o b=0→b=q
structure BInv(n:Nat)(es:List E3)(q:Nat)(o:List Int)(Q:List Nat):Prop where
  len:o.length=n
  rng:∀ a∈Q,a<n∧0≤gi o a
  q0:gi o q=0
  low:∀ b, -1≤gi o b
  val:∀ b,gi o b+cu o≤(n:Int)-1
  par:∀ b,b<n→0<gi o b→∃ u,u<n∧Adj es b u∧gi o u=gi o b-1
  top:∀ a∈Q,∀ b,b<n→gi o b≤gi o a+1
  mono:Q.Pairwise fun a b=>gi o a≤gi o b
  done:∀ x,x<n→0≤gi o x→x∉Q→(∀ a∈Q,gi o x≤gi o a)∧∀ u,Adj es x u→0≤gi o u∧gi o u≤gi o x+1
  zero:∀ b,b<n→gi o b=0→b=q
theorem BInv.pop{n:Nat}{es:List E3}{q v:Nat}{o:List Int}{Q:List Nat}(h:BInv n es q o (v::Q)):BIn n es q v [] o Q:=by
  have hp:=List.pairwise_cons.1 h.mono
  refine ⟨h.len,(h.rng v (by simp)).1,(h.rng v (by simp)).2,fun a ha=>h.rng a (by simp [ha]),h.q0,h.low,h.val,h.par,h.top v (by simp),hp.1,hp.2,fun x hx h0 hn hne=>?_,by simp,h.zero⟩
  have:=h.done x hx h0 (by simp [hn,hne])
  exact ⟨this.1 v (by simp),this.2⟩
theorem BIn.push{n:Nat}{es:List E3}{q v:Nat}{pre:List (Int×Int)}{o:List Int}{Q:List Nat}(h:BIn n es q v pre o Q){u:Nat}{m:Int}(hu:u<n)(ha:Adj es v u)(hneg:gi o u<0) :
    BIn n es q v (pre++[((u:Int),m)]) (o.set u (gi o v+1)) (Q++[u]):=by
  have hul:u<o.length:=by rw [h.len];exact hu
  have hs:∀ b,gi (o.set u (gi o v+1)) b=if b=u then gi o v+1 else gi o b:=fun b=>ya7 hul
  have hv0:=h.v0
  have hvu:v≠u:=by rintro rfl;omega
  have hc:=cu_set hul hneg (x:=gi o v+1) (by omega)
  have hkn:∀ b,0≤gi o b→gi (o.set u (gi o v+1)) b=gi o b:=fun b hb=>by
    rw [hs,if_neg (by rintro rfl;omega)]
  refine ⟨by simpa using h.len,h.vn,by rw [hkn v hv0];exact hv0,?_,by rw [hkn q (by rw [h.q0];omega)];exact h.q0,?_,?_,?_,?_,?_,?_,?_,?_,fun b hb h0=>by
    rw [hs] at h0
    split at h0
    · omega
    · exact h.zero b hb h0⟩
  · intro a ha'
    rcases List.mem_append.1 ha' with h1 | h1
    · have:=h.rng a h1;exact ⟨this.1,by rw [hkn a this.2];exact this.2⟩
    · simp only [List.mem_singleton] at h1;subst h1;exact ⟨hu,by rw [hs,if_pos rfl];omega⟩
  · intro b;rw [hs];split
    · omega
    · exact h.low b
  · intro b;rw [hs]
    have:=h.val b
    have:=h.val v
    split <;> omega
  · intro b hb h0
    rw [hs] at h0
    by_cases e:b=u
    · subst e
      refine ⟨v,h.vn,ha.symm,?_⟩
      rw [hkn v hv0,hs,if_pos rfl];omega
    · rw [if_neg e] at h0
      obtain ⟨y,hy,hay,hoy⟩:=h.par b hb h0
      refine ⟨y,hy,hay,?_⟩
      rw [hkn y (by omega),hs,if_neg e];exact hoy
  · intro b hb
    rw [hkn v hv0,hs]
    have:=h.top b hb
    split <;> omega
  · intro a ha'
    rw [hkn v hv0]
    rcases List.mem_append.1 ha' with h1 | h1
    · have h2:=h.rng a h1;rw [hkn a h2.2];exact h.bot a h1
    · simp only [List.mem_singleton] at h1;subst h1;rw [hs,if_pos rfl];omega
  · refine List.pairwise_append.2 ⟨h.mono.imp_of_mem (fun {a b} ha hb hab=>by rw [hkn a (h.rng a ha).2,hkn b (h.rng b hb).2];exact hab),by simp,fun a ha' b hb=>?_⟩
    simp only [List.mem_singleton] at hb;subst hb
    have h2:=h.rng a ha'
    rw [hkn a h2.2,hs,if_pos rfl]
    exact h.top a h2.1
  · intro x hx h0 hn hne
    have hxu:x≠u:=fun e=>hn (by simp [e])
    rw [hs,if_neg hxu] at h0
    have:=h.done x hx h0 (fun h=>hn (by simp [h])) hne
    rw [hkn v hv0,hs x,if_neg hxu]
    refine ⟨this.1,fun y hy=>?_⟩
    have h2:=this.2 y hy
    rw [hkn y h2.1];exact h2
  · intro p hp
    rw [hkn v hv0]
    rcases List.mem_append.1 hp with h1 | h1
    · have h2:=h.now p h1;rw [hkn _ h2.1];exact h2
    · simp only [List.mem_singleton] at h1;subst h1
      simp only [Int.toNat_natCast]
      rw [hs,if_pos rfl];omega
theorem BIn.pass{n:Nat}{es:List E3}{q v:Nat}{pre:List (Int×Int)}{o:List Int}{Q:List Nat}(h:BIn n es q v pre o Q){u:Nat}{m:Int}(hu:u<n)(h0:0≤gi o u) :
    BIn n es q v (pre++[((u:Int),m)]) o Q:=by
  refine ⟨h.len,h.vn,h.v0,h.rng,h.q0,h.low,h.val,h.par,h.top,h.bot,h.mono,h.done,fun p hp=>?_,h.zero⟩
  rcases List.mem_append.1 hp with h1 | h1
  · exact h.now p h1
  · simp only [List.mem_singleton] at h1;subst h1
    exact ⟨by simpa using h0,by simpa using h.top u hu⟩
theorem BIn.fin{n:Nat}{es:List E3}{q v:Nat}{o:List Int}{Q:List Nat}(h:BIn n es q v (ycr es (v:Int)) o Q):BInv n es q o Q:=by
  refine ⟨h.len,h.rng,h.q0,h.low,h.val,h.par,fun a ha b hb=>?_,h.mono,fun x hx h0 hn=>?_,h.zero⟩
  · have:=h.top b hb;have:=h.bot a ha;omega
  · by_cases e:x=v
    · subst e
      refine ⟨fun a ha=>h.bot a ha,fun u hu=>?_⟩
      obtain ⟨m,hm⟩:=hu
      have:=h.now _ hm
      simpa using this
    · have:=h.done x hx h0 hn e
      exact ⟨fun a ha=>by have:=h.bot a ha;omega,this.2⟩
theorem BInv.start{n:Nat}{es:List E3}{q:Nat}(hq:q<n):BInv n es q ((List.replicate n (-1)).set q 0) [q]:=by
  have hl:q<(List.replicate n (-1:Int)).length:=by simpa using hq
  have hs:∀ b,gi ((List.replicate n (-1)).set q 0) b=if b=q then 0 else gi (List.replicate n (-1)) b:=fun b=>ya7 hl
  have hr:∀ b,b<n→gi (List.replicate n (-1)) b = -1:=fun b hb=>by rw [ybk (by simpa using hb)];simp
  have hr2:∀ b,gi (List.replicate n (-1)) b = -1∨gi (List.replicate n (-1)) b=0:=fun b=>by
    rcases Nat.lt_or_ge b n with h | h
    · exact .inl (hr b h)
    · exact .inr (gi_ge (by simpa using h))
  have hc0:∀ n:Nat,cu (List.replicate n (-1))=n:=by
    intro n
    unfold cu
    rw [List.filter_eq_self.2 (fun x hx=>by rw [(List.mem_replicate.1 hx).2];rfl)]
    simp
  have hc:=cu_set hl (by rw [hr q hq];omega) (x:=0) (by omega)
  rw [hc0] at hc
  refine ⟨by simp,fun a ha=>?_,by rw [hs,if_pos rfl],fun b=>?_,fun b=>?_,fun b hb h0=>?_,fun a ha b hb=>?_,by simp,fun x hx h0 hn=>?_,fun b hb h0=>by
    rw [hs,hr b hb] at h0
    split at h0
    · assumption
    · omega⟩
  · simp only [List.mem_singleton] at ha;subst ha;exact ⟨hq,by rw [hs,if_pos rfl];omega⟩
  · rw [hs];rcases hr2 b with h | h <;> split <;> omega
  · rw [hs]
    rcases hr2 b with h | h
    · split <;> omega
    · split <;> omega
  · rw [hs] at h0;rw [hr b hb] at h0;split at h0 <;> omega
  · simp only [List.mem_singleton] at ha;subst ha;rw [hs,hs a,if_pos rfl,hr b hb];split <;> omega
  · exfalso
    rw [hs,hr x hx] at h0
    split at h0
    · rename_i e;exact hn (by simp [e])
    · omega
structure Dist(n:Nat)(es:List E3)(q:Nat)(o:List Int):Prop where
  len:o.length=n
  q0:gi o q=0
  low:∀ b, -1≤gi o b
  high:∀ b,gi o b≤(n:Int)-1
  par:∀ b,b<n→0<gi o b→∃ u,u<n∧Adj es b u∧gi o u=gi o b-1
  step:∀ x,x<n→0≤gi o x→∀ u,Adj es x u→0≤gi o u∧gi o u≤gi o x+1
  zero:∀ b,b<n→gi o b=0→b=q
theorem BInv.dist{n:Nat}{es:List E3}{q:Nat}{o:List Int}(h:BInv n es q o []):Dist n es q o :=
  ⟨h.len,h.q0,h.low,fun b=>by have:=h.val b;omega,h.par,fun x hx h0=>(h.done x hx h0 (by simp)).2,h.zero⟩
end Go.Proofs.YtjepipbkiadcpaaGreat

/- The contract of distances: a search in breadth from q. -/
namespace Go.Proofs.YtjepipbkiadcpaaGreat
open Go Go.RowKit Go.Shelf Go.Proofs.Tryz
set_option maxRecDepth 100000
set_option maxHeartbeats 8000000
theorem OwnS.of_row{w:World}{B g:Nat}{e:TypeId}{c:Nat}{xs:List Value}(h:Row w g e c xs)(hB:B≤g)(hc:c≤maxLen):OwnS w B e 1 (some ⟨g,0,none⟩) xs.length c xs:=by
  have hle:=h.le
  obtain ⟨cur,h1,h2,h3⟩:=h
  exact ⟨by simp, .inr ⟨g,0,cur,rfl,hB,h1,hle,hc,by simp [h2],by simpa using h3⟩⟩
theorem OwnS.cell{w:World}{B:Nat}{e:TypeId}{A:Option Addr}{l c:Nat}{xs:List Value}(h:OwnS w B e 1 A l c xs){i:Int}(h0:0≤i){v:Value}(hv:xs[i.toNat]? = some v):Ix A l i∧w.cell? (ixA A i 1)=some v:=by
  have hl:xs.length=l:=by simpa using h.1
  have hlt:i.toNat<xs.length:=(List.getElem?_eq_some_iff.1 hv).1
  rcases h.2 with ⟨rfl,h1,_⟩ | ⟨g,o,cur,rfl,hB,hg,hlc,hcm,hcs,ht⟩
  · omega
  · refine ⟨ybr h0 (by omega),?_⟩
    rw [ixA_off,cell_of_row w g _ cur e (0,0) hg]
    rw [←ht,List.getElem?_take,if_pos (by omega),List.getElem?_drop] at hv
    simpa using hv
theorem OwnS.tail{w:World}{B:Nat}{e:TypeId}{A:Option Addr}{l c:Nat}{x:Value}{xs:List Value}(h:OwnS w B e 1 A l c (x::xs)):OwnS w B e 1 (slA A c 1 1) (l-1) (c-1) xs:=by
  have hl:xs.length+1=l:=by simpa using h.1
  rcases h.2 with ⟨rfl,h1,_⟩ | ⟨g,o,cur,rfl,hB,hg,hlc,hcm,hcs,ht⟩
  · omega
  · have hd:(cur.toList.drop (o+1)).take (l-1)=xs:=by
      rw [Nat.mul_one] at ht
      have:=congrArg (List.drop 1) ht
      rw [List.drop_take,List.drop_drop] at this
      simpa using this
    refine ⟨by omega, .inr ?_⟩
    unfold slA
    by_cases e1:c=1
    · rw [if_pos e1]
      have hx:xs=[]:=List.eq_nil_of_length_eq_zero (by omega)
      subst hx
      exact ⟨g,o,cur,rfl,hB,hg,by omega,by omega,by omega,by rw [show (l-1)*1=0 by omega];simp⟩
    · rw [if_neg e1]
      refine ⟨g,o+1,cur,by simp [Addr.add_mid],hB,hg,by omega,by omega,by omega,?_⟩
      rw [Nat.mul_one];exact hd
theorem slA_block{A:Option Addr}{c lo sz:Nat} : (slA A c lo sz).map (·.block)=A.map (·.block):=by
  unfold slA
  split
  · rfl
  · cases A with
    | none=>rfl
    | some a=>simp [Addr.add];split <;> rfl
theorem OwnS.keep{w w':World}{B:Nat}{e:TypeId}{sz:Nat}{A:Option Addr}{l c:Nat}{xs:List Value}(h:OwnS w B e sz A l c xs)(hk:∀ a,A=some a→w'.heap[a.block]? = w.heap[a.block]?):OwnS w' B e sz A l c xs:=by
  refine ⟨h.1,?_⟩
  rcases h.2 with h1 | ⟨g,o,cur,rfl,hB,hg,rest⟩
  · exact .inl h1
  · exact .inr ⟨g,o,cur,rfl,hB,(hk _ rfl).trans hg,rest⟩
theorem OwnS.lt{w:World}{B:Nat}{e:TypeId}{sz:Nat}{A:Option Addr}{l c:Nat}{xs:List Value}(h:OwnS w B e sz A l c xs){a:Addr}(ha:A=some a):B≤a.block∧a.block<w.heap.size:=by
  rcases h.2 with ⟨h1,_⟩ | ⟨g,o,cur,h1,hB,hg,rest⟩
  · rw [h1] at ha;cases ha
  · rw [h1] at ha;cases ha;exact ⟨hB,(Array.getElem?_eq_some_iff.1 hg).1⟩
theorem OwnS.ne_row{w:World}{B:Nat}{e e':TypeId}{sz:Nat}{A:Option Addr}{l c:Nat}{xs:List Value}(h:OwnS w B e sz A l c xs){g size:Nat}{ys:List Value}(hr:Row w g e' size ys)(he:e≠e'){a:Addr}(ha:A=some a):a.block≠g:=by
  rintro rfl
  rcases h.2 with ⟨h1,_⟩ | ⟨g,o,cur,h1,hB,hg,rest⟩
  · rw [h1] at ha;cases ha
  · rw [h1] at ha;cases ha
    obtain ⟨cur',h1',_⟩:=hr
    rw [hg] at h1'
    cases h1'
    exact he rfl
def KpS(S:Nat→Prop)(w w':World):Prop:=∀ k,S k→k<w.heap.size→w'.heap[k]? = w.heap[k]?
def DistPost(n:Nat)(es:List E3)(q:Nat)(w:World)(A:Option Addr)(l c:Nat)(w':World):Prop :=
  ∃ g o,A=some ⟨g,0,none⟩∧l=n∧c=n∧w.heap.size≤g∧IRow w' g 3 n o∧Dist n es q o∧Pure w w'
structure QI(w0:World)(B gO gQ n:Nat)(es:List E3)(q:Nat)(m:Nat)(w:World)(o:List Int)(Q:List Nat)(A:Option Addr)(l c:Nat):Prop where
  len:l=Q.length
  mes:2*cu o+Q.length≤m
  out:IRow w gO 3 n o
  box:Row w gQ 33 1 [.slice A l c]
  own:OwnS w B 3 1 A l c (Q.map fun (x:Nat)=>Value.int .i64 (x:Int))
  pure:Pure w0 w
theorem distances_any(X gd gs n:Nat)(A:Option Addr)(es:List E3)(cap cd cs q:Nat)(d s:List Int)(e:Int)(w:World)(hS:ye7 w X gd gs n A es cap cd cs q d s e)(hes:ydc w A es)
    (hq:q<n) (hn:n≤12) (hE:∀ x∈es,0≤x.1∧x.1<n∧0≤x.2.1∧x.2.1<n∧0≤x.2.2∧x.2.2≤50) (hel:es.length≤1000) :
    Calls Tryz.prog 108 #[.pointer (some ⟨X,0,none⟩)] w fun e' w'=>∃ A' l' c',e' = .returned (.slice A' l' c')∧DistPost n es q w A' l' c' w':=by
  refine yey _ w (DistPost n es q w) ?_
  unfold ybW
  have hE12:ydz es:=fun x hx=>by have:=hE x hx;omega
  have hX:=hS.1
  intro g w2 hN1
  have a1:=hN1.at_
  refine ⟨n,by rw [ygC,ycB];exact Row.cell (hN1.row_ hX) (i:=0) rfl,?_⟩
  refine (repeat_any (some ⟨g,0,none⟩) (-1) 1 n w2 (IRow.ints (xs:=[-1]) hN1.row) (by omega) (by omega)).mono ?_
  rintro _ w3 ⟨A3,l3,c3,rfl,gO,rfl,hl3,hc3,hgO,hO3,hp3⟩
  have hl3:=hl3.symm
  have hc3:=hc3.symm
  subst hl3
  subst hc3
  have s2:=hN1.size
  have s3:=hp3.size
  have lO:=Row.lt hO3
  refine ⟨_,_,_,rfl,Keeps.kpm_pure hp3,fun g2 w4 hN2 w5 e5=>?_⟩
  have a2:=hN2.at_
  have s4:=hN2.size
  have p5:Pure w w5:=by
    rw [e5];exact (((hN1.keeps _).trans hp3).trans (hN2.keeps _)).setCell (fun h=>absurd h (by simp;omega)) _
  have hO5:IRow w5 gO 3 n (List.replicate n (-1)):=by
    rw [e5];exact Row.far (hN2.row_ hO3) (by simp;omega) _
  have s5:w5.heap.size=w4.heap.size:=by rw [e5];simp [World.setCell]
  have hXq:∀ W,Pure w W→W.cell? ((⟨X,0,none⟩:Addr).add 2)=some (.int .i64 (q:Int)):=fun W h=>by
    rw [ycB];exact Row.cell (h.row hX id) (i:=2) rfl
  refine ⟨q,hXq _ p5.drew,ybr (by omega) (by omega),iwr (Row.drew hO5) (by omega) (by simp;omega),by rw [ybK];simp;omega,fun w6 e6=>?_⟩
  have hO6:IRow w6 gO 3 n ((List.replicate n (-1)).set q 0):=by
    rw [e6];simpa using ist (Row.drew hO5) (q:Int) 0
  have p6:Pure w w6:=by
    rw [e6,ybK];exact p5.drew.setCell (fun h=>absurd h (by simp;omega)) _
  have s6:w6.heap.size=w5.heap.size:=by rw [e6];simp [World.setCell]
  refine ⟨q,hXq _ p6,fun g3 w7 hN3 g4 w8 hN4=>?_⟩
  have a3:=hN3.at_
  have s7:=hN3.size
  have a4:=hN4.at_
  have s8:=hN4.size
  refine ⟨hN4.row.wr_ 0 (by simp),by simp;omega,fun w9 e9=>?_⟩
  have s9:w9.heap.size=w8.heap.size:=by rw [e9];simp [World.setCell]
  have far9:∀ {k':Nat} {e':TypeId} {sz:Nat} {xs:List Value},k'≠g4→Row w8 k' e' sz xs→Row w9 k' e' sz xs:=fun hne' hr=>by
    rw [e9];exact hr.far (by simpa using hne') _
  have hq9:Row w9 g3 3 1 [.int .i64 (q:Int)]:=far9 (by omega) (hN4.row_ hN3.row)
  have hI0:QI w g3 gO g4 n es q (2*cu ((List.replicate n (-1)).set q 0)+1) w9 ((List.replicate n (-1)).set q 0) [q] (some ⟨g3,0,none⟩) 1 1:=by
    refine ⟨rfl,Nat.le_refl _,far9 (by omega) (hN4.row_ (hN3.row_ hO6)),?_,OwnS.of_row (c:=1) hq9 (Nat.le_refl _) (by unfold maxLen;omega),?_⟩
    · rw [e9];exact hN4.row.set_ 0 _
    · rw [e9];exact ((p6.trans (hN3.keeps _)).trans (hN4.keeps _)).setCell (fun h=>absurd h (by simp;omega)) _
  have hgg:g2<g3∧gO<g2∧g4=g3+1∧g4<w9.heap.size∧w.heap.size≤gO:=by omega
  clear hO5 hO6 p5 p6 hN1 hN2 hN3 hN4 hO3 hp3 far9 hq9 a1 a2 a3 a4 s2 s3 s4 s5 s6 s7 s8 e5 e6 e9
  obtain ⟨gg1,gg2,gg3,gg4,gg5⟩:=hgg
  have hcn:cu ((List.replicate n (-1)).set q 0)≤12:=by
    have:=List.length_filter_le (fun x:Int=>decide (x<0)) ((List.replicate n (-1)).set q 0)
    unfold cu;simp at this ⊢;omega
  refine ⟨fun m W=>g4<W.heap.size∧m≤100∧∃ o Q A l c,QI w g3 gO g4 n es q m W o Q A l c∧BInv n es q o Q,⟨_,by omega,by omega,_,_,_,_,_,hI0,BInv.start hq⟩,?_⟩
  clear hI0 s9 lO
  rintro m w10 ⟨sz10,hm100,o,Q,Aq,lq,cq,⟨hlen,hmes,hout,hbox,hown,hpure⟩,hB⟩
  refine ⟨Aq,lq,cq,Row.cell hbox (i:=0) rfl,fun hlt=>?_,fun hge=>?_⟩
  · cases Q with
    | nil=>simp at hlen;omega
    | cons v Q =>
      obtain ⟨hv1,hv2⟩:=hB.rng v (by simp)
      obtain ⟨hix,hld⟩:=hown.cell (i:=0) (by omega) (v := .int .i64 (v:Int)) rfl
      refine ⟨Aq,lq,cq,Row.cell hbox (i:=0) rfl,hix,v,hld,fun g5 w11 hN5=>?_⟩
      have a5:=hN5.at_
      have s11:=hN5.size
      refine ⟨by omega,fun w12 e12=>?_⟩
      have far12:∀ {k':Nat} {e':TypeId} {sz:Nat} {xs:List Value},k'≠g5→Row w10 k' e' sz xs→Row w12 k' e' sz xs:=fun hne' hr=>by
        rw [e12];exact (hN5.row_ hr).far (by simpa using hne') _
      have s12:w12.heap.size=w11.heap.size:=by rw [e12];simp [World.setCell]
      have hbox12:=far12 (by omega) hbox
      have hlO:=Row.lt hout
      have hout12:IRow w12 gO 3 n o:=far12 (by omega) hout
      have p12:Pure w w12:=by rw [e12];exact (hpure.trans (hN5.keeps _)).setCell (fun h=>absurd h (by have:=hpure.size;simp;omega)) _
      have k12:∀ k,k<w10.heap.size→w12.heap[k]? = w10.heap[k]?:=fun k hk=>by
        rw [e12,Below.heap_setCell _ _ _ _ (by simp;omega)];rw [hN5.to_];exact Below.heap_alloc _ _ _ hk
      have hown12:=hown.keep (w':=w12) (fun a ha=>k12 _ (hown.lt ha).2)
      refine ⟨Aq,lq,cq,Row.cell hbox12 (i:=0) rfl,by omega,hbox12.wr_ 0 (by simp),by simp;omega,by simp;omega,fun w13 e13=>?_⟩
      have s13:w13.heap.size=w12.heap.size:=by rw [e13];simp [World.setCell]
      have far13:∀ {k':Nat} {e':TypeId} {sz:Nat} {xs:List Value},k'≠g4→Row w12 k' e' sz xs→Row w13 k' e' sz xs:=fun hne' hr=>by
        rw [e13];exact hr.far (by simpa using hne') _
      have hbox13:Row w13 g4 33 1 [.slice (slA Aq cq 1 1) (lq-1) (cq-1)]:=by rw [e13];exact hbox12.set_ 0 _
      have hout13:IRow w13 gO 3 n o:=far13 (by omega) hout12
      have p13:Pure w w13:=by rw [e13];exact p12.setCell (fun h=>absurd h (by simp;omega)) _
      have hownT:=hown12.tail
      have hown13:=hownT.keep (w':=w13) (fun a ha=>by
        rw [e13];exact Below.heap_setCell _ _ _ _ (by
          have:=hownT.ne_row hbox12 (by decide) ha;simpa using this))
      have hap:∀ a,slA Aq cq 1 1=some a→a.block<g5:=fun a ha=>by
        have h1:=congrArg (Option.map Addr.block) ha
        rw [slA_block] at h1
        cases hAq:Aq with
        | none=>rw [hAq] at h1;cases h1
        | some a' =>
          rw [hAq] at h1;simp at h1
          have:=(hown.lt hAq).2;omega
      refine (links_pure X (v:Int) w13).mono ?_
      rintro _ w14 ⟨bx,bv,rfl,hbx,hbv,rbx,rbv,hp14⟩
      have s14:=hp14.size
      have lbx:=rbx.lt
      have lbv:=rbv.lt
      have p14:Pure w w14:=p13.trans hp14
      have hX14:=p14.row hX id
      have hes14:ydc w14 A es:=hes.keep p14
      refine ⟨_,rfl,hp14.kp id,hp14.kp id,Keeps.kpm_pure hp14,?_⟩
      have hbelow:∀ (b off:Nat),0<es.length→A=some ⟨b,off,none⟩→b<w.heap.size:=fun b off h0 hA=>by
        obtain ⟨b',off',hA',hb',_⟩:=hes h0
        rw [hA] at hA';cases hA';exact hb'
      have hQ0:QI w g3 gO g4 n es q (m-1) w14 o Q (slA Aq cq 1 1) (lq-1) (cq-1):=by
        refine ⟨by simp at hlen;omega,by simp at hmes;omega,hp14.row hout13 id,hp14.row hbox13 id,hown13.keep (fun a ha=>hp14.block _ (hown13.lt ha).2 id),p14⟩
      have hm1:1≤m:=by simp at hmes;omega
      refine ⟨yhr es (v:Int),encL es (v:Int),_,_,es.length,fun pre W=>KpS (fun k=>k=g2∨k=g5∨k=bv∨k=bx) w14 W∧KpM w14 W∧∃ o' Q' A' l' c',QI w g3 gO g4 n es q (m-1) W o' Q' A' l' c'∧(∀ a,A'=some a→a.block≠g5∧a.block≠bv∧a.block≠bx∧a.block<W.heap.size)∧BIn n es q v (pre.map (·.1)) o' Q',
        links_iter X A es cap (v:Int) bx bv w14 rbx rbv (Row.cell hX14 (i:=1) rfl) hes14 hE12 (by omega) (by omega) (by omega),fun _=>rfl,?_,⟨fun k _ _=>rfl,KpM.refl _,_,_,_,_,_,hQ0,fun a ha=>by have:=hap a ha;omega,hB.pop⟩,?_,?_,?_⟩
      · refine stays_of fun pre W W' row h hg hr=>?_
        obtain ⟨h1,h2,o',Q',A',l',c',⟨q1,q2,q3,q4,q5,q6⟩,h3,h4⟩:=h
        refine ⟨fun k hk hl=>?_,⟨Nat.le_trans h2.1 hg.size,fun r hr'=>?_⟩,o',Q',A',l',c',⟨q1,q2,Row.owned q3 hg (fun r e=>(hr r e).2),Row.owned q4 hg (fun r e=>(hr r e).2),q5.keep (fun a ha=>?_),q6.owned hg p14.size (fun r e=>(hr r e).1)⟩,fun a ha=>⟨(h3 a ha).1,(h3 a ha).2.1,(h3 a ha).2.2.1,Nat.lt_of_lt_of_le (h3 a ha).2.2.2 hg.size⟩,h4⟩
        · rw [hg.block k (Nat.lt_of_lt_of_le hl h2.1) (fun e=>by have:=(hr k e.symm).1;omega)];exact h1 k hk hl
        · have hl:=(Array.getElem?_eq_some_iff.1 hr').1
          rw [hg.block r (Nat.lt_of_lt_of_le hl h2.1) (fun e=>by have:=(hr r e.symm).1;omega)];exact h2.2 r hr'
        · refine hg.block _ (h3 a ha).2.2.2 (fun e=>?_)
          obtain ⟨_,ob,hob,hcb⟩:=hr _ e.symm
          rcases q5.2 with ⟨h5,_⟩ | ⟨gq,oq,cur,h5,_,hgq,_⟩
          · rw [h5] at ha;cases ha
          · rw [h5] at ha;cases ha
            rw [hgq] at hob;cases hob;cases hcb
      · intro pr W h
        exact ⟨fun hl=>h.1 g2 (.inl rfl) hl,fun hl=>h.1 g5 (.inr (.inl rfl)) hl,trivial⟩
      · rintro pre el w15 ⟨hk,hkm,o',Q',A',l',c',⟨q1,q2,q3,q4,q5,q6⟩,hA',hBI⟩ hlen'
        obtain ⟨eg,heg',hlk⟩:=el.2
        have hmem:el.1∈ycr es (v:Int):=List.mem_filterMap.2 ⟨eg,heg',hlk⟩
        have hr1:=yb4 hE (v:=(v:Int)) (u:=el.1.1) (m:=el.1.2) hmem
        obtain ⟨u,hu⟩:∃ u:Nat,el.1.1=(u:Int):=⟨el.1.1.toNat,by omega⟩
        have hun:u<n:=by omega
        have help:el.1=((u:Int),el.1.2):=by rw [←hu]
        have hadj:Adj es v u:=⟨el.1.2,by rw [←hu];exact hmem⟩
        have hol:=hBI.len
        have ldu:=ild q3 (i:=(u:Int)) (by omega) (by omega)
        simp only [Int.toNat_natCast] at ldu
        refine ⟨el.1.1,el.1.2,rfl,ybr (by omega) (by omega),gi o' u,by rw [hu];exact ldu,fun hneg=>?_,fun hpos=>?_⟩
        · have ldv:=ild (Row.drew q3) (i:=(v:Int)) (by omega) (by omega)
          simp only [Int.toNat_natCast] at ldv
          have hval:=hBI.val v
          refine ⟨ybr (by omega) (by omega),gi o' v,ldv,in64 (by have:=hBI.v0;omega),ybr (by omega) (by omega),iwr (Row.drew q3) (by omega) (by omega),by rw [ybK];simp;omega,by rw [ybK];simp;omega,fun w17 e17=>?_⟩
          have hsz15:=hkm.1
          have s17:w17.heap.size=w15.heap.size:=by rw [e17];simp [World.setCell]
          have hout17:IRow w17 gO 3 n (o'.set u (gi o' v+1)):=by
            have:=ist (Row.drew q3) el.1.1 (gi o' v+1)
            rw [e17,hu] at *;simpa using this
          have far17:∀ {k':Nat} {e':TypeId} {sz:Nat} {xs:List Value},k'≠gO→Row w15 k' e' sz xs→Row w17 k' e' sz xs:=fun hne' hr=>by
            rw [e17];exact Row.far_ hr.drew hne' _ _
          have hbox17:=far17 (by omega) q4
          have b17:∀ k,k≠gO→w17.heap[k]? = w15.heap[k]?:=fun k hk'=>by
            rw [e17,ybK];exact Below.heap_setCell _ _ _ _ (by simpa using hk')
          have hown17:=q5.keep (w':=w17) (fun a ha=>b17 _ (by have:=(q5.lt ha).1;omega))
          have p17:Pure w w17:=by rw [e17,ybK];exact q6.drew.setCell (fun h=>absurd h (by simp;omega)) _
          refine ⟨A',l',c',Row.cell hbox17 (i:=0) rfl,fun g6 w18 hN6=>?_⟩
          have a6:=hN6.at_
          have s18:=hN6.size
          have b18:∀ k,k<w17.heap.size→w18.heap[k]? = w17.heap[k]?:=fun k hk'=>by rw [hN6.to_];exact Below.heap_alloc _ _ _ hk'
          have hown18:=hown17.keep (w':=w18) (fun a ha=>b18 _ (hown17.lt ha).2)
          have hcul:=List.length_filter_le (fun x:Int=>decide (x<0)) o'
          have hcu:cu o'≤12:=by unfold cu;omega
          refine ⟨g3,_,[.int .i64 el.1.1],⟨g6,0,none⟩,hown18,rfl,rfl,?_,by simp [Value.oneCell'],by unfold maxLen;omega,by omega,by omega,fun A2 c2 w19 hown19 hgr hbk=>?_⟩
          · intro j x hj
            cases j with
            | zero=>simp only [List.getElem?_cons_zero,Option.some.injEq] at hj;subst hj;exact Row.cell hN6.row (i:=0) rfl
            | succ j=>simp at hj
          have hown_lt:∀ k,k<w18.heap.size→(∀ a,A'=some a→a.block≠k)→w19.heap[k]? = w18.heap[k]?:=fun k hk' hne'=>hgr.block k hk' (fun e=>by
            cases hA2:A' with
            | none=>rw [hA2] at e;cases e
            | some a=>rw [hA2] at e;cases e;exact hne' a hA2 rfl)
          have b19:∀ k,k<w15.heap.size→k≠gO→(∀ a,A'=some a→a.block≠k)→w19.heap[k]? = w15.heap[k]?:=fun k h1 h2 h3 =>
            (hown_lt k (by omega) h3).trans ((b18 k (by omega)).trans (b17 k h2))
          have hAk:∀ k,k<g3→∀ a,A'=some a→a.block≠k:=fun k hk' a ha=>by have:=(q5.lt ha).1;omega
          have hAg4:∀ a,A'=some a→a.block≠g4:=fun a ha=>q5.ne_row q4 (by decide) ha
          have hg4lt:=q4.lt
          have hgOlt:=Row.lt q3
          have hbox19:Row w19 g4 33 1 [.slice A' l' c']:=q4.keep (b19 g4 hg4lt (by omega) hAg4)
          have hA2b:∀ a,A2=some a→(∃ a',A'=some a'∧a'.block=a.block)∨a.block=w18.heap.size:=by
            intro a ha
            rw [ha] at hbk
            rcases hbk with h | h
            · cases hA2:A' with
              | none=>rw [hA2] at h;cases h
              | some a'=>rw [hA2] at h;simp at h;exact .inl ⟨a',rfl,h.symm⟩
            · simp at h;exact .inr h
          have s19:=hgr.size
          refine ⟨fun hl=>hown_lt g2 hl (hAk g2 (by omega)),fun hl=>hown_lt g5 hl (fun a ha=>(hA' a ha).1),hbox19.wr_ 0 (by simp),by simp;omega,by simp;omega,fun w20 e20=>?_⟩
          have b20:∀ k,k<w15.heap.size→k≠gO→k≠g4→(∀ a,A'=some a→a.block≠k)→w20.heap[k]? = w15.heap[k]?:=fun k h1 h2 h3 h4=>by
            rw [e20,Below.heap_setCell _ _ _ _ (by simpa using h3)];exact b19 k h1 h2 h4
          have s20:w20.heap.size=w19.heap.size:=by rw [e20];simp [World.setCell]
          have hob:∀ (k:Nat) (ob:Obj),w15.heap[k]? = some ob→ob.isCells=false→k≠gO∧k≠g4∧∀ a,A'=some a→a.block≠k:=by
            intro k ob hk' hc
            refine ⟨fun e=>?_,fun e=>?_,fun a ha e=>?_⟩
            · subst e;have:=Row.cells_ q3 _ hk';rw [this] at hc;cases hc
            · subst e;have:=Row.cells_ q4 _ hk';rw [this] at hc;cases hc
            · subst e
              rcases q5.2 with ⟨h5,_⟩ | ⟨gq,oq,cur,h5,_,hgq,_⟩
              · rw [h5] at ha;cases ha
              · rw [h5] at ha;cases ha
                rw [hgq] at hk';cases hk';cases hc
          have ko:KeepsOthers w15 w20:=⟨by omega,fun k ob hk' hc=>by
            have h3:=hob k ob hk' hc
            rw [b20 k (Array.getElem?_eq_some_iff.1 hk').1 h3.1 h3.2.1 h3.2.2];exact hk'⟩
          refine ⟨ko,?_,?_,?_,o'.set u (gi o' v+1),Q'++[u],A2,l'+1,c2,⟨?_,?_,?_,?_,?_,?_⟩,?_,?_⟩
          · intro k hk'
            rcases hk' with rfl | ⟨h0,a,ha,rfl⟩
            · exact b20 k (by omega) (by omega) (by omega) (fun a ha=>(hA' a ha).2.1)
            · obtain ⟨b,off,hAe,_⟩:=hes14 h0
              rw [hAe] at ha;cases ha
              have:=hbelow b off h0 hAe
              have:=q6.size
              exact b20 b (by omega) (by omega) (by omega) (fun a ha=>by have:=(q5.lt ha).1;omega)
          · intro k hk' hl
            rw [b20 k (by omega) (by rcases hk' with rfl | rfl | rfl | rfl <;> omega) (by rcases hk' with rfl | rfl | rfl | rfl <;> omega) (fun a ha=>by
              have h1:=hA' a ha
              have h2:=(q5.lt ha).1
              rcases hk' with rfl | rfl | rfl | rfl
              · omega
              · exact h1.1
              · exact h1.2.1
              · exact h1.2.2.1)]
            exact hk k hk' hl
          · exact hkm.trans (KeepsOthers.kpm ko)
          · simp;omega
          · have h1:=cu_set (by omega:u<o'.length) hneg (x:=gi o' v+1) (by have:=hBI.v0;omega)
            simp;omega
          · have hO19:IRow w19 gO 3 n (o'.set u (gi o' v+1)):=hout17.keep ((hown_lt gO (by omega) (hAk gO (by omega))).trans (b18 gO (by omega)))
            rw [e20];exact Row.far hO19 (by simp;omega) _
          · rw [e20];exact hbox19.set_ 0 _
          · rw [List.map_append]
            have:=hown19.keep (w':=w20) (fun a ha=>by
              rw [e20];refine Below.heap_setCell _ _ _ _ ?_
              rcases hA2b a ha with ⟨a',ha',hb⟩ | hb
              · have:=hAg4 a' ha';simp;omega
              · simp;omega)
            rw [hu] at this
            exact this
          · rw [e20]
            have p18:Pure w w18:=p17.trans (hN6.keeps _)
            exact (p18.grown hgr (fun k e hk'=>by
              cases hA2:A' with
              | none=>rw [hA2] at e;cases e
              | some a=>rw [hA2] at e;cases e;have:=(q5.lt hA2).1;omega)).setCell (fun h=>absurd h (by simp;omega)) _
          · intro a ha
            rcases hA2b a ha with ⟨a',ha',hb⟩ | hb
            · have h1:=hA' a' ha';rw [←hb];exact ⟨h1.1,h1.2.1,h1.2.2.1,by omega⟩
            · have:=(hown19.lt ha).2
              exact ⟨by omega,by omega,by omega,by omega⟩
          · rw [List.map_append,List.map_singleton,help]
            exact hBI.push hun hadj hneg
        · refine ⟨KeepsOthers.refl _,KB.refl _ _,hk,hkm,o',Q',A',l',c',⟨q1,q2,q3,q4,q5,q6⟩,hA',?_⟩
          rw [List.map_append,List.map_singleton,help]
          exact hBI.pass hun (by omega)
      · rintro xs w16 hxs ⟨hk,hkm,o',Q',A',l',c',hQI,hA',hBI⟩
        rw [hxs] at hBI
        exact ⟨hkm,m-1,by omega,by have:=hkm.1;omega,by omega,o',Q',A',l',c',hQI,hBI.fin⟩
  · have hQ:Q=[]:=List.eq_nil_of_length_eq_zero (by omega)
    subst hQ
    intro wz ha
    exact ⟨gO,o,rfl,rfl,rfl,gg5,ha.row hout,hB.dist,ha.keeps hpure⟩
end Go.Proofs.YtjepipbkiadcpaaGreat

/- The contract of fire: a set of vertices fires some times. -/
namespace Go.Proofs.YtjepipbkiadcpaaGreat
open Go Go.RowKit Go.Shelf Go.Proofs.Tryz
set_option maxRecDepth 100000
set_option maxHeartbeats 8000000
theorem ydc.keepL{S:Nat→Prop}{w w':World}{A:Option Addr}{es:List E3}(h:ydc w A es)(hk:Keeps S w w')(hs:∀ b off,A=some ⟨b,off,none⟩→0<es.length→¬S b):ydc w' A es:=fun hl=>by
  obtain ⟨b,off,e,hb,hc⟩:=h hl
  exact ⟨b,off,e,Nat.lt_of_lt_of_le hb hk.size,fun k h1=>⟨hk.cell (hs b off e hl) (hc k h1).1,hk.cell (hs b off e hl) (hc k h1).2.1,hk.cell (hs b off e hl) (hc k h1).2.2⟩⟩
def pay(t:Int)(v:Nat)(d:List Int)(x:Int×Int):List Int:=(d.set v (gi d v-x.2*t)).set x.1.toNat (gi (d.set v (gi d v-x.2*t)) x.1.toNat+x.2*t)
def yd7(t:Int)(v:Nat)(l:List (Int×Int))(d:List Int):List Int:=l.foldl (pay t v) d
def ycA(es:List E3)(inn:List Bool)(t:Int)(d:List Int):Nat→List Int
  | 0=>d
  | k+1=>if gb inn k then yd7 t k (ycr es k) (ycA es inn t d k) else ycA es inn t d k
def ycL(inn:List Bool)(t:Int)(s:List Int):Nat→List Int
  | 0=>s
  | k+1=>if gb inn k then (ycL inn t s k).set k (gi (ycL inn t s k) k+t) else ycL inn t s k
theorem ygw(t:Int)(v:Nat)(l:List (Int×Int)):∀ d,(yd7 t v l d).length=d.length:=by
  unfold yd7
  induction l with
  | nil=>intro d;rfl
  | cons x l ih=>intro d;rw [List.foldl_cons,ih];simp [pay]
theorem payAll_snoc(t:Int)(v:Nat)(l:List (Int×Int))(x:Int×Int)(d:List Int):yd7 t v (l++[x]) d=pay t v (yd7 t v l d) x:=by unfold yd7;rw [List.foldl_append];rfl
theorem ybM(es:List E3)(inn:List Bool)(t:Int)(d:List Int):∀ k,(ycA es inn t d k).length=d.length
  | 0=>rfl
  | k+1=>by
    rw [ycA];split
    · rw [ygw,ybM es inn t d k]
    · exact ybM es inn t d k
theorem ybZ(inn:List Bool)(t:Int)(s:List Int):∀ k,(ycL inn t s k).length=s.length
  | 0=>rfl
  | k+1=>by
    rw [ycL];split
    · rw [List.length_set,ybZ inn t s k]
    · exact ybZ inn t s k
theorem yhV(inn:List Bool)(t:Int)(s:List Int):∀ k i,k≤s.length→gi (ycL inn t s k) i=if i<k∧gb inn i=true then gi s i+t else gi s i
  | 0,i,_=>by simp [ycL]
  | k+1,i,hk=>by
    have ih:=yhV inn t s k
    rw [ycL]
    by_cases hb:gb inn k=true
    · rw [if_pos hb,ya7 (by rw [ybZ];omega)]
      by_cases e:i=k
      · subst e;rw [if_pos rfl,if_pos ⟨by omega,hb⟩,ih i (by omega),if_neg (by omega)]
      · rw [if_neg e,ih i (by omega)]
        by_cases h2:i<k∧gb inn i=true
        · rw [if_pos h2,if_pos ⟨by omega,h2.2⟩]
        · rw [if_neg h2,if_neg (fun h=>h2 ⟨by omega,h.2⟩)]
    · rw [if_neg hb,ih i (by omega)]
      by_cases h2:i<k∧gb inn i=true
      · rw [if_pos h2,if_pos ⟨by omega,h2.2⟩]
      · rw [if_neg h2,if_neg (fun h=>by
          by_cases e:i=k
          · subst e;exact hb h.2
          · exact h2 ⟨by omega,h.2⟩)]
def Bnd(M:Int)(d:List Int):Prop:=∀ i, -M≤gi d i∧gi d i≤M
theorem pay_bnd{t C M:Int}{v:Nat}{x:Int×Int}{d:List Int}(h:Bnd M d)(h0:0≤x.2*t)(h1:x.2*t≤C)(hv:v<d.length)(hu:x.1.toNat<d.length):Bnd (M+2*C) (pay t v d x):=by
  intro i
  unfold pay
  rw [ya7 (by simpa using hu)]
  have hi:=h i
  have hv':=h v
  have hu':=h x.1.toNat
  split
  · rw [ya7 hv];split <;> omega
  · rw [ya7 hv];split <;> omega
def bigAt(d s:List Int)(j:Nat):Bool:=decide (2097152<gi d j∨2097152 < -gi d j∨2097152<gi s j∨2097152 < -gi s j)
def yg0(d s:List Int)(e:Int):Nat→Int
  | 0=>e
  | j+1=>if bigAt d s j=true∧yg0 d s e j=0 then 11 else yg0 d s e j
theorem mxF4_gt(a b c d L:Int):L<mxF4 a b c d↔L<a∨L<b∨L<c∨L<d:=by
  unfold mxF4 mxF
  split <;> split <;> split <;> omega
def FirePost(X gd gs n:Nat)(A:Option Addr)(es:List E3)(cap cd cs:Nat)(q:Int)(d s:List Int)(e:Int)(inn:List Bool)(t:Int)(w w':World):Prop :=
  ye7 w' X gd gs n A es cap cd cs q (ycA es inn t d n) (ycL inn t s n) (yg0 (ycA es inn t d n) (ycL inn t s n) e n)∧Keeps (fun j=>j=gd∨j=gs∨j=X) w w'
theorem fire_any(X gd gs Gin n ci:Nat)(A:Option Addr)(es:List E3)(cap cd cs:Nat)(q:Int)(d s:List Int)(e t:Int)(inn:List Bool)(w:World)(hS:ye7 w X gd gs n A es cap cd cs q d s e)(hes:ydc w A es)
    (heg:∀ b off,A=some ⟨b,off,none⟩→0<es.length→b≠gd∧b≠gs∧b≠X) (hin:BRow w Gin 4 ci inn) (hil:inn.length=n) (hn:n≤12) (hE:∀ x∈es,0≤x.1∧x.1<n∧0≤x.2.1∧x.2.1<n∧0≤x.2.2∧x.2.2≤50) (hel:es.length≤1000)
    (ht0:0≤t) (ht1:t≤2147483648) (hbd:Bnd 2147483648 d) (hbs:Bnd 2147483648 s) :
    Calls Tryz.prog 109 #[.pointer (some ⟨X,0,none⟩), .slice (some ⟨Gin,0,none⟩) n ci, .int .i64 t] w fun e' w'=>e' = .returned (.tuple #[])∧FirePost X gd gs n A es cap cd cs q d s e inn t w w':=by
  refine (yfI _ _ _ _ _ w (fun w'=>FirePost X gd gs n A es cap cd cs q d s e inn t w w') ?_)
  unfold ycR
  have hE12:ydz es:=fun x hx=>by have:=hE x hx;omega
  obtain ⟨hX,hd,hs,hne,hdl,hsl⟩:=hS
  have hXd:X≠gd:=hX.ne_ hd (by decide)
  have hXs:X≠gs:=hX.ne_ hs (by decide)
  have hGd:Gin≠gd:=Row.ne_ hin hd (by decide)
  have hGs:Gin≠gs:=Row.ne_ hin hs (by decide)
  have lX:=hX.lt
  have ld:=Row.lt hd
  have ls:=Row.lt hs
  intro g w2 hN1 g2 w3 hN2
  have ag:=hN1.at_
  have sg:=hN1.size
  have ag2:=hN2.at_
  have sg2:=hN2.size
  have K3:Keeps (fun j=>j=gd∨j=gs) w w3:=(hN1.keeps _).trans (hN2.keeps _)
  have hS3:ye7 w3 X gd gs n A es cap cd cs q (ycA es inn t d 0) (ycL inn t s 0) e:=⟨hN2.row_ (hN1.row_ hX),hN2.row_ (hN1.row_ hd),hN2.row_ (hN1.row_ hs),hne,hdl,hsl⟩
  refine ⟨fun m i w4=>∃ k:Nat,m=n-k∧k≤n∧i=(k:Int)∧ye7 w4 X gd gs n A es cap cd cs q (ycA es inn t d k) (ycL inn t s k) e∧Keeps (fun j=>j=gd∨j=gs) w w4∧g2<w4.heap.size∧Bnd (2147483648*(1+(k:Int)*100000)) (ycA es inn t d k),⟨n,0,rfl,Nat.zero_le _,rfl,hS3,K3,by omega,by intro i;have:=hbd i;simp only [ycA];omega⟩,?_⟩
  clear hS3 K3
  rintro m i w4 ⟨k,rfl,hk,rfl,⟨hX4,hd4,hs4,_,hdl4,hsl4⟩,K4,hsz4,hbk⟩
  have hin4:BRow w4 Gin 4 ci inn:=K4.row hin (by omega)
  have lX4:=hX4.lt
  have ld4:=Row.lt hd4
  have ls4:=Row.lt hs4
  refine ⟨fun hlt=>?_,fun hge=>?_⟩
  · refine ⟨ybr (by omega) hlt,gb inn k,by simpa using bld hin4 (i:=(k:Int)) (by omega) (by omega),fun g3 w5 hN3=>?_⟩
    have ag3:=hN3.at_
    have sg3:=hN3.size
    refine ⟨by omega,by omega,fun w6 e6=>?_⟩
    have K6:Keeps (fun j=>j=gd∨j=gs) w w6:=by
      rw [e6];exact (K4.trans (hN3.keeps _)).setCell (fun h=>absurd h (by have:=K4.size;simp;omega)) _
    have s6:w6.heap.size=w5.heap.size:=by rw [e6];simp [World.setCell]
    have far6:∀ {k':Nat} {e':TypeId} {sz:Nat} {xs:List Value},k'≠g3→Row w4 k' e' sz xs→Row w6 k' e' sz xs:=fun hne' hr=>by
      rw [e6];exact (hN3.row_ hr).far (by simpa using hne') _
    have hX6:=far6 (by omega) hX4
    have hd6:IRow w6 gd _ _ _:=far6 (by omega) hd4
    have hs6:IRow w6 gs _ _ _:=far6 (by omega) hs4
    refine ⟨fun hb=>?_,fun hb=>?_⟩
    · refine ⟨_,_,_,hX6.at_ 4 rfl,ybr (by omega) (by omega),_,ild hs6 (i:=(k:Int)) (by omega) (by omega),?_,ybr (by omega) (by omega),iwr hs6 (by omega) (by omega),by rw [ybK];simp;omega,by rw [ybK];simp;omega,by rw [ybK];simp;omega,fun w7 e7=>?_⟩
      · have:=hbs k
        have h9:=yhV inn t s k k (by omega)
        rw [if_neg (by omega)] at h9
        simp only [Int.toNat_natCast]
        rw [h9];exact in64 (by omega)
      have hs7:IRow w7 gs 3 cs (ycL inn t s (k+1)):=by
        have:=ist hs6.drew (k:Int) (gi (ycL inn t s k) (k:Int).toNat+t)
        rw [e7,ycL,if_pos hb];simpa using this
      have far7:∀ {k':Nat} {e':TypeId} {sz:Nat} {xs:List Value},k'≠gs→Row w6 k' e' sz xs→Row w7 k' e' sz xs:=fun hne' hr=>by
        rw [e7];exact Row.far_ hr.drew hne' _ _
      have hX7:=far7 hXs hX6
      have hd7:=far7 hne hd6
      have K7:Keeps (fun j=>j=gd∨j=gs) w w7:=by rw [e7];exact K6.drew.set_ (.inr rfl) _ _
      have s7:w7.heap.size=w6.heap.size:=by rw [e7];simp [World.setCell]
      refine (links_pure X (k:Int) w7).mono ?_
      rintro _ w8 ⟨bx,bv,rfl,hbx,hbv,rbx,rbv,hp8⟩
      have s8:=hp8.size
      have K8:Keeps (fun j=>j=gd∨j=gs) w w8:=Pure.after K7 hp8
      have hX8:=hp8.row hX7 id
      have hd8:=hp8.row hd7 id
      have hs8:=hp8.row hs7 id
      have hes8:ydc w8 A es:=hes.keepL K8 (fun b off h h0=>by have:=heg b off h h0;omega)
      have lbx:=rbx.lt
      have lbv:=rbv.lt
      refine ⟨_,rfl,hp8.kp id,hp8.kp id,hp8.kp id,Keeps.kpm_pure hp8,?_⟩
      refine ⟨yhr es (k:Int),encL es (k:Int),_,_,es.length,fun pre W=>IRow W gd 3 cd (yd7 t k (pre.map (·.1)) (ycA es inn t d k))∧Bnd (2147483648*(1+(k:Int)*100000+(pre.length:Int)*100)) (yd7 t k (pre.map (·.1)) (ycA es inn t d k))∧Keeps (fun j=>j=gd) w8 W,
        links_iter X A es cap (k:Int) bx bv w8 rbx rbv (Row.cell hX8 (i:=1) rfl) hes8 hE12 (by omega) (by omega) (by omega),fun _=>rfl,?_,⟨hd8,by simpa [yd7] using hbk,Keeps.refl _ _⟩,?_,?_,?_⟩
      · exact stays_of fun pre W W' row h hg hr=>⟨Row.owned h.1 hg (fun r e=>(hr r e).2),h.2.1,h.2.2.owned hg (Nat.le_refl _) (fun r e=>(hr r e).1)⟩
      · intro pr W h
        exact ⟨h.2.2.kp (by omega),h.2.2.kp (by omega),h.2.2.kp (by omega),trivial⟩
      · rintro pre el w9 ⟨rd9,hb9,K9⟩ hlen
        obtain ⟨eg,heg',hlk⟩:=el.2
        have hxx:0≤el.1.1∧el.1.1<n∧0≤el.1.2∧el.1.2≤50:=by
          have h2:=hE eg heg'
          unfold link at hlk
          split at hlk
          · rename_i hc
            simp only [Option.some.injEq] at hlk
            rw [←hlk]
            omega
          · cases hlk
        obtain ⟨u1,u2,u3,u4⟩:=hxx
        have hmt0:0≤el.1.2*t:=Int.mul_nonneg u3 ht0
        have hmt1:el.1.2*t≤50*2147483648:=Int.mul_le_mul u4 ht1 ht0 (by omega)
        have hX9:=K9.row hX8 hXd
        obtain ⟨dd,hdd⟩:∃ dd,dd=yd7 t k (pre.map (·.1)) (ycA es inn t d k):=⟨_,rfl⟩
        have hdlen:dd.length=n:=by rw [hdd,ygw,ybM];exact hdl
        rw [←hdd] at rd9 hb9
        have hpl:pre.length≤1000:=by omega
        refine ⟨el.1.1,el.1.2,rfl,_,_,_,hX9.at_ 3 rfl,ybr (by omega) (by omega),_,ild rd9 (i:=(k:Int)) (by omega) (by omega),in64 (by omega),?_,ybr (by omega) (by omega),iwr (Row.drew rd9) (by omega) (by omega),by rw [ybK];simp;omega,by rw [ybK];simp;omega,by rw [ybK];simp;omega,fun w11 e11=>?_⟩
        · have:=hb9 (k:Int).toNat
          exact in64 (by omega)
        have rd11:IRow w11 gd 3 cd (dd.set k (gi dd k-el.1.2*t)):=by
          have:=ist (Row.drew rd9) (k:Int) (gi dd (k:Int).toNat-el.1.2*t)
          rw [e11];simpa using this
        have far11:∀ {k':Nat} {e':TypeId} {sz:Nat} {xs:List Value},k'≠gd→Row w9 k' e' sz xs→Row w11 k' e' sz xs:=fun hne' hr=>by
          rw [e11];exact Row.far_ hr.drew hne' _ _
        have hX11:=far11 hXd hX9
        have K11:Keeps (fun j=>j=gd) w8 w11:=by rw [e11];exact K9.drew.set_ rfl _ _
        have ko11:KeepsOthers w9 w11:=by rw [e11];exact (KeepsOthers.drew w9).trans (KeepsOthers.setCell _ _ _)
        have kd11:Keeps (fun j=>j=gd) w9 w11:=by rw [e11];exact ((Keeps.refl (fun j=>j=gd) w9).drew).set_ rfl _ _
        refine ⟨_,_,_,hX11.at_ 3 rfl,ybr (by omega) (by omega),_,ild rd11 (i:=el.1.1) (by omega) (by simp;omega),in64 (by omega),?_,ybr (by omega) (by omega),iwr (Row.drew rd11) (by omega) (by simp;omega),by rw [ybK];simp;omega,by rw [ybK];simp;omega,by rw [ybK];simp;omega,fun w12 e12=>?_⟩
        · have h1:=hb9 el.1.1.toNat
          have h2:=hb9 k
          rw [ya7 (by omega)]
          split <;> exact in64 (by omega)
        have rd12:IRow w12 gd 3 cd (pay t k dd el.1):=by
          have:=ist (Row.drew rd11) el.1.1 (gi (dd.set k (gi dd k-el.1.2*t)) el.1.1.toNat+el.1.2*t)
          rw [e12];exact this
        have kd12:Keeps (fun j=>j=gd) w9 w12:=by rw [e12];exact kd11.drew.set_ rfl _ _
        have hpa:yd7 t k ((pre++[el]).map (·.1)) (ycA es inn t d k)=pay t k dd el.1:=by rw [List.map_append,List.map_singleton,payAll_snoc,←hdd]
        refine ⟨?_,?_,?_,?_,?_⟩
        · rw [e12];exact ko11.trans ((KeepsOthers.drew w11).trans (KeepsOthers.setCell _ _ _))
        · intro j hj
          have h5:=K9.size
          refine kd12.block j ?_ ?_
          · rcases hj with rfl | ⟨h0,a,ha,rfl⟩
            · omega
            · obtain ⟨b,off,hA,hb,_⟩:=hes8 h0
              rw [hA] at ha;cases ha;simp;omega
          · rcases hj with rfl | ⟨h0,a,ha,rfl⟩
            · omega
            · obtain ⟨b,off,hA,hb,_⟩:=hes8 h0
              rw [hA] at ha;cases ha
              have:=heg b off hA (List.length_pos_of_mem heg');simp;omega
        · rw [hpa];exact rd12
        · rw [hpa]
          have h6:=pay_bnd (C:=50*2147483648) hb9 hmt0 hmt1 (by omega:k<dd.length) (by omega:el.1.1.toNat<dd.length)
          intro i
          have h7:=h6 i
          have h8:(((pre++[el]).length:Nat):Int)=(pre.length:Int)+1:=by rw [List.length_append];rfl
          rw [h8]
          omega
        · rw [e12];exact K11.drew.set_ rfl _ _
      · rintro xs w10 hxs ⟨rd10,hb10,K10⟩
        have hDE:ycA es inn t d (k+1)=yd7 t k (xs.map (·.1)) (ycA es inn t d k):=by rw [ycA,if_pos hb,hxs]
        have hxl:xs.length≤es.length:=by
          have h:=congrArg List.length hxs
          rw [List.length_map] at h
          rw [h]
          exact List.length_filterMap_le _ _
        refine ⟨K10.kpm (fun j hj o ho=>by subst hj;exact Row.cells_ hd8 o ho),in64 (by omega),n-(k+1),by omega,k+1,rfl,by omega,by omega,⟨by have:=K10.row hX8 hXd;rw [ybM,ybZ] at this ⊢;exact this,by rw [hDE];exact rd10,K10.row hs8 (Ne.symm hne),hne,by rw [ybM];exact hdl,by rw [ybZ];exact hsl⟩,K8.trans (K10.mono (fun _ _ h => .inl h)),by have:=K10.size;omega,?_⟩
        rw [hDE]
        intro i
        have:=hb10 i
        omega
    · refine ⟨in64 (by omega),n-(k+1),by omega,k+1,rfl,by omega,by omega,⟨by rw [ycA,if_neg hb,ycL,if_neg hb];exact hX6,by rw [ycA,if_neg hb];exact hd6,by rw [ycL,if_neg hb];exact hs6,hne,by rw [ybM];exact hdl,by rw [ybZ];exact hsl⟩,K6,by omega,?_⟩
      rw [ycA,if_neg hb];intro i;have:=hbk i;omega
  · obtain rfl:k=n:=by omega
    obtain ⟨D,hD⟩:∃ D,D=ycA es inn t d k:=⟨_,rfl⟩
    obtain ⟨S,hSS⟩:∃ S,S=ycL inn t s k:=⟨_,rfl⟩
    have hDl:D.length=k:=by rw [hD,ybM];exact hdl
    have hSl:S.length=k:=by rw [hSS,ybZ];exact hsl
    have hbS:Bnd 4294967296 S:=by
      intro i
      rw [hSS,yhV inn t s k i (by omega)]
      have:=hbs i
      split <;> omega
    unfold FirePost
    rw [←hD] at hX4 hd4 hbk ⊢
    rw [←hSS] at hX4 hs4 ⊢
    refine ⟨_,_,_,hX4.at_ 3 rfl,?_⟩
    refine ⟨fun m i w13=>∃ j:Nat,m=k-j∧j≤k∧i=(j:Int)∧ye7 w13 X gd gs k A es cap cd cs q D S (yg0 D S e j)∧Keeps (fun j=>j=gd∨j=gs∨j=X) w w13,⟨k,0,rfl,Nat.zero_le _,rfl,⟨hX4,hd4,hs4,hne,hDl,hSl⟩,K4.mono (fun _ _ h=>by rcases h with h | h;exact .inl h;exact .inr (.inl h))⟩,?_⟩
    rintro m i w13 ⟨j,rfl,hj,rfl,⟨hX5,hd5,hs5,_,_,_⟩,K5⟩
    refine ⟨fun hlt=>?_,fun hge=>?_⟩
    · have hb1:=hbk j
      have hb2:=hbS j
      have e1:=fun h0 h1=>ild (Row.drew hd5) (i:=(j:Int)) h0 h1
      have e2:=fun h0 h1=>ild (Row.drew hs5) (i:=(j:Int)) h0 h1
      simp only [Int.toNat_natCast] at e1 e2
      refine ⟨_,_,_,hX5.drew.at_ 3 rfl,ybr (by omega) (by omega),_,e1 (by omega) (by omega),_,_,_,hX5.drew.at_ 3 rfl,ybr (by omega) (by omega),_,e1 (by omega) (by omega),in64 (by omega),_,_,_,hX5.drew.at_ 4 rfl,ybr (by omega) (by omega),_,e2 (by omega) (by omega),_,_,_,hX5.drew.at_ 4 rfl,ybr (by omega) (by omega),_,e2 (by omega) (by omega),in64 (by omega),fun hbig=>?_,fun hbig=>?_⟩
      · have hba:bigAt D S j=true:=by rw [mxF4_gt] at hbig;unfold bigAt;simpa using hbig
        refine ⟨_,hX5.drew.at_ 5 rfl,fun he=>?_,fun he=>?_⟩
        · have K13:=K5.size
          refine ⟨hX5.drew.wr_ 5 (by simp),by simp [ycB];omega,by simp [ycB];omega,fun w14 e14=>⟨in64 (by omega),k-(j+1),by omega,j+1,rfl,by omega,by omega,?_,?_⟩⟩
          · rw [e14,ycB,yg0,if_pos ⟨hba,he⟩]
            exact ⟨hX5.drew.set_ 5 _,Row.far (Row.drew hd5) (by simp;omega) _,Row.far (Row.drew hs5) (by simp;omega) _,hne,hDl,hSl⟩
          · rw [e14,ycB];exact K5.drew.setCell (fun _ => .inr (.inr rfl)) _
        · refine ⟨in64 (by omega),k-(j+1),by omega,j+1,rfl,by omega,by omega,?_,K5.drew⟩
          rw [yg0,if_neg (fun h=>he h.2)]
          exact ⟨hX5.drew,Row.drew hd5,Row.drew hs5,hne,hDl,hSl⟩
      · have hba:¬bigAt D S j=true:=by rw [mxF4_gt] at hbig;unfold bigAt;simpa using hbig
        refine ⟨in64 (by omega),k-(j+1),by omega,j+1,rfl,by omega,by omega,?_,K5.drew⟩
        rw [yg0,if_neg (fun h=>hba h.1)]
        exact ⟨hX5.drew,Row.drew hd5,Row.drew hs5,hne,hDl,hSl⟩
    · obtain rfl:j=k:=by omega
      intro wz ha
      exact ⟨⟨ha.row hX5,ha.row hd5,ha.row hs5,hne,hDl,hSl⟩,ha.keeps K5⟩
end Go.Proofs.YtjepipbkiadcpaaGreat

/- The contract of settle: unburnt sets fire until there are none. What fires well is a premise (Good), so that the numbers are plain Lean elsewhere. -/
namespace Go.Proofs.YtjepipbkiadcpaaGreat
open Go Go.RowKit Go.Shelf Go.Proofs.Tryz
set_option maxRecDepth 100000
set_option maxHeartbeats 8000000
def ybD(es:List E3)(left:List Bool)(d:List Int):Nat→Int
  | 0=>0
  | k+1=>if gb left k=true∧0<yaG es (k:Int) (fun u=>!gb left u.toNat) then
      (if ybD es left d k=0∨(gi d k).tdiv (yaG es (k:Int) (fun u=>!gb left u.toNat))<ybD es left d k then (gi d k).tdiv (yaG es (k:Int) (fun u=>!gb left u.toNat)) else ybD es left d k)
    else ybD es left d k
structure Burns(n:Nat)(es:List E3)(q:Nat)(d:List Int)(burnt:List Bool):Prop where
  len:burnt.length=n
  at_q:gb burnt q=true
  closed:Closed n es d burnt
  forced:yhs n es q d burnt
def leftOf(burnt:List Bool):List Bool:=burnt.map (!·)
theorem settle1_any(B g n c:Nat)(left:List Bool)(u:Nat)(w:World)(hB:Row w B 168 1 [.slice (some ⟨g,0,none⟩) n c])(hg:BRow w g 4 c left)(hl:left.length=n)(hu:u<n) :
    Calls Tryz.prog 114 #[.int .i64 (u:Int), .pointer (some ⟨B,0,none⟩)] w fun e w'=>e = .returned (.bool (!gb left u))∧w=w':=by
  refine (yeO (u:Int) ⟨B,0,none⟩ w (fun r w'=>r=(!gb left u)∧w=w') ?_).mono ?_
  · unfold ych
    have:=bld hg (i:=(u:Int)) (by omega) (by omega)
    exact ⟨_,_,_,Row.cell hB (i:=0) rfl,ybr (by omega) (by omega),gb left u,by simpa using this,rfl,rfl⟩
  · rintro e w' ⟨r,rfl,rfl,rfl⟩;exact ⟨rfl,rfl⟩
def SettlePost(Good:Nat→List Int→List Int→Int→Prop)(X gd gs n:Nat)(A:Option Addr)(es:List E3)(cap cd cs q:Nat)(w w':World):Prop :=
  ∃ m d s e,Good m d s e∧ye7 w' X gd gs n A es cap cd cs q d s e∧(e≠0∨∃ burnt,Burns n es q d burnt∧(leftOf burnt).any id=false)∧Keeps (fun j=>j=gd∨j=gs∨j=X) w w'
theorem settle_any(Good:Nat→List Int→List Int→Int→Prop)(X gd gs n:Nat)(A:Option Addr)(es:List E3)(cap cd cs q:Nat)(m:Nat)(d s:List Int)(e:Int)(w:World)(hS:ye7 w X gd gs n A es cap cd cs q d s e)(hes:ydc w A es)
    (heg:∀ b off,A=some ⟨b,off,none⟩→0<es.length→b≠gd∧b≠gs∧b≠X) (hq:q<n) (hn:n≤12) (hE:∀ x∈es,0≤x.1∧x.1<n∧0≤x.2.1∧x.2.1<n∧0≤x.2.2∧x.2.2≤50) (hel:es.length≤1000)
    (hG0:Good m d s e)
    (hG:∀ m d s e,Good m d s e→Bnd 2147483648 d∧Bnd 2147483648 s)
    (hG2:∀ m d s burnt,Good m d s 0→d.length=n→s.length=n→Burns n es q d burnt→(leftOf burnt).any id=true →
      0≤ybD es (leftOf burnt) d n∧ybD es (leftOf burnt) d n≤2147483648∧(∀ v,v<n→gb (leftOf burnt) v=true→0≤gi d v) ∧
      ∃ m',m'<m∧Good m' (ycA es (leftOf burnt) (ybD es (leftOf burnt) d n) d n) (ycL (leftOf burnt) (ybD es (leftOf burnt) d n) s n)
        (yg0 (ycA es (leftOf burnt) (ybD es (leftOf burnt) d n) d n) (ycL (leftOf burnt) (ybD es (leftOf burnt) d n) s n) 0 n)) :
    Calls Tryz.prog 68 #[.pointer (some ⟨X,0,none⟩)] w fun e' w'=>e' = .returned (.tuple #[])∧SettlePost Good X gd gs n A es cap cd cs q w w':=by
  refine yfq _ w (SettlePost Good X gd gs n A es cap cd cs q w) ?_
  unfold ycy
  have hE12:ydz es:=fun x hx=>by have:=hE x hx;omega
  refine ⟨fun m W=>∃ d s e,Good m d s e∧ye7 W X gd gs n A es cap cd cs q d s e∧Keeps (fun j=>j=gd∨j=gs∨j=X) w W,⟨m,d,s,e,hG0,hS,Keeps.refl _ _⟩,?_⟩
  clear hG0 hS
  rintro m w2 ⟨d,s,e,hg,hS2,K2⟩
  obtain ⟨hX2,hd2,hs2,hne,hdl,hsl⟩:=hS2
  refine ⟨e,hX2.at_ 5 rfl,fun he=>?_,fun he=>⟨m,d,s,e,hg,⟨hX2,hd2,hs2,hne,hdl,hsl⟩, .inl he,K2⟩⟩
  subst he
  have hes2:ydc w2 A es:=hes.keepL K2 (fun b off h h0=>by have:=heg b off h h0;omega)
  refine (yiu X gd gs n A es cap cd cs q d s 0 w2 ⟨hX2,hd2,hs2,hne,hdl,hsl⟩ hes2 hq hn hE hel).mono ?_
  rintro _ w3 ⟨gl,left,rfl,hgl,hl3,hll,hp3,burnt,b1,b2,b3,b4,b5⟩
  have hb:Burns n es q d burnt:=⟨b1,b3,b4,b5⟩
  have hlo:left=leftOf burnt:=b2
  refine ⟨_,_,_,_,rfl,fun g w4 hN=>⟨hN.row.wr_ 0 (by simp),fun w5 e5=>?_⟩⟩
  have ag:=hN.at_
  have sg:=hN.size
  have s3:=hp3.size
  have s2:=K2.size
  have far5:∀ {k':Nat} {e':TypeId} {sz:Nat} {xs:List Value},k'≠g→Row w4 k' e' sz xs→Row w5 k' e' sz xs:=fun hne' hr=>by
    rw [e5];exact hr.far (by simpa using hne') _
  have hg5:Row w5 g 168 1 [.slice (some ⟨gl,0,none⟩) n n]:=by rw [e5];exact hN.row.set_ 0 _
  have lgl:=Row.lt hl3
  have lX:=hX2.lt
  have ld:=Row.lt hd2
  have ls:=Row.lt hs2
  have hl5:BRow w5 gl 4 n left:=far5 (by omega) (hN.row_ hl3)
  have p35:Pure w2 w5:=by
    rw [e5];exact (hp3.trans (hN.keeps _)).setCell (fun h=>absurd h (by simp;omega)) _
  have hX5:=p35.row hX2 id
  have hd5:=p35.row hd2 id
  have hs5:=p35.row hs2 id
  have hes5:=hes2.keep p35
  have K5:=Pure.after K2 p35
  refine ⟨fun hany=>?_,fun hany=>?_⟩
  · rw [hlo] at hany
    obtain ⟨t0,t1,hd0,m',hm',hg'⟩:=hG2 m d s burnt hg hdl hsl hb hany
    rw [←hlo] at t0 t1 hd0 hg'
    obtain ⟨hbd,hbs⟩:=hG m d s 0 hg
    refine ⟨_,_,_,hg5.at_ 0 rfl,?_⟩
    refine ⟨fun mm times i w6=>∃ k:Nat,mm=n-k∧k≤n∧i=(k:Int)∧times=ybD es left d k∧Pure w5 w6,⟨n,0,rfl,Nat.zero_le _,rfl,rfl,Keeps.refl _ _⟩,?_⟩
    rintro mm times i w6 ⟨k,rfl,hk,rfl,rfl,p6⟩
    have hl6:=p6.row hl5 id
    refine ⟨fun hlt=>?_,fun hge=>?_⟩
    · have hkn:k<n:=by omega
      have ldk:=bld hl6 (i:=(k:Int)) (by omega) (by omega)
      simp only [Int.toNat_natCast] at ldk
      refine ⟨ybr (by omega) (by omega),gb left k,ldk,fun hb1=>?_,fun hb1=>?_⟩
      · have hg6:=p6.row hg5 id
        have hX6:=p6.row hX5 id
        refine (yiy X A es cap (k:Int) 114 #[.pointer (some ⟨g,0,none⟩)] (fun u=>!gb left u.toNat) w6 (Row.cell hX6 (i:=1) rfl) (hes5.keep p6) hE12 (fun x hx=>by have:=hE x hx;omega) (by omega) (by omega) hel enter_114 (fun u W hW hm=>?_)).mono ?_
        · obtain ⟨mu,hmu⟩:=hm
          have hr1:=yb4 hE hmu
          obtain ⟨un,rfl⟩:∃ un:Nat,u=(un:Int):=⟨u.toNat,by omega⟩
          simp only [Int.toNat_natCast]
          exact settle1_any g gl n n left un W (hW.row hg6 id) (hW.row hl6 id) hll (by omega)
        · rintro _ w7 ⟨rfl,p7⟩
          refine ⟨_,rfl,fun hpos=>?_,fun hpos=>?_⟩
          · have hX7:=p7.row hX6 id
            have hd7:=p7.row (p6.row hd5 id) id
            have ldd:=ild hd7 (i:=(k:Int)) (by omega) (by omega)
            simp only [Int.toNat_natCast] at ldd
            have h0:=hd0 k hkn hb1
            have hbk:=hbd k
            have hq1:(gi d k).tdiv (yaG es (k:Int) (fun u=>!gb left u.toNat))=gi d k / yaG es (k:Int) (fun u=>!gb left u.toNat):=Int.tdiv_eq_ediv_of_nonneg h0
            have hq2:0≤gi d k / yaG es (k:Int) (fun u=>!gb left u.toNat):=Int.ediv_nonneg h0 (by omega)
            have hq3:gi d k / yaG es (k:Int) (fun u=>!gb left u.toNat)≤gi d k:=Int.ediv_le_self _ h0
            have hstep:∀ t,ybD es left d (k+1)=t↔(if ybD es left d k=0∨(gi d k).tdiv (yaG es (k:Int) (fun u=>!gb left u.toNat))<ybD es left d k then (gi d k).tdiv (yaG es (k:Int) (fun u=>!gb left u.toNat)) else ybD es left d k)=t:=fun t=>by rw [ybD,if_pos ⟨hb1,hpos⟩]
            refine ⟨_,_,_,hX7.at_ 3 rfl,ybr (by omega) (by omega),_,ldd,by omega,by rw [hq1];exact in64 (by omega),fun ht=>?_,fun ht=>⟨fun hlt2=>?_,fun hlt2=>?_⟩⟩
            · exact ⟨in64 (by omega),n-(k+1),by omega,k+1,rfl,by omega,by omega,((hstep _).2 (if_pos (.inl ht))).symm,p6.trans p7⟩
            · exact ⟨in64 (by omega),n-(k+1),by omega,k+1,rfl,by omega,by omega,((hstep _).2 (if_pos (.inr hlt2))).symm,p6.trans p7⟩
            · exact ⟨in64 (by omega),n-(k+1),by omega,k+1,rfl,by omega,by omega,((hstep _).2 (if_neg (fun h=>h.elim ht hlt2))).symm,p6.trans p7⟩
          · exact ⟨in64 (by omega),n-(k+1),by omega,k+1,rfl,by omega,by omega,by rw [ybD,if_neg (fun h=>hpos h.2)],p6.trans p7⟩
      · exact ⟨in64 (by omega),n-(k+1),by omega,k+1,rfl,by omega,by omega,by rw [ybD,if_neg (fun h=>hb1 h.1)],p6⟩
    · obtain rfl:k=n:=by omega
      have K6:=Pure.after K5 p6
      have s5:w5.heap.size=w4.heap.size:=by rw [e5];simp [World.setCell]
      refine ⟨_,_,_,(p6.row hg5 id).at_ 0 rfl,?_⟩
      refine (fire_any X gd gs gl k k A es cap cd cs q d s 0 _ left w6 ⟨p6.row hX5 id,p6.row hd5 id,p6.row hs5 id,hne,hdl,hsl⟩ (hes5.keep p6) heg hl6 hll hn hE hel t0 t1 hbd hbs).mono ?_
      rintro _ w8 ⟨rfl,hS8,K8⟩
      exact ⟨rfl,m',hm',_,_,_,hg',hS8,K6.trans K8⟩
  · exact ⟨m,d,s,0,hg,⟨hX5,hd5,hs5,hne,hdl,hsl⟩, .inr ⟨burnt,hb,by rw [←hlo];simpa using hany⟩,K5⟩
end Go.Proofs.YtjepipbkiadcpaaGreat

/- The contracts of slices.Max and of lend: from the farthest vertices on, the nearer ones fire. What fires well is a premise (Good). -/
namespace Go.Proofs.YtjepipbkiadcpaaGreat
open Go Go.RowKit Go.Shelf Go.Proofs.Tryz
set_option maxRecDepth 100000
set_option maxHeartbeats 8000000
def yfA(l:List Int):Nat→Int
  | 0=>gi l 0
  | k+1=>mxF (yfA l k) (gi l k)
theorem yhW(l:List Int):∀ (k j:Nat),j<k→gi l j≤yfA l k
  | k+1,j,h=>by
    rw [yfA,mxF_eq]
    by_cases e:j=k
    · subst e;exact Int.le_max_right _ _
    · exact Int.le_trans (yhW l k j (by omega)) (Int.le_max_left _ _)
theorem yh9(l:List Int):∀ k,k≤l.length→0<l.length→∃ j,j<l.length∧yfA l k=gi l j
  | 0,_,h=>⟨0,h,rfl⟩
  | k+1,h,h0=>by
    obtain ⟨j,hj,e⟩:=yh9 l k (by omega) h0
    rw [yfA]
    unfold mxF
    split
    · exact ⟨k,by omega,rfl⟩
    · exact ⟨j,hj,e⟩
theorem max_any(A:Option Addr)(l:List Int)(c:Nat)(w:World)(hl:Ints w A l)(h0:0<l.length)(hn:l.length≤1000000) :
    Calls Tryz.prog 110 #[.slice A l.length c] w fun e w'=>∃ r,e = .returned (.int .i64 r)∧r=yfA l l.length∧Pure w w':=by
  refine ok_slices_Max_ A l.length c w (fun r w'=>r=yfA l l.length∧Pure w w') ?_
  unfold yeP
  refine ⟨fun w'=>w'=w,?_,fun h=>absurd h (by omega),fun _=>rfl⟩
  intro w2 hw2
  have hw2:=hw2.symm
  subst hw2
  refine ⟨ints_ix hl rfl (by omega) (by omega),_,ints_ld hl (by omega) (by omega),fun m v i w3=>∃ k:Nat,m=l.length-k∧1≤k∧k≤l.length∧i=(k:Int)∧v=yfA l k∧Pure w w3,⟨l.length-1,1,rfl,by omega,by omega,rfl,?_,Keeps.refl _ _⟩,?_⟩
  · rw [yfA,yfA,mxF_eq];simp
  · rintro m v i w3 ⟨k,rfl,hk1,hk2,rfl,rfl,hp⟩
    refine ⟨fun hlt=>?_,fun hge=>?_⟩
    · have:=ints_ld (hl.keep hp) (i:=(k:Int)) (by omega) (by omega)
      simp only [Int.toNat_natCast] at this
      exact ⟨ints_ix hl rfl (by omega) (by omega),_,this,in64 (by omega),l.length-(k+1),by omega,k+1,rfl,by omega,by omega,by omega,rfl,hp⟩
    · obtain rfl:k=l.length:=by omega
      exact ⟨rfl,hp⟩
def yaM(o:List Int)(k:Int):List Bool:=o.map fun x=>decide (x<k)
theorem yfg{o:List Int}{k:Int}{j:Nat}(h:j<o.length):gb (yaM o k) j=decide (gi o j<k):=by
  rw [yb2 (by simpa [yaM] using h),ybk h]
  simp [yaM]
def ybF(es:List E3)(o:List Int)(k:Int)(d:List Int):Nat→Int
  | 0=>0
  | j+1=>if gi o j=k∧gi d j<0 then mxF (ybF es o k d j) ((-gi d j+yaG es (j:Int) (fun u=>gb (yaM o k) u.toNat)-1).tdiv (yaG es (j:Int) (fun u=>gb (yaM o k) u.toNat))) else ybF es o k d j
theorem addF_pos{p:Int→Bool}{l:List (Int×Int)}(h:∀ q∈l,0≤q.2){x:Int×Int}(hx:x∈l)(hp:p x.1=true)(hx1:1≤x.2):1≤addF p l:=by
  suffices H:∀ (l:List (Int×Int)) (a:Int),(∀ q∈l,0≤q.2)→a≤l.foldl (fun n x=>if p x.1 then n+x.2 else n) a∧(x∈l→a+1≤l.foldl (fun n x=>if p x.1 then n+x.2 else n) a) by
    have:=(H l 0 h).2 hx
    unfold addF;omega
  intro l
  induction l with
  | nil=>intro a _;simp
  | cons y l ih =>
    intro a h
    have h1:=ih (if p y.1 then a+y.2 else a) (fun q hq=>h q (by simp [hq]))
    have hy:=h y (by simp)
    rw [List.foldl_cons]
    refine ⟨?_,fun hm=>?_⟩
    · split at h1 <;> rename_i hpy <;> simp only [hpy] at h1 ⊢ <;> simp at h1 ⊢ <;> omega
    · rcases List.mem_cons.1 hm with rfl | hm
      · rw [if_pos hp] at h1 ⊢;omega
      · have h2:=h1.2 hm
        split at h2 <;> rename_i hpy <;> simp only [hpy] at h2 ⊢ <;> simp at h2 ⊢ <;> omega
theorem near_pos{n:Nat}{es:List E3}{q:Nat}{o:List Int}(hD:Dist n es q o)(hE1:∀ x∈es,1≤x.2.2){v k:Nat}(hv:v<n)(hk:gi o v=(k:Int)+1):1≤yaG es (v:Int) (fun u=>gb (yaM o ((k:Int)+1)) u.toNat):=by
  obtain ⟨u,hu,⟨m,hm⟩,ho⟩:=hD.par v hv (by omega)
  have hpos:∀ p∈ycr es (v:Int),1≤p.2:=fun p hp=>by
    obtain ⟨x,hx,_,_,_,h4⟩:=(ybY (u:=p.1) (m:=p.2)).1 hp
    rw [h4];exact hE1 x hx
  refine addF_pos (fun p hp=>by have:=hpos p hp;omega) hm ?_ (hpos _ hm)
  simp only [Int.toNat_natCast]
  rw [yfg (by rw [hD.len];exact hu)]
  simp;omega
theorem lend1_any(B g n c:Nat)(l:List Bool)(u:Nat)(w:World)(hB:Row w B 168 1 [.slice (some ⟨g,0,none⟩) n c])(hg:BRow w g 4 c l)(hl:l.length=n)(hu:u<n) :
    Calls Tryz.prog 112 #[.int .i64 (u:Int), .pointer (some ⟨B,0,none⟩)] w fun e w'=>e = .returned (.bool (gb l u))∧w=w':=by
  refine (yfd (u:Int) ⟨B,0,none⟩ w (fun r w'=>r=gb l u∧w=w') ?_).mono ?_
  · unfold yct
    have:=bld hg (i:=(u:Int)) (by omega) (by omega)
    exact ⟨_,_,_,Row.cell hB (i:=0) rfl,ybr (by omega) (by omega),gb l u,by simpa using this,rfl,rfl⟩
  · rintro e w' ⟨r,rfl,rfl,rfl⟩;exact ⟨rfl,rfl⟩
def LendPost(Good:List Int→Nat→List Int→List Int→Int→Prop)(X gd gs n:Nat)(A:Option Addr)(es:List E3)(cap cd cs q:Nat)(w w':World):Prop :=
  ∃ o k d s e,Dist n es q o∧Good o k d s e∧ye7 w' X gd gs n A es cap cd cs q d s e∧(k=0∨e≠0)∧Keeps (fun j=>j=gd∨j=gs∨j=X) w w'
theorem lend_any(Good:List Int→Nat→List Int→List Int→Int→Prop)(X gd gs n:Nat)(A:Option Addr)(es:List E3)(cap cd cs q:Nat)(d s:List Int)(e:Int)(w:World)(hS:ye7 w X gd gs n A es cap cd cs q d s e)(hes:ydc w A es)
    (heg:∀ b off,A=some ⟨b,off,none⟩→0<es.length→b≠gd∧b≠gs∧b≠X) (hq:q<n) (hn:n≤12) (hE:∀ x∈es,0≤x.1∧x.1<n∧0≤x.2.1∧x.2.1<n∧0≤x.2.2∧x.2.2≤50) (hE1:∀ x∈es,1≤x.2.2) (hel:es.length≤1000)
    (hG0:∀ o,Dist n es q o→Good o (yfA o n).toNat d s e)
    (hG:∀ o k d s e,Good o k d s e→Bnd 2147483647 d∧Bnd 2147483648 s)
    (hG2:∀ o k d s,Dist n es q o→Good o (k+1) d s 0→d.length=n→s.length=n→ybF es o ((k:Int)+1) d n≤2147483648 ∧
      (0<ybF es o ((k:Int)+1) d n→Good o k (ycA es (yaM o ((k:Int)+1)) (ybF es o ((k:Int)+1) d n) d n) (ycL (yaM o ((k:Int)+1)) (ybF es o ((k:Int)+1) d n) s n)
        (yg0 (ycA es (yaM o ((k:Int)+1)) (ybF es o ((k:Int)+1) d n) d n) (ycL (yaM o ((k:Int)+1)) (ybF es o ((k:Int)+1) d n) s n) 0 n)) ∧
      (¬0<ybF es o ((k:Int)+1) d n→Good o k d s 0)) :
    Calls Tryz.prog 67 #[.pointer (some ⟨X,0,none⟩)] w fun e' w'=>e' = .returned (.tuple #[])∧LendPost Good X gd gs n A es cap cd cs q w w':=by
  refine yfW _ w (LendPost Good X gd gs n A es cap cd cs q w) ?_
  unfold ycS
  have hE12:ydz es:=fun x hx=>by have:=hE x hx;omega
  refine (distances_any X gd gs n A es cap cd cs q d s e w hS hes hq hn hE hel).mono ?_
  rintro _ w2 ⟨Ao,lo,co,rfl,go,o,rfl,hlo,hco,hgo,ho2,hD,p2⟩
  have hlo:=hlo.symm
  have hco:=hco.symm
  subst hlo
  subst hco
  have hol:=hD.len
  have hmx:=max_any (some ⟨go,0,none⟩) o n w2 (IRow.ints ho2) (by omega) (by omega)
  rw [hol] at hmx
  refine ⟨_,_,_,rfl,hmx.mono ?_⟩
  clear hmx
  rintro _ w3 ⟨r,rfl,hr,p3⟩
  have hr0:0≤r:=by
    have:=yhW o n q hq
    rw [hD.q0] at this;omega
  have hrn:r≤(n:Int)-1:=by
    obtain ⟨j,hj,hjr⟩:=yh9 o n (by omega) (by omega)
    rw [hr,hjr];exact hD.high j
  have hp3:Pure w w3:=p2.trans p3
  refine ⟨r,rfl,fun m i w4=>∃ k d s e,m=k∧i=(k:Int)∧k≤12∧Good o k d s e∧ye7 w4 X gd gs n A es cap cd cs q d s e∧Keeps (fun j=>j=gd∨j=gs∨j=X) w3 w4,⟨r.toNat,r.toNat,d,s,e,rfl,by omega,by omega,by rw [hr];exact hG0 o hD,⟨hp3.row hS.1 id,hp3.row hS.2.1 id,hp3.row hS.2.2.1 id,hS.2.2.2⟩,Keeps.refl _ _⟩,?_⟩
  have hS0:=hS
  clear hG0 hS
  have hes3:=hes.keep hp3
  have ho3:=p3.row ho2 id
  have lgo:=Row.lt ho3
  have lX0:=hS0.1.lt
  have ld0:=Row.lt hS0.2.1
  have ls0:=Row.lt hS0.2.2.1
  rintro m i w4 ⟨k,d,s,e,hmk,rfl,hk12,hg,hS4,K4⟩
  have hmk:=hmk.symm
  subst hmk
  have hX4:=hS4.1
  have hS4':=hS4
  obtain ⟨_,hd4,hs4,hne,hdl,hsl⟩:=hS4'
  refine ⟨fun w'=>w'=w4∧0<k∧e=0,?_,fun hpos=>⟨e,hX4.at_ 5 rfl,fun he=>⟨rfl,by omega,he⟩,fun he=>⟨o,k,d,s,e,hD,hg,hS4, .inr he,Pure.to hp3 |>.trans K4⟩⟩,fun hpos=>⟨o,k,d,s,e,hD,hg,hS4, .inl (by omega),Pure.to hp3 |>.trans K4⟩⟩
  rintro w5 ⟨hw5,hk0,he0⟩
  have hw5:=hw5.symm
  subst hw5
  subst he0
  obtain ⟨k,rfl⟩:∃ k',k=k'+1:=⟨k-1,by omega⟩
  have ho4:IRow w4 go 3 n o:=K4.row ho3 (by omega)
  obtain ⟨ht1,hgy,hgn⟩:=hG2 o k d s hD hg hdl hsl
  obtain ⟨hbd,hbs⟩:=hG o (k+1) d s 0 hg
  have hkc:((k+1:Nat):Int)=(k:Int)+1:=by omega
  rw [hkc]
  refine ⟨n,by rw [ygC,ycB];exact Row.cell hX4 (i:=0) rfl,by omega,fun g w6 hN g2 w7 hN2=>⟨hN2.row.wr_ 0 (by simp),fun w8 e8=>?_⟩⟩
  have a1:=hN.at_
  have s1:=hN.size
  have a2:=hN2.at_
  have s2:=hN2.size
  have s8:w8.heap.size=w7.heap.size:=by rw [e8];simp [World.setCell]
  have far8:∀ {k':Nat} {e':TypeId} {sz:Nat} {xs:List Value},k'≠g2→Row w7 k' e' sz xs→Row w8 k' e' sz xs:=fun hne' hr=>by
    rw [e8];exact hr.far (by simpa using hne') _
  have hg6:BRow w6 g 4 n (List.replicate n false):=by
    have:=hN.row
    simpa [BRow] using this
  have hg8:BRow w8 g 4 n (List.replicate n false):=far8 (by omega) (hN2.row_ hg6)
  have hv8:Row w8 g2 168 1 [.slice (some ⟨g,0,none⟩) n n]:=by rw [e8];simpa using hN2.row.set_ 0 (.slice (some ⟨g,0,none⟩) n n)
  have p8:Pure w4 w8:=by rw [e8];exact ((hN.keeps _).trans (hN2.keeps _)).setCell (fun h=>absurd h (by simp;omega)) _
  refine ⟨_,_,_,Row.cell hv8 (i:=0) rfl,?_⟩
  refine ⟨fun mm i2 w9=>∃ (j:Nat) (l:List Bool),mm=n-j∧j≤n∧i2=(j:Int)∧l.length=n∧(∀ x,x<j→gb l x=decide (gi o x<(k:Int)+1))∧BRow w9 g 4 n l∧Row w9 g2 168 1 [.slice (some ⟨g,0,none⟩) n n]∧Pure w4 w9,⟨n,0,_,rfl,by omega,rfl,by simp,fun x hx=>absurd hx (by omega),hg8,hv8,p8⟩,?_⟩
  rintro mm i2 w9 ⟨j,l,rfl,hj,rfl,hll,hlf,hg9,hv9,p9⟩
  refine ⟨fun hlt=>?_,fun hge=>?_⟩
  · have ho9:=(p9.row ho4 id).drew
    have ldo:=ild ho9 (i:=(j:Int)) (by omega) (by omega)
    simp only [Int.toNat_natCast] at ldo
    refine ⟨_,_,_,Row.cell hv9.drew (i:=0) rfl,ybr (by omega) (by omega),_,ldo,ybr (by omega) (by omega),bwr (Row.drew hg9) (by omega) (by omega),fun w10 e10=>⟨in64 (by omega),n-(j+1),by omega,j+1,l.set j (decide (gi o j<(k:Int)+1)),rfl,by omega,by omega,by simpa using hll,fun x hx=>?_,?_,?_,?_⟩⟩
    · rw [yeB (by omega)]
      split
      · rename_i hxe;rw [hxe]
      · exact hlf x (by omega)
    · rw [e10];simpa using bst (Row.drew hg9) (j:Int) (decide (gi o j<(k:Int)+1))
    · rw [e10];exact Row.far_ hv9.drew (by omega) _ _
    · rw [e10,ybK];exact p9.drew.setCell (fun h=>absurd h (by simp;omega)) _
  · obtain rfl:j=n:=by omega
    have hln:l=yaM o ((k:Int)+1):=gb_ext (by rw [hll];simp [yaM,hol]) (fun x hx=>by rw [hlf x (by omega),yfg (by omega)])
    subst hln
    refine ⟨fun mm t i4 w11=>∃ x:Nat,mm=j-x∧x≤j∧i4=(x:Int)∧t=ybF es o ((k:Int)+1) d x∧0≤t∧Pure w9 w11,⟨j,0,rfl,by omega,rfl,rfl,by omega,Keeps.refl _ _⟩,?_⟩
    rintro mm t i4 w11 ⟨x,rfl,hx,rfl,rfl,ht0,p11⟩
    have p411:=p9.trans p11
    have ho11:=p411.row ho4 id
    have hX11:=p411.row hX4 id
    have hd11:=p411.row hd4 id
    have hs11:=p411.row hs4 id
    have hes11:ydc w11 A es:=(hes3.keepL K4 (fun b off h h0=>by have:=heg b off h h0;omega)).keep p411
    refine ⟨fun hlt=>?_,fun hge=>?_⟩
    · have ldo:=ild ho11 (i:=(x:Int)) (by omega) (by omega)
      have ldd:=ild hd11 (i:=(x:Int)) (by omega) (by omega)
      simp only [Int.toNat_natCast] at ldo ldd
      refine ⟨ybr (by omega) (by omega),_,ldo,fun w'=>w'=w11∧gi o x=(k:Int)+1∧gi d x<0,?_,fun h1=>⟨_,_,_,hX11.at_ 3 rfl,ybr (by omega) (by omega),_,ldd,fun h2=>⟨rfl,h1,h2⟩,fun h2=>?_⟩,fun h1=>?_⟩
      · rintro w12 ⟨hw12,h1,h2⟩
        have hw12:=hw12.symm
        subst hw12
        have hv11:=p11.row hv9 id
        have hg11:=p11.row hg9 id
        refine (yiy X A es cap (x:Int) 112 #[.pointer (some ⟨g2,0,none⟩)] (fun u=>gb (yaM o ((k:Int)+1)) u.toNat) w11 (Row.cell hX11 (i:=1) rfl) hes11 hE12 (fun y hy=>by have:=hE y hy;omega) (by omega) (by omega) hel enter_112 (fun u W hW hm=>?_)).mono ?_
        · obtain ⟨mu,hmu⟩:=hm
          have hr1:=yb4 hE hmu
          obtain ⟨un,rfl⟩:∃ un:Nat,u=(un:Int):=⟨u.toNat,by omega⟩
          simp only [Int.toNat_natCast]
          exact lend1_any g2 g j j _ un W (hW.row hv11 id) (hW.row hg11 id) hll (by omega)
        · rintro _ w13 ⟨rfl,p13⟩
          have hX13:=p13.row hX11 id
          have hd13:=p13.row hd11 id
          have ldd13:=ild hd13 (i:=(x:Int)) (by omega) (by omega)
          simp only [Int.toNat_natCast] at ldd13
          have hpos:=near_pos hD hE1 (by omega:x<j) h1
          have hlkb:∀ p∈ycr es (x:Int),0≤p.2∧p.2≤50:=fun p hp=>by
            have:=yb4 hE (v:=(x:Int)) (u:=p.1) (m:=p.2) hp;omega
          have hjb:=(addF_bound (p:=fun u=>gb (yaM o ((k:Int)+1)) u.toNat) (ycr es (x:Int)) hlkb).2
          have hll2:(ycr es (x:Int)).length≤es.length:=List.length_filterMap_le _ _
          have hbx:=hbd x
          obtain ⟨J,hJ⟩:∃ J,J=yaG es (x:Int) (fun u=>gb (yaM o ((k:Int)+1)) u.toNat):=⟨_,rfl⟩
          have hjb':J≤50000:=by rw [hJ];unfold yaG;omega
          have hstep:ybF es o ((k:Int)+1) d (x+1)=mxF (ybF es o ((k:Int)+1) d x) ((-gi d x+J-1).tdiv J):=by rw [ybF,if_pos ⟨h1,h2⟩,hJ]
          rw [←hJ] at hpos ⊢
          have hq0:0 ≤ -gi d x+J-1:=by omega
          have hq1:(-gi d x+J-1).tdiv J=(-gi d x+J-1) / J:=Int.tdiv_eq_ediv_of_nonneg hq0
          have hq2:0≤(-gi d x+J-1) / J:=Int.ediv_nonneg hq0 (by omega)
          have hq3:(-gi d x+J-1) / J ≤ -gi d x+J-1:=Int.ediv_le_self _ hq0
          refine ⟨_,rfl,_,_,_,hX13.at_ 3 rfl,ybr (by omega) (by omega),_,ldd13,in64 (by omega),in64 (by omega),in64 (by omega),by omega,by rw [hq1];exact in64 (by omega),in64 (by omega),j-(x+1),by omega,x+1,rfl,by omega,by omega,hstep.symm,?_,p11.trans p13⟩
          rw [mxF_eq];omega
      · exact ⟨in64 (by omega),j-(x+1),by omega,x+1,rfl,by omega,by omega,by rw [ybF,if_neg (fun h=>h2 h.2)],ht0,p11⟩
      · exact ⟨in64 (by omega),j-(x+1),by omega,x+1,rfl,by omega,by omega,by rw [ybF,if_neg (fun h=>h1 h.1)],ht0,p11⟩
    · obtain rfl:x=j:=by omega
      have K11:Keeps (fun j=>j=gd∨j=gs∨j=X) w3 w11:=Pure.after K4 p411
      refine ⟨fun hpos=>?_,fun hpos=>?_⟩
      · refine ⟨_,_,_,Row.cell (p11.row hv9 id) (i:=0) rfl,?_⟩
        refine (fire_any X gd gs g x x A es cap cd cs q d s 0 _ (yaM o ((k:Int)+1)) w11 ⟨hX11,hd11,hs11,hne,hdl,hsl⟩ hes11 heg (p11.row hg9 id) hll hn hE hel ht0 ht1 (fun i=>by have:=hbd i;omega) hbs).mono ?_
        rintro _ w14 ⟨rfl,hS14,K14⟩
        exact ⟨rfl,in64 (by omega),k,by omega,k,_,_,_,rfl,by omega,by omega,hgy hpos,hS14,K11.trans K14⟩
      · exact ⟨in64 (by omega),k,by omega,k,d,s,0,rfl,by omega,by omega,hgn hpos,⟨hX11,hd11,hs11,hne,hdl,hsl⟩,K11⟩
end Go.Proofs.YtjepipbkiadcpaaGreat
