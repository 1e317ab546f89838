/- Texts laid together: Lg. -/
import Derived.Test.YtadpnlimiblniaaGreatK8
set_option linter.unusedVariables false
set_option linter.unusedSimpArgs false
set_option linter.unusedSectionVars false
/- Layer 40: the fixed examples; the laws that compare with the reference. -/
namespace Go.Proofs.YtadpnlimiblniaaGreat
open Go Go.RowKit Go.Shelf Go.Proofs.Tryz
def pth3:List E3:=[(0,1,1),(1,2,1)]
theorem pth_ok:GOk 3 pth3:=⟨by decide,by decide +kernel,by decide,by decide,by decide,by decide⟩
theorem eff3{e:List Int}(h:Eff 3 e 1):e=[0,0,1]∨e=[0,1,0]∨e=[1,0,0]:=by
  have:e∈ycp 3 1:=eff_list (n:=2) (k:=1) h
  have h2:ycp 3 1=[[0,0,1],[0,1,0],[1,0,0]]:=by decide
  rw [h2] at this
  simpa using this
theorem win3{es:List E3}{x:List Int}(s0 s1 s2:Int)(h:∀ v,v<3→0≤gi x v-Lp 3 es (fun i=>if i=0 then s0 else if i=1 then s1 else s2) v):Win 3 es x:=⟨_,h⟩
theorem gon_tri:GonOk 3 tri 2 [0,0,2]:=by
  have w01:W tri 0 1=1:=by decide
  have w02:W tri 0 2=1:=by decide
  have w12:W tri 1 2=1:=by decide
  refine ⟨by omega,⟨0,by decide,by decide,fun j hj=>by omega⟩,fun e he=>?_,fun k' h1 h2 y hy hal=>?_⟩
  · rcases eff3 he with rfl | rfl | rfl
    · exact win3 0 0 0 (by decide)
    · exact win3 0 0 1 (by decide)
    · exact win3 0 0 1 (by decide)
  · have e:k'=1:=by omega
    subst e
    have lose:∀ x:List Int,(gi x 0+gi x 1+gi x 2=0)→(gi x 1+2*gi x 2) % 3≠0→¬Win 3 tri x:=by
      rintro x h0 h1 ⟨s,hs⟩
      have a0:=hs 0 (by omega);have a1:=hs 1 (by omega);have a2:=hs 2 (by omega)
      simp only [Lp,sm] at a0 a1 a2
      rw [yhC,w01,w02] at a0
      rw [yhC,ye0 tri 1 0,w01,w12] at a1
      rw [yhC,ye0 tri 2 0,ye0 tri 2 1,w02,w12] at a2
      omega
    have u:∀ v,v<3→Eff 3 (yfw (List.replicate 3 0) v 1) 1:=fun v hv=>by
      have:=(yfe 3).add (v:=v) hv (k:=1) (by have:=(yfe 3).pos v hv;omega)
      rwa [Int.zero_add] at this
    have hy2:y∈[[0,0,1],[0,1,0],[1,0,0]]:=by
      have h2:ycp 3 1=[[0,0,1],[0,1,0],[1,0,0]]:=by decide
      rwa [←h2]
    simp only [List.mem_cons,List.not_mem_nil,or_false] at hy2
    rcases hy2 with rfl | rfl | rfl
    · exact lose _ (by decide) (by decide) (hal _ (u 0 (by omega)))
    · exact lose _ (by decide) (by decide) (hal _ (u 0 (by omega)))
    · exact lose _ (by decide) (by decide) (hal _ (u 1 (by omega)))
theorem gon_pth:GonOk 3 pth3 1 [0,0,1]:=by
  refine ⟨by omega,⟨0,by decide,by decide,fun j hj=>by omega⟩,fun e he=>?_,fun k' h1 h2=>by omega⟩
  rcases eff3 he with rfl | rfl | rfl
  · exact win3 0 0 0 (by decide)
  · exact win3 0 0 1 (by decide)
  · exact win3 0 1 2 (by decide)
theorem chk_tri:chkE 3 tri (ptsF 3)=0:=by decide +kernel
theorem chk_pth:chkE 3 pth3 (prsF pth3)=0:=by decide +kernel
theorem sep_tri:sepF 3 tri (ptsF 3)=(2,[0]):=by decide +kernel
theorem ord_tri:ordF 3 tri (ptsF 3)=2:=by decide +kernel
theorem hit_pth:hitF 3 (prsF pth3)=(1,[1]):=by decide +kernel
theorem j_tri:yaS 3 tri=0:=by decide +kernel
theorem j_pth:yaS 3 pth3=0:=by decide +kernel
theorem yhq{R:Bool→Prop}(h:R true):ycS R:=by
  unfold ycS ydQ
  have e:([(0,1,1),(0,2,1),(1,2,1)]:List (Int×Int×Int))=tri:=rfl
  have e2:([(0,1,1),(1,2,1)]:List (Int×Int×Int))=pth3:=rfl
  rw [e,e2]
  clear e e2
  refine yeY (by decide) (fun q=>absurd j_tri q) fun _=>⟨3,rfl,tri_ok,fun j d hd=>?_⟩
  obtain ⟨rfl,rfl⟩:=hd.eq gon_tri
  refine yih (by decide) ?_
  rw [show yj5 3 tri=ptsF 3 by unfold yj5;rw [if_pos j_tri];rfl,j_tri]
  refine yft (by decide) (fun q=>absurd chk_tri q) fun k hk _=>?_
  obtain rfl:k=3:=by omega
  rw [sep_tri]
  refine ygg (by decide) (fun q=>absurd chk_tri q) fun k hk _=>?_
  obtain rfl:k=3:=by omega
  rw [ord_tri]
  refine yeY (by decide) (fun q=>absurd j_pth q) fun _=>⟨3,rfl,pth_ok,fun j d hd=>?_⟩
  obtain ⟨rfl,rfl⟩:=hd.eq gon_pth
  refine yiJ (by decide) ?_
  rw [show pairE 3 pth3=prsF pth3 by unfold pairE;rw [if_pos j_pth],j_pth]
  refine ydJ (by decide) (fun q=>absurd chk_pth q) fun k hk _=>?_
  obtain rfl:k=3:=by omega
  rw [hit_pth]
  refine ⟨i64 (by omega),i64 (by omega),i64 (by omega),i64 (by omega),i64 (by omega),i64 (by omega),fun _=>⟨fun _=>?_,fun q=>absurd rfl q⟩,fun q=>absurd rfl q⟩
  refine ydW (by decide) ⟨fun _=>⟨fun _=>?_,fun q=>absurd rfl q⟩,fun q=>absurd (by decide) q⟩
  refine yeW (by decide) ⟨fun _=>⟨fun _=>⟨fun _=>?_,fun q=>absurd rfl q⟩,fun q=>absurd rfl q⟩,fun q=>absurd (by decide) q⟩
  refine ydW (by decide) ⟨fun _=>⟨fun _=>?_,fun q=>absurd rfl q⟩,fun q=>absurd (by decide) q⟩
  exact yeW (by decide) h
theorem small_getI{n:Int}{es:List E3}{a b:Int}(h:yi8 n es a b=true):es.length≤40∧(yav n es=0→n≤a∧(es.map (·.2.2)).sum≤b):=of_decide_eq_true h
theorem p_r40_Few{s:List (List Int)}{R:Bool→Prop}(h:∀ b,R b):ygV s R:=by
  refine ⟨fun m i=>∃ k:Nat,i=k∧k≤20∧m+k=20,⟨20,0,rfl,by omega,by omega⟩,?_⟩
  rintro m i ⟨k,rfl,hk,hm⟩
  have fin:((((s.length:Nat):Int)≤12→R true)∧(¬(((s.length:Nat):Int)≤12)→((256<((s.length:Nat):Int)→R (decide (((s.length:Nat):Int)<512)))∧(¬(256<((s.length:Nat):Int))→R false)))):=⟨fun _=>h _,fun _=>⟨fun _=>h _,fun _=>h _⟩⟩
  exact ⟨(k:Int)<((s.length:Nat):Int)∧k<20,fun hJ=>⟨⟨by omega,hJ.1⟩,fun _=>h _,fun _=>⟨⟨by omega,by omega⟩,m-1,by omega,k+1,by omega,by omega,by omega⟩⟩,fun hlt=>⟨fun h20=>⟨hlt,by omega⟩,fun _=>fin⟩,fun _=>fin⟩
theorem yhc{a b:List Int}{R:Bool→Prop}(hl:a.length≤1000000000)(h:R (decide (a=b))):ycP a b R:=by
  refine ⟨fun e=>⟨fun m i=>∃ k:Nat,i=k∧k+m=a.length∧∀ j,j<k→gi a j=gi b j,⟨a.length,0,rfl,by omega,fun j hj=>by omega⟩,?_⟩,fun e=>?_⟩
  · rintro m i ⟨k,rfl,hm,hk⟩
    refine ⟨fun hlt=>⟨⟨by omega,hlt⟩,⟨by omega,by omega⟩,fun c=>⟨⟨by omega,by omega⟩,m-1,by omega,k+1,by omega,by omega,fun j hj=>?_⟩,fun c=>?_⟩,fun hge=>?_⟩
    · rw [Int.toNat_natCast] at c
      by_cases q:j=k
      · rw [q];exact c
      · exact hk j (by omega)
    · rw [decide_eq_false (by rintro rfl;exact c rfl)] at h;exact h
    · rw [decide_eq_true (ygi (by omega) fun j hj=>hk j (by omega))] at h;exact h
  · rw [decide_eq_false (by rintro rfl;exact e rfl)] at h;exact h
theorem lst_len{n:Nat}{val:List Int→Int×Bool} : ∀ (l:List (List Int)) (b:Int×List Int),(∀ y∈l,y.length≤n)→b.2.length≤n→(lstF val l b).2.length≤n
  | [],b,_,hb=>hb
  | y::t,b,hl,hb=>by
    rw [lstF]
    refine lst_len t _ (fun z hz=>hl z (by simp [hz])) ?_
    split
    · exact hl y (by simp)
    · exact hb
theorem hit_len{n:Nat}{s:List (List Int)} : (hitF n s).2.length≤n:=lst_len _ _ (fun y hy=>(yjA hy).len) (by simp)
theorem sep_len{n:Nat}{es:List E3}{s:List (List Int)} : (sepF n es s).2.length≤n:=lst_len _ _ (fun y hy=>(yjA hy).len) (by simp)
section
variable {n : Int} {es : List E3} {s : List (List Int)} (hl : es.length ≤ 40) (h6 : yav n es = 0 → n ≤ 6)
include hl h6
theorem two_hit{R:Int→List Int→Int→Int→List Int→Int→Prop}(h:∀ a (l:List Int) e,l.length≤12→R a l e a l e):ybh n es s (fun a l e=>ydm n es s (fun b m f=>R a l e b m f)):=by
  refine ydJ hl (fun c=>yhA hl h6 (fun _=>h _ _ _ (by simp)) fun k hk hS=>absurd (by rw [hk];exact hS.chk) c) fun k hk hS=>yhA hl h6 (fun c=>absurd (by rw [hk];exact hS.chk) c) fun k' hk' _=>?_
  obtain rfl:k=k':=by omega
  exact h _ _ _ (by have:=hit_len (n:=k) (s:=s);have:=hS.n12;omega)
theorem two_sep{R:Int→List Int→Int→Int→List Int→Int→Prop}(h:∀ a (l:List Int) e,l.length≤12→R a l e a l e):ybO n es s (fun a l e=>yfA n es s (fun b m f=>R a l e b m f)):=by
  refine yft hl (fun c=>p_r40_Cut hl h6 (fun _=>h _ _ _ (by simp)) fun k hk hS=>absurd (by rw [hk];exact hS.chk) c) fun k hk hS=>p_r40_Cut hl h6 (fun c=>absurd (by rw [hk];exact hS.chk) c) fun k' hk' _=>?_
  obtain rfl:k=k':=by omega
  exact h _ _ _ (by have:=sep_len (n:=k) (es:=es) (s:=s);have:=hS.n12;omega)
theorem two_ord{R:Int→Int→Int→Int→Prop}(h:∀ a e,R a e a e):ybM n es s (fun a e=>yeb n es s (fun b f=>R a e b f)):=by
  refine ygg hl (fun c=>yjp hl h6 (fun _=>h _ _) fun k hk hS=>absurd (by rw [hk];exact hS.chk) c) fun k hk hS=>yjp hl h6 (fun c=>absurd (by rw [hk];exact hS.chk) c) fun k' hk' _=>?_
  obtain rfl:k=k':=by omega
  exact h _ _
end
theorem p_gonalityscrambles{n:Int}{es:List E3}{s:List (List Int)} : yci n es s (fun b=>b=true):=by
  refine ⟨yi8 n es 6 9=true,fun hs=>?_,p_r08_Few ⟨fun hs=>p_r40_Few fun b=>⟨fun _=>hs,fun _=>yhq rfl⟩,fun _=>yhq rfl⟩⟩
  obtain ⟨hl,h6⟩:=small_getI hs
  refine two_hit hl (fun q=>(h6 q).1) fun a l e hal=>two_sep hl (fun q=>(h6 q).1) fun c x i hxl=>two_ord hl (fun q=>(h6 q).1) fun o k=>yhq ⟨fun _=>?_,fun q=>absurd rfl q⟩
  refine yer hl (yf9 hl ⟨fun _=>⟨fun _=>?_,fun q=>absurd rfl q⟩,fun q=>absurd rfl q⟩)
  refine yhc (by omega) ⟨fun _=>⟨fun _=>⟨fun _=>?_,fun q=>absurd rfl q⟩,fun q=>absurd rfl q⟩,fun q=>absurd (decide_eq_true rfl) q⟩
  exact yhc (by omega) ⟨fun _=>⟨fun _=>⟨fun _=>decide_eq_true rfl,fun q=>absurd rfl q⟩,fun q=>absurd rfl q⟩,fun q=>absurd (decide_eq_true rfl) q⟩
end Go.Proofs.YtadpnlimiblniaaGreat
