/- Texts laid together: PCb, PCd, PFe, Mk, Gn, Co, Cp, Cq, Cs, Ct, Cu. -/
import Derived.Test.YtinoedockljfeaaK4
/- Pure forms of functions, made by program (pf.py), each with the proof that the code does so. -/
namespace Go.Proofs.Ytinoedockljfeaa
open Go Go.RowKit Go.Shelf Go.Proofs.Try
set_option linter.unusedVariables false
set_option maxRecDepth 100000
set_option maxHeartbeats 8000000
def ybd (n : Int) (R : (List (Int × Int)) → Prop) : Prop :=
(∃ J2 : Prop, (J2 → (In64 (((0 : Nat) : Int) - ((0 : Nat) : Int)) ∧
(In64 (n - (((0 : Nat) : Int) - ((0 : Nat) : Int))) ∧
((0 < (n - (((0 : Nat) : Int) - ((0 : Nat) : Int))) →
((0 ≤ ((0 : Nat) : Int) ∧ ((0 : Nat) : Int) ≤ ((0 : Nat) : Int)) ∧
((0 ≤ (n - (((0 : Nat) : Int) - ((0 : Nat) : Int))) ∧ ((([] : List (Int × Int)).length : Nat) : Int) + (n - (((0 : Nat) : Int) - ((0 : Nat) : Int))) ≤ 1000000000) ∧
((0 ≤ ((0 : Nat) : Int) ∧ ((0 : Nat) : Int) ≤ (((([] : List (Int × Int)) ++ List.replicate (n - (((0 : Nat) : Int) - ((0 : Nat) : Int))).toNat ((0 : Int), (0 : Int))).length : Nat) : Int)) ∧
R ((([] : List (Int × Int)) ++ List.replicate (n - (((0 : Nat) : Int) - ((0 : Nat) : Int))).toNat ((0 : Int), (0 : Int))).take ((0 : Nat) : Int).toNat))))) ∧
(¬ (0 < (n - (((0 : Nat) : Int) - ((0 : Nat) : Int)))) →
R ([])))))) ∧
((n < 0 →
False) ∧
(¬ (n < 0) →
J2)))
theorem ycO {O : Nat → Prop} {w : World} {n} {R : (List (Int × Int)) → Prop} (h : ybd n R) (hO : ∀ k, O k → k < w.heap.size) :
    Calls Try.prog 99 #[(.slice none 0 0), (ii n)] w fun e w' => ∃ r Ar lr cr, e = .returned (.slice Ar lr cr) ∧ Sep w no O w' (rl [Res.own c2 45 Ar lr cr r]) ∧ R r := by
  unfold ybd at h; have hS : Sep w no O w (rl []) := Sep.start w hO; refine yaq (l := [(.slice none 0 0), (ii n)]) func99 rfl ntmps99 (Nat.le_of_ble_eq_true rfl) (zs (zq (za (.slice none 0 0)) (yaa (yaf (zs (zq (zm (ii n)) (zq zL (yaa ?_)))))))); obtain ⟨J2, hJ, h⟩ := h; refine yeD (fun E ds w' => J2 ∧ ds = [] ∧ E 0 = (Value.slice none 0 0) ∧ E 1 = (ii n) ∧ Sep w no O w' (rl [])) ?_ ?_
  · clear h hS; rintro E ds w2 ⟨h, rfl, hE0, hE1, hS⟩; replace h := hJ h; refine yaf (zs (zq (yae hE1) (zq (yae hE0) (zq (v_cap rfl underlying46) (zq (yae hE0) (zq (v_len rfl underlying46) ?_)))))); obtain ⟨hi, h⟩ := h; refine zq (zS hi) ?_; obtain ⟨hi2, h⟩ := h; refine zq (zS hi2) (zq (za (ii (n - (((0 : Nat) : Int) - ((0 : Nat) : Int))))) (yaa (zs (zq (zm (ii (n - (((0 : Nat) : Int) - ((0 : Nat) : Int))))) (zq zG (yaa ?_)))))); by_cases hp : 0 < (n - (((0 : Nat) : Int) - ((0 : Nat) : Int)))
    · replace h := h.1 hp; refine zc hp (zr (zq (yae hE0) (zq (yae hE0) (zq (v_cap rfl underlying46) ?_)))); obtain ⟨hx, h⟩ := h; refine zq (v_sliceN rfl rfl underlying46 yal hx) (zq (zm (ii (n - (((0 : Nat) : Int) - ((0 : Nat) : Int))))) ?_); obtain ⟨hx2, h⟩ := h; replace hS := hS.nil 0 rfl c2 45; refine zn (n_appz (f := (fP (fI .i64) (fI .i64))) ((0 : Int), (0 : Int)) rfl rfl underlying46 underlying3 yal rfl rfl (by decide) rfl hS 0 rfl hx2 ?_); clear hS; intro A c w3 hS; refine zb (zq (yae hE0) (zq (v_len rfl underlying46) ?_)); obtain ⟨hx3, h⟩ := h; have hc := ygu (hS.rdo 0 rfl) hx3; replace hS := hS.cuti 0 rfl hx3; exact zq (ydi rfl rfl underlying46 yal hc) (zq (za (.slice A (((0 : Nat) : Int).toNat) c)) (yaa (zs (zq (zm (.slice A (((0 : Nat) : Int).toNat) c)) (zq (za (.slice A (((0 : Nat) : Int).toNat) c)) (yaa (yai rfl rfl ⟨_, _, _, _, rfl, (hS.sel [0] (by decide)), h⟩)))))))
    · replace h := h.2 hp; refine zd hp (yah (zs (zq (yae hE0) (zq (za (.slice none 0 0)) (yaa ?_))))); replace hS := hS.nil 0 rfl c2 45; exact yai rfl rfl ⟨_, _, _, _, rfl, (hS.sel [0] (by decide)), h⟩
  clear hJ; intro j; by_cases hp2 : n < 0
  · replace h := h.1 hp2; exact zc hp2 (zr h.elim)
  · replace h := h.2 hp2; exact zd hp2 (yah (j _ _ _ ⟨h, rfl, rfl, rfl, (hS.sel [] (by decide))⟩))
def ya2 (slices : List (List (Int × Int))) (R : (List (Int × Int)) → Prop) : Prop :=
(∃ I2 : Nat → Int → Int → Prop, (∃ m0, I2 m0 0 0) ∧ ∀ m2 size v, I2 m2 size v → 
((v < ((slices.length : Nat) : Int) →
((0 ≤ v ∧ v < ((slices.length : Nat) : Int)) ∧
(In64 (size + (((gx slices v.toNat).length : Nat) : Int)) ∧
(((size + (((gx slices v.toNat).length : Nat) : Int)) < 0 →
False) ∧
(¬ ((size + (((gx slices v.toNat).length : Nat) : Int)) < 0) →
(In64 (v + 1) ∧
∃ m3, m3 < m2 ∧ I2 m3 (size + (((gx slices v.toNat).length : Nat) : Int)) (v + 1))))))) ∧
(¬ (v < ((slices.length : Nat) : Int)) →
ybd size (fun r =>
(∃ I3 : Nat → (List (Int × Int)) → Int → Prop, (∃ m0, I3 m0 r 0) ∧ ∀ m4 newslice v2, I3 m4 newslice v2 → 
((v2 < ((slices.length : Nat) : Int) →
((0 ≤ v2 ∧ v2 < ((slices.length : Nat) : Int)) ∧
(newslice.length + (gx slices v2.toNat).length ≤ 1000000000 ∧
(In64 (v2 + 1) ∧
∃ m5, m5 < m4 ∧ I3 m5 (newslice ++ (gx slices v2.toNat)) (v2 + 1))))) ∧
(¬ (v2 < ((slices.length : Nat) : Int)) →
R newslice)))))))
theorem ycg {O : Nat → Prop} {w : World} {slices Aslices lslices cslices} {R : (List (Int × Int)) → Prop} (h : ya2 slices R) (hO : ∀ k, O k → k < w.heap.size) (hA0 : (FP.sl (cL c2) Aslices lslices cslices slices).P O w) :
    Calls Try.prog 70 #[(.slice Aslices lslices cslices)] w fun e w' => ∃ r2 Ar2 lr2 cr2, e = .returned (.slice Ar2 lr2 cr2) ∧ Sep w no O w' (rl [Res.own c2 45 Ar2 lr2 cr2 r2]) ∧ R r2 := by
  unfold ya2 at h; have hS : Sep w no O w (rl [Res.ro (FP.sl (cL c2) Aslices lslices cslices slices)]) := Sep.startl hO [(FP.sl (cL c2) Aslices lslices cslices slices)] ⟨hA0, trivial⟩; refine yaq (l := [(.slice Aslices lslices cslices)]) func70 rfl ntmps70 (Nat.le_of_ble_eq_true rfl) (zs (zq (za (.slice none 0 0)) (yaa (zs (zq (za (ii 0)) (yaa (yaf (zs (zq (zm (.slice Aslices lslices cslices)) (zq (yay (n := slices.length) rfl underlying116 (yav (hS.rdr 0 rfl))) (zq (zm (ii 0)) (yaa (yaj ?_))))))))))))); obtain ⟨I2, ⟨m0, h0⟩, hr⟩ := h; refine yaO (fun m E ds w' => ∃ size v, I2 m size v ∧ ds = [] ∧ E 0 = (Value.slice Aslices lslices cslices) ∧ E 3 = (ii size) ∧ E 9 = (Value.slice Aslices lslices cslices) ∧ E 10 = (ii ((slices.length : Nat) : Int)) ∧ E 11 = (ii v) ∧ Sep w no O w' (rl [Res.ro (FP.sl (cL c2) Aslices lslices cslices slices)])) m0 ⟨_, _, h0, rfl, rfl, rfl, rfl, rfl, rfl, (hS.sel [0] (by decide))⟩ ?_; clear h0 hS; rintro m2 E ds w2 ⟨size, v, h, rfl, hE0, hE3, hE9, hE10, hE11, hS⟩ again; replace h := hr m2 size v h; clear hr; refine zs (zq (ycI hE11 hE10) (yaa (yaf ?_))); by_cases hp : v < ((slices.length : Nat) : Int)
  · replace h := h.1 hp; refine zc hp (yah (yaf (yaj (zs ?_)))); obtain ⟨hx, h⟩ := h; refine zq (ycn hE9 hE11 underlying116 ycB (yaN (hS.rdr 0 rfl) hx)) ?_; obtain ⟨A, l, c, hc, hq⟩ := hS.el 0 rfl hx 1 2 rfl rfl (by decide); replace hS := hq; clear hq; refine zq (yaK (v := (.slice A l c)) rfl underlying46 rfl (hS.clr 2 rfl)) (zq (za (.slice A l c)) (yaa (zs (zq (yae hE3) (zq (zm (.slice A l c)) (zq (yay (n := (gx slices v.toNat).length) rfl underlying46 (yav (hS.rdr 1 rfl))) ?_)))))); obtain ⟨hi, h⟩ := h; refine zq (zA hi) (zq (za (ii (size + (((gx slices v.toNat).length : Nat) : Int)))) (yaa (zs (zq (zm (ii (size + (((gx slices v.toNat).length : Nat) : Int)))) (zq zL (yaa ?_)))))); by_cases hp2 : (size + (((gx slices v.toNat).length : Nat) : Int)) < 0
    · replace h := h.1 hp2; exact zc hp2 (zr h.elim)
    · replace h := h.2 hp2; refine zd hp2 (yah (yam (zr ?_))); obtain ⟨hi2, h⟩ := h; refine zq (ycv hE11 rfl hi2) (zq (zm (ii (v + 1))) (yaa ?_)); obtain ⟨mq, hlt, h⟩ := h; exact again mq _ _ _ ⟨_, _, h, rfl, hE0, rfl, hE9, hE10, rfl, (hS.sel [0] (by decide))⟩ hlt
  · replace h := h.2 hp; refine zd hp (yaL rfl (zs (zq (yae hE3) (zn (yak rfl (am2 rfl rfl) enter_99 ((ycO h (yaF _)).mono ?_)))))); rintro _ w3 ⟨r, Ar, lr, cr, rfl, hC, h⟩; replace hS := hS.call1 (hC.widen (ybv (yat (fP (fI .i64) (fI .i64)) _ _ _ _ _) ybE) hS.blt) 1 0 rfl; clear hC; refine ⟨_, rfl, ?_⟩; refine zb (zq (za (.slice Ar lr cr)) (yaa (yaf (zs (zq (yae hE0) (zq (yay (n := slices.length) rfl underlying116 (yav (hS.rdr 0 rfl))) (zq (zm (ii 0)) (yaa (yaj ?_))))))))); obtain ⟨I3, ⟨m0, h0⟩, hr⟩ := h; refine yaO (fun m E ds w' => ∃ newslice v2 Anewslice lnewslice cnewslice, I3 m newslice v2 ∧ ds = [] ∧ E 6 = (Value.slice Anewslice lnewslice cnewslice) ∧ E 25 = (Value.slice Aslices lslices cslices) ∧ E 26 = (ii ((slices.length : Nat) : Int)) ∧ E 27 = (ii v2) ∧ Sep w no O w' (rl [Res.own c2 45 Anewslice lnewslice cnewslice newslice, Res.ro (FP.sl (cL c2) Aslices lslices cslices slices)])) m0 ⟨_, _, _, _, _, h0, rfl, rfl, rfl, rfl, rfl, (hS.sel [1, 0] (by decide))⟩ ?_; clear h0 hS; rintro m4 E ds w4 ⟨newslice, v2, Anewslice, lnewslice, cnewslice, h, rfl, hE6, hE25, hE26, hE27, hS⟩ again2; replace h := hr m4 newslice v2 h; clear hr; refine zs (zq (ycI hE27 hE26) (yaa (yaf ?_))); by_cases hp3 : v2 < ((slices.length : Nat) : Int)
    · replace h := h.1 hp3; refine zc hp3 (yah (yaf (yaj (zs ?_)))); obtain ⟨hx2, h⟩ := h; refine zq (ycn hE25 hE27 underlying116 ycB (yaN (hS.rdr 1 rfl) hx2)) ?_; obtain ⟨A2, l2, c4, hc2, hq⟩ := hS.el 1 rfl hx2 2 3 rfl rfl (by decide); replace hS := hq; clear hq; refine zq (yaK (v := (.slice A2 l2 c4)) rfl underlying46 rfl (hS.clr 3 rfl)) (zq (za (.slice A2 l2 c4)) (yaa (zr (zq (yae hE6) (zq (zm (.slice A2 l2 c4)) ?_))))); obtain ⟨hx3, h⟩ := h; refine zn (ydC (c := c2) rfl rfl underlying46 underlying46 yal rfl rfl (by decide) hS 0 rfl (hS.yr 2 rfl) hx3 ?_); clear hS; intro A3 c5 w5 hS; refine zb (zq (za (.slice A3 (lnewslice + l2) c5)) (yaa (yam (zr ?_)))); obtain ⟨hi3, h⟩ := h; refine zq (ycv hE27 rfl hi3) (zq (zm (ii (v2 + 1))) (yaa ?_)); obtain ⟨mq, hlt, h⟩ := h; exact again2 mq _ _ _ ⟨_, _, _, _, _, h, rfl, rfl, hE25, hE26, rfl, (hS.sel [0, 1] (by decide))⟩ hlt
    · replace h := h.2 hp3; exact zd hp3 (yaL rfl (zs (zq (yae hE6) (zq (za (.slice Anewslice lnewslice cnewslice)) (yaa (yai rfl rfl ⟨_, _, _, _, rfl, (hS.sel [0] (by decide)), h⟩))))))
def ybJ (l : List (Int × Int)) (Ff : Int → Int → (Int → Int → Prop) → Prop) (R : (List (Int × Int)) → Prop) : Prop :=
(∃ I2 : Nat → (List (Int × Int)) → Int → Prop, (∃ m0, I2 m0 ([]) 0) ∧ ∀ m2 out v, I2 m2 out v → 
((v < ((l.length : Nat) : Int) →
((0 ≤ v ∧ v < ((l.length : Nat) : Int)) ∧
Ff ((gx l v.toNat).1) ((gx l v.toNat).2) (fun (r : Int) (r2 : Int) =>
(out.length + 1 ≤ 1000000000 ∧
(In64 (v + 1) ∧
∃ m3, m3 < m2 ∧ I2 m3 (out ++ [(r, r2)]) (v + 1)))))) ∧
(¬ (v < ((l.length : Nat) : Int)) →
R out)))
theorem ydh {O : Nat → Prop} {w : World} {l : List (Int × Int)} {Ff : Int → Int → (Int → Int → Prop) → Prop} {Al : Option Addr} {ll : Nat} {cl : Nat} {f : Value} {R : (List (Int × Int)) → Prop} (h : ybJ l Ff R) (hO : ∀ k, O k → k < w.heap.size) (hA0 : (FP.sl c2 Al ll cl l).P O w) (hA1 : (FP.st fun w' => ∃ (fid : Nat) (us : Array Value), f = Value.func (.func fid) #[] us ∧ Enters Try.prog fid ∧ ∀ (x0 : Int) (x02 : Int) (R : Int → Int → Prop), Ff x0 x02 R → Calls Try.prog fid (#[(Value.agg #[(Value.int .i64 x0), (Value.int .i64 x02)])] ++ us) w' fun e w'' => ∃ r0 : Int, ∃ r02 : Int, e = .returned (Value.agg #[(Value.int .i64 r0), (Value.int .i64 r02)]) ∧ Sep w' no no w'' (rl []) ∧ R r0 r02).P O w) :
    Calls Try.prog 90 #[(.slice Al ll cl), f] w fun e w' => ∃ r3 Ar lr cr, e = .returned (.slice Ar lr cr) ∧ Sep w no O w' (rl [Res.own c2 45 Ar lr cr r3]) ∧ R r3 := by
  unfold ybJ at h; have hS : Sep w no O w (rl [Res.ro (FP.sl c2 Al ll cl l), Res.ro (FP.st fun w' => ∃ (fid : Nat) (us : Array Value), f = Value.func (.func fid) #[] us ∧ Enters Try.prog fid ∧ ∀ (x0 : Int) (x02 : Int) (R : Int → Int → Prop), Ff x0 x02 R → Calls Try.prog fid (#[(Value.agg #[(Value.int .i64 x0), (Value.int .i64 x02)])] ++ us) w' fun e w'' => ∃ r0 : Int, ∃ r02 : Int, e = .returned (Value.agg #[(Value.int .i64 r0), (Value.int .i64 r02)]) ∧ Sep w' no no w'' (rl []) ∧ R r0 r02)]) := Sep.startl hO [(FP.sl c2 Al ll cl l), (FP.st fun w' => ∃ (fid : Nat) (us : Array Value), f = Value.func (.func fid) #[] us ∧ Enters Try.prog fid ∧ ∀ (x0 : Int) (x02 : Int) (R : Int → Int → Prop), Ff x0 x02 R → Calls Try.prog fid (#[(Value.agg #[(Value.int .i64 x0), (Value.int .i64 x02)])] ++ us) w' fun e w'' => ∃ r0 : Int, ∃ r02 : Int, e = .returned (Value.agg #[(Value.int .i64 r0), (Value.int .i64 r02)]) ∧ Sep w' no no w'' (rl []) ∧ R r0 r02)] ⟨hA0, hA1, trivial⟩; refine yaq (l := [(Value.slice Al ll cl), f]) func90 rfl ntmps90 (Nat.le_of_ble_eq_true rfl) ?_; refine yaf ?_; refine yas yar ?_; refine rl_q rfl rfl rfl (ybo (v := (.slice none 0 0)) rfl) ?_; refine yaa ?_; refine yaf ?_; refine yas yar ?_; refine rl_q rfl rfl rfl (ybo (v := (.slice none 0 0)) rfl) ?_; refine yaa ?_; refine yaf ?_; refine yaf ?_; refine yas yar ?_; refine rl_q rfl rfl rfl (yae (v := (.slice Al ll cl)) rfl) ?_; refine rl_q rfl rfl rfl (yay (n := l.length) rfl underlying46 (yav (hS.rdr 0 rfl))) ?_; refine rl_q rfl rfl rfl (yae (v := (.int .i64 0)) rfl) ?_; refine yaa ?_; refine yaj ?_; replace hS := hS.nil 2 rfl c2 45; obtain ⟨I2, ⟨m0, h0⟩, hr⟩ := h; refine yaO (fun m E ds w' => ∃ out : List (Int × Int), ∃ v : Int, ∃ Aout : Option Addr, ∃ lout : Nat, ∃ cout : Nat, I2 m out v ∧ ds = [] ∧ E 1 = f ∧ E 5 = (Value.slice Aout lout cout) ∧ E 8 = (Value.slice Al ll cl) ∧ E 9 = (Value.int .i64 ((l.length : Nat) : Int)) ∧ E 10 = (Value.int .i64 v) ∧ Sep w no O w' (rl [Res.own c2 45 Aout lout cout out, Res.ro (FP.st fun w' => ∃ (fid : Nat) (us : Array Value), f = Value.func (.func fid) #[] us ∧ Enters Try.prog fid ∧ ∀ (x0 : Int) (x02 : Int) (R : Int → Int → Prop), Ff x0 x02 R → Calls Try.prog fid (#[(Value.agg #[(Value.int .i64 x0), (Value.int .i64 x02)])] ++ us) w' fun e w'' => ∃ r0 : Int, ∃ r02 : Int, e = .returned (Value.agg #[(Value.int .i64 r0), (Value.int .i64 r02)]) ∧ Sep w' no no w'' (rl []) ∧ R r0 r02), Res.ro (FP.sl c2 Al ll cl l)])) m0 ⟨_, _, _, _, _, h0, rfl, rfl, rfl, rfl, rfl, rfl, (hS.sel [2, 1, 0] (by decide))⟩ ?_; clear h0 hS; rintro m2 E ds w2 ⟨out, v, Aout, lout, cout, h, rfl, hE1, hE5, hE8, hE9, hE10, hS⟩ again; replace h := hr m2 out v h; clear hr; refine yaf ?_; refine yas yar ?_; refine rl_q rfl rfl rfl (ycI hE10 hE9) ?_; refine yaa ?_; refine yaf ?_; by_cases hp : v < ((l.length : Nat) : Int)
  · replace h := h.1 hp; refine zc hp (yah (yaf (yaj (zs ?_)))); obtain ⟨hx, h⟩ := h; refine zq (ycn hE8 hE10 underlying46 yal (yaN (hS.rdr 2 rfl) hx)) (zq (yaz (vs := [(ii ((gx l v.toNat).1)), (ii ((gx l v.toNat).2))]) rfl underlying45 rfl yal (ydN (hS.rdr 2 rfl) hx (fun q => yaS q))) ?_); refine zn (ybg yal ?_); intro g w3 hN; replace hS : Sep w no O w3 (stl _ 3 (Res.box 45 g [(ii 0), (ii 0)])) := hS.new 3 rfl hN; clear hN; refine zb (zo (yaJ (b := g) (o := 0) (cells := #[(ii ((gx l v.toNat).1)), (ii ((gx l v.toNat).2))]) rfl rfl yal rfl rfl (yaC (hS.bx 3 rfl) (Nat.le_of_ble_eq_true rfl)) ?_)); intro w4 e1; replace hS := hS.bstn 3 rfl 0 [(ii ((gx l v.toNat).1)), (ii ((gx l v.toNat).2))] e1; clear e1; refine zb (yaa (zr (zq (yae hE5) (zq (yae hE1) (zq (yaz (vs := [(ii ((gx l v.toNat).1)), (ii ((gx l v.toNat).2))]) rfl underlying45 rfl yal ⟨Row.cell (hS.bx 3 rfl) (i := 0) rfl, Row.cell (hS.bx 3 rfl) (i := 1) rfl, trivial⟩) ?_))))); obtain ⟨fid, us, hf, he, hcl⟩ := hS.ro 1 rfl _ (Keeps.refl _ _); replace h := hcl _ _ _ h; clear hcl; refine zn (ycS (hf) (am1 rfl) he (h.mono ?_)); clear hf he; rintro _ w5 ⟨r, r2, rfl, hC, h⟩; replace hS := hS.pur hC.pure; clear hC; refine ⟨_, rfl, ?_⟩; refine zb (zn (yaU (l := [(0, (.agg #[(ii r), (ii r2)]))]) (cells := [(ii r), (ii r2)]) (bp1 rfl) underlying46 yal rfl rfl ?_)); intro g2 w6 hN; replace hS := hS.litf (n := 1) 4 rfl (fP (fI .i64) (fI .i64)) hN ([(r, r2)] : List (Int × Int)) rfl (by decide) rfl; clear hN; refine zb ?_; obtain ⟨hx2, h⟩ := h; refine zn (ydC (c := c2) rfl rfl underlying46 underlying46 yal rfl rfl (by decide) hS 0 rfl (hS.yo 4 rfl) hx2 ?_); clear hS; intro A c w7 hS; refine zb (zq (za (.slice A (lout + 1) c)) (yaa (yam (zr ?_)))); obtain ⟨hi, h⟩ := h; refine zq (ycv hE10 rfl hi) (zq (zm (ii (v + 1))) (yaa ?_)); obtain ⟨mq, hlt, h⟩ := h; exact again mq _ _ _ ⟨_, _, _, _, _, h, rfl, hE1, rfl, hE8, hE9, rfl, (hS.sel [0, 1, 2] (by decide))⟩ hlt
  · replace h := h.2 hp; exact zd hp (yaL rfl (zs (zq (yae hE5) (zq (za (.slice Aout lout cout)) (yaa (yai rfl rfl ⟨_, _, _, _, rfl, (hS.sel [0] (by decide)), h⟩))))))
def yce (x : Int) (x2 : Int) (Fcap : Int → (Int → Prop) → Prop) (R : Int → Int → Prop) : Prop :=
((0 ≤ (0 : Int) ∧ (0 : Int) < 2) ∧
((0 ≤ (1 : Int) ∧ (1 : Int) < 2) ∧
Fcap x (fun (r : Int) =>
Fcap x2 (fun (r2 : Int) =>
R (mnF r r2) (mxF r r2)))))
theorem ydW {O : Nat → Prop} {w : World} {x : Int} {x2 : Int} {Fcap : Int → (Int → Prop) → Prop} {gc : Nat} {cap : Value} {R : Int → Int → Prop} (h : yce x x2 Fcap R) (hO : ∀ k, O k → k < w.heap.size) (hA0 : (FP.bx 79 gc [cap]).P O w) (hA1 : (FP.st fun w' => ∃ (fid : Nat) (us : Array Value), cap = Value.func (.func fid) #[] us ∧ Enters Try.prog fid ∧ ∀ (x0 : Int) (R : Int → Prop), Fcap x0 R → Calls Try.prog fid (#[(Value.int .i64 x0)] ++ us) w' fun e w'' => ∃ r0 : Int, e = .returned (Value.int .i64 r0) ∧ Sep w' no no w'' (rl []) ∧ R r0).P O w) :
    Calls Try.prog 91 #[(.agg #[(ii x), (ii x2)]), (.pointer (some (⟨gc, 0, none⟩ : Addr)))] w fun e w' => ∃ r3 r4, e = .returned (.agg #[(ii r3), (ii r4)]) ∧ Sep w no O w' (rl []) ∧ R r3 r4 := by
  unfold yce at h; have hS : Sep w no O w (rl [Res.ro (FP.bx 79 gc [cap]), Res.ro (FP.st fun w' => ∃ (fid : Nat) (us : Array Value), cap = Value.func (.func fid) #[] us ∧ Enters Try.prog fid ∧ ∀ (x0 : Int) (R : Int → Prop), Fcap x0 R → Calls Try.prog fid (#[(Value.int .i64 x0)] ++ us) w' fun e w'' => ∃ r0 : Int, e = .returned (Value.int .i64 r0) ∧ Sep w' no no w'' (rl []) ∧ R r0)]) := Sep.startl hO [(FP.bx 79 gc [cap]), (FP.st fun w' => ∃ (fid : Nat) (us : Array Value), cap = Value.func (.func fid) #[] us ∧ Enters Try.prog fid ∧ ∀ (x0 : Int) (R : Int → Prop), Fcap x0 R → Calls Try.prog fid (#[(Value.int .i64 x0)] ++ us) w' fun e w'' => ∃ r0 : Int, e = .returned (Value.int .i64 r0) ∧ Sep w' no no w'' (rl []) ∧ R r0)] ⟨hA0, hA1, trivial⟩; refine yaq (l := [(Value.agg #[(Value.int .i64 x), (Value.int .i64 x2)]), (Value.pointer (some (⟨gc, 0, none⟩ : Addr)))]) func91 rfl ntmps91 (Nat.le_of_ble_eq_true rfl) ?_; refine yaf ?_; refine yas yar ?_; refine rl_n rfl rfl rfl rfl (yb5 (v := (.agg #[(.int .i64 x), (.int .i64 x2)])) rfl ?_); intro g w2 hN; replace hS : Sep w no O w2 (stl _ 2 (Res.box 45 g [(Value.int .i64 x), (Value.int .i64 x2)])) := hS.new 2 rfl hN; clear hN; refine ⟨Stb.none _, ?_⟩; refine rl_n rfl rfl rfl rfl (ybg yal ?_); intro g2 w3 hN; replace hS : Sep w no O w3 (stl _ 3 (Res.box 45 g2 [(Value.int .i64 0), (Value.int .i64 0)])) := hS.new 3 rfl hN; clear hN; refine ⟨Stb.none _, ?_⟩; refine yaa ?_; refine yaf ?_; refine ybH [0, 1, 2, 4, 5, 6, 3, 7, 8, 9] (fun i => match i with | 3 => [4, 5, 6] | _ => []) yar (by kernel_rfl) (by kernel_rfl) ?_; replace hS := hS.drew; refine rp_q rfl rfl rfl (yaK rfl underlying79 rfl (Row.cell (hS.bxr 0 rfl) (i := 0) rfl)) ?_; obtain ⟨hx, h⟩ := h; refine rp_q rfl rfl rfl (yaA rfl rfl underlying45 yag hx) ?_; refine rp_q rfl rfl rfl (yaK rfl underlying3 rfl (Row.cell (hS.bx 2 rfl) (i := 0) rfl)) ?_; refine rp_q rfl rfl rfl (yaK rfl underlying79 rfl (Row.cell (hS.bxr 0 rfl) (i := 0) rfl)) ?_; obtain ⟨hx2, h⟩ := h; refine rp_q rfl rfl rfl (yaA rfl rfl underlying45 yag hx2) ?_; refine rp_q rfl rfl rfl (yaK rfl underlying3 rfl (Row.cell (hS.bx 2 rfl) (i := 1) rfl)) ?_; obtain ⟨fid, us, hf, he, hcl⟩ := hS.ro 1 rfl _ (Keeps.refl _ _); replace h := hcl _ _ h; clear hcl; refine rp_n rfl rfl rfl rfl (ycS (hf) (am1 rfl) he (h.mono ?_)); clear hf he; rintro _ w4 ⟨r, rfl, hC, h⟩; replace hS := hS.pur hC.pure; clear hC; refine ⟨_, rfl, ?_⟩; refine ⟨⟨fun _ => (yaK rfl underlying3 rfl (Row.cell (hS.bx 2 rfl) (i := 1) rfl)), ⟨fun _ => (yaA rfl rfl underlying45 yag hx2), ⟨fun _ => (yaK rfl underlying79 rfl (Row.cell (hS.bxr 0 rfl) (i := 0) rfl)), ⟨fun hh => Bool.noConfusion (show false = true from hh), ⟨fun hh => Bool.noConfusion (show false = true from hh), ⟨fun hh => Bool.noConfusion (show false = true from hh), trivial⟩⟩⟩⟩⟩⟩, ?_⟩; obtain ⟨fid, us, hf, he, hcl⟩ := hS.ro 1 rfl _ (Keeps.refl _ _); replace h := hcl _ _ h; clear hcl; refine rp_n rfl rfl rfl rfl (ycS (hf) (am1 rfl) he (h.mono ?_)); clear hf he; rintro _ w5 ⟨r2, rfl, hC, h⟩; replace hS := hS.pur hC.pure; clear hC; refine ⟨_, rfl, ?_⟩; refine ⟨Stb.none _, ?_⟩; refine rp_q rfl rfl rfl (ybo (v := (.int .i64 r)) rfl) ?_; refine rp_q rfl rfl rfl (ybo (v := (.int .i64 r2)) rfl) ?_; refine ybk ?_; refine yaf ?_; refine yas yar ?_; refine rl_q rfl rfl rfl (yae (v := (.int .i64 r)) rfl) ?_; refine rl_q rfl rfl rfl (yae (v := (.int .i64 r2)) rfl) ?_; refine rl_q rfl rfl rfl (v_min2 rfl rfl) ?_; refine rl_q rfl rfl rfl (yae (v := (.int .i64 r)) rfl) ?_; refine rl_q rfl rfl rfl (yae (v := (.int .i64 r2)) rfl) ?_; refine rl_q rfl rfl rfl (yeR rfl rfl) ?_; refine rl_n rfl rfl rfl rfl (yb9 (l := [(0, (.int .i64 (mnF r r2))), (1, (.int .i64 (mxF r r2)))]) (cells := [(.int .i64 (mnF r r2)), (.int .i64 (mxF r r2))]) (bp2 rfl rfl) underlying45 yal yag (by kernel_rfl) ?_); refine ⟨Stb.none _, ?_⟩; refine rl_n0 rfl rfl rfl (yaJ (b := g2) (o := 0) (cells := #[(.int .i64 (mnF r r2)), (.int .i64 (mxF r r2))]) rfl rfl yal rfl rfl (yaC (hS.bx 3 rfl) (Nat.le_of_ble_eq_true rfl)) ?_); intro w6 e1; replace hS := hS.bstn 3 rfl 0 [(Value.int .i64 (mnF r r2)), (Value.int .i64 (mxF r r2))] e1; clear e1; refine ⟨Stb.none _, ?_⟩; refine yaa ?_; exact yeG rfl (rv_n (vs := [(Value.int .i64 (mnF r r2)), (Value.int .i64 (mxF r r2))]) rfl underlying45 rfl yal ⟨Row.cell (hS.bx 3 rfl) (i := 0) rfl, Row.cell (hS.bx 3 rfl) (i := 1) rfl, trivial⟩) ⟨_, _, rfl, (hS.sel [] (by decide)), h⟩
def ybm (ends : List (Int × Int)) (Fto : Int → (Int → Prop) → Prop) (R : (List (Int × Int)) → Prop) : Prop :=
ybJ ends (fun x x2 R => yce x x2 Fto R) (fun r =>
R r)
theorem ybG {O : Nat → Prop} {w : World} {ends : List (Int × Int)} {Fto : Int → (Int → Prop) → Prop} {Aends : Option Addr} {lends : Nat} {cends : Nat} {to : Value} {R : (List (Int × Int)) → Prop} (h : ybm ends Fto R) (hO : ∀ k, O k → k < w.heap.size) (hA0 : (FP.sl c2 Aends lends cends ends).P O w) (hA1 : (FP.st fun w' => ∃ (fid : Nat) (us : Array Value), to = Value.func (.func fid) #[] us ∧ Enters Try.prog fid ∧ ∀ (x0 : Int) (R : Int → Prop), Fto x0 R → Calls Try.prog fid (#[(Value.int .i64 x0)] ++ us) w' fun e w'' => ∃ r0 : Int, e = .returned (Value.int .i64 r0) ∧ Sep w' no no w'' (rl []) ∧ R r0).P O w) :
    Calls Try.prog 56 #[(.slice Aends lends cends), to] w fun e w' => ∃ r2 Ar2 lr2 cr2, e = .returned (.slice Ar2 lr2 cr2) ∧ Sep w no O w' (rl [Res.own c2 45 Ar2 lr2 cr2 r2]) ∧ R r2 := by
  unfold ybm at h; have hS : Sep w no O w (rl [Res.ro (FP.sl c2 Aends lends cends ends), Res.ro (FP.st fun w' => ∃ (fid : Nat) (us : Array Value), to = Value.func (.func fid) #[] us ∧ Enters Try.prog fid ∧ ∀ (x0 : Int) (R : Int → Prop), Fto x0 R → Calls Try.prog fid (#[(Value.int .i64 x0)] ++ us) w' fun e w'' => ∃ r0 : Int, e = .returned (Value.int .i64 r0) ∧ Sep w' no no w'' (rl []) ∧ R r0)]) := Sep.startl hO [(FP.sl c2 Aends lends cends ends), (FP.st fun w' => ∃ (fid : Nat) (us : Array Value), to = Value.func (.func fid) #[] us ∧ Enters Try.prog fid ∧ ∀ (x0 : Int) (R : Int → Prop), Fto x0 R → Calls Try.prog fid (#[(Value.int .i64 x0)] ++ us) w' fun e w'' => ∃ r0 : Int, e = .returned (Value.int .i64 r0) ∧ Sep w' no no w'' (rl []) ∧ R r0)] ⟨hA0, hA1, trivial⟩; refine yaq (l := [(Value.slice Aends lends cends), to]) func56 rfl ntmps56 (Nat.le_of_ble_eq_true rfl) ?_; refine yaf ?_; refine yas yar ?_; refine rl_n rfl rfl rfl rfl (yb5 (v := to) rfl ?_); intro g w2 hN; obtain ⟨_, _, hf_, _⟩ := hS.ro 1 rfl _ (Keeps.refl _ _); rw [show to.cells = #[to] by rw [hf_]; rfl] at hN; clear hf_; replace hS : Sep w no O w2 (stl _ 2 (Res.box 79 g [to])) := hS.new 2 rfl hN; clear hN; refine ⟨Stb.none _, ?_⟩; refine rl_q rfl rfl rfl (ybo (v := (.slice none 0 0)) rfl) ?_; refine yaa ?_; refine yaf ?_; refine yas yar ?_; refine rl_q rfl rfl rfl (yae (v := (.slice Aends lends cends)) rfl) ?_; refine rl_q rfl rfl rfl (yhX (am0) (am1 rfl)) ?_; replace hS := hS.frzb 2 rfl; refine rl_n rfl rfl rfl rfl (yak rfl (am2 rfl rfl) enter_90 ((ydh h (yaF _) (hS.rdr 0 rfl) (fun w' hk => ⟨91, #[(.pointer (some (⟨g, 0, none⟩ : Addr)))], rfl, enter_91, fun x x2 R hF => yaT (by simp) (ydW hF (yaF _) (FP.sub _ (FP.keep _ (FP.sub _ (hS.ro 2 rfl) (fun _ _ h => h.elim) : FP.P _ no _) hk) fun _ _ h => h.elim) (FP.sub _ (FP.keep _ (FP.sub _ (hS.ro 1 rfl) (fun _ _ h => h.elim) : FP.P _ no _) hk) fun _ _ h => h.elim))⟩)).mono ?_)); rintro _ w3 ⟨r, Ar, lr, cr, rfl, hC, h⟩; replace hS := hS.call1 (hC.widen (ybv (yat (fP (fI .i64) (fI .i64)) _ _ _ _ _) ybE) hS.blt) 3 0 rfl; clear hC; refine ⟨_, rfl, ?_⟩; refine ⟨Stb.none _, ?_⟩; refine rl_q rfl rfl rfl (ybo (v := (.slice Ar lr cr)) rfl) ?_; refine yaa ?_; exact yai rfl rfl ⟨_, _, _, _, rfl, (hS.sel [3] (by decide)), h⟩
def yfY (g : Int) (g2 : List E3) (e2 : Int) (R : Int → (List E3) → Int → Prop) : Prop :=
ya9 g g2 e2 (fun r r2 =>
((r2 = 0 →
((0 ≤ e2 ∧ e2 ≤ ((r.length : Nat) : Int)) ∧
(In64 (e2 + 1) ∧
((0 ≤ (e2 + 1) ∧ (e2 + 1) ≤ ((r.length : Nat) : Int)) ∧
ya2 ([(r.take e2.toNat), (r.drop (e2 + 1).toNat)]) (fun r3 =>
ybB g r3 (fun r4 r5 r6 =>
R r4 r5 r6)))))) ∧
(¬ (r2 = 0) →
R 0 ([]) r2)))
theorem ygj {O : Nat → Prop} {w : World} {g g2 e2 Ag lg cg} {R : Int → (List E3) → Int → Prop} (h : yfY g g2 e2 R) (hO : ∀ k, O k → k < w.heap.size) (hA0 : (FP.sl c3 Ag lg cg g2).P O w) :
    Calls Try.prog 20 #[(.agg #[(ii g), (.slice Ag lg cg)]), (ii e2)] w fun e w' => ∃ r7 r8 r9 Ar4 lr4 cr4, e = .returned (.tuple #[(.agg #[(ii r7), (.slice Ar4 lr4 cr4)]), (ii r9)]) ∧ Sep w no O w' (rl [Res.own c3 75 Ar4 lr4 cr4 r8]) ∧ R r7 r8 r9 := by
  unfold yfY at h; have hS : Sep w no O w (rl [Res.ro (FP.sl c3 Ag lg cg g2)]) := Sep.startl hO [(FP.sl c3 Ag lg cg g2)] ⟨hA0, trivial⟩; refine yaq (l := [(.agg #[(ii g), (.slice Ag lg cg)]), (ii e2)]) func20 rfl ntmps20 (Nat.le_of_ble_eq_true rfl) (zs (zn (yb5 (v := (.agg #[(ii g), (.slice Ag lg cg)])) rfl ?_))); intro g3 w2 hN; replace hS : Sep w no O w2 (stl _ 1 (Res.box 24 g3 [(ii g), (.slice Ag lg cg)])) := hS.new 1 rfl hN; clear hN; refine zb (zn (ybg yan ?_)); intro g4 w3 hN; replace hS : Sep w no O w3 (stl _ 2 (Res.box 24 g4 [(ii 0), (.slice none 0 0)])) := hS.new 2 rfl hN; clear hN; refine zb (zq (za (ii 0)) (yaa (zs (zq (yaz (vs := [(ii g), (.slice Ag lg cg)]) rfl underlying24 rfl yan ⟨Row.cell (hS.bx 1 rfl) (i := 0) rfl, Row.cell (hS.bx 1 rfl) (i := 1) rfl, trivial⟩) (zq (zm (ii e2)) (zn (yak rfl (am2 rfl rfl) yeI ((ybK h (yaF _) (hS.rdr 0 rfl)).mono ?_)))))))); rintro _ w4 ⟨r, r2, Ar, lr, cr, rfl, hC, h⟩; replace hS := hS.call1 (hC.widen (ybv (yat (fP (fI .i64) (fI .i64)) _ _ _ _ _) ybE) hS.blt) 3 0 rfl; clear hC; refine ⟨_, rfl, ?_⟩; refine zb (zq (zm (.tuple #[(.slice Ar lr cr), (ii r2)])) (zq (zx (.slice Ar lr cr)) (zq (zx (ii r2)) (zq (za (.slice Ar lr cr)) (zq (za (ii r2)) (yaa (yaf (zs (zq (zm (ii r2)) (zq zN (yaa ?_))))))))))); by_cases hp : r2 = 0
  · replace h := h.1 hp; refine ze hp (yah (yaf (ybH [0, 1, 2, 3, 4, 5, 6, 7, 8, 9, 10, 11, 12, 13, 14, 15] (fun i => match i with | 9 => [0, 1] | 10 => [0, 1] | _ => []) yar (by kernel_rfl) (by kernel_rfl) ?_))); replace hS := hS.drew; refine zp (yao rfl underlying24 rfl yag) (zp (zl underlying3 (Row.cell (hS.bx 1 rfl) (i := 0) rfl)) (zp (zm (.slice Ar lr cr)) (zp (zm (ii e2)) ?_))); obtain ⟨hx, h⟩ := h; replace hS := hS.frz 3 rfl; replace hS := hS.addro 4 rfl _ (sl_take (hS.ro 3 rfl) hx); refine zp (ydi rfl rfl underlying46 yal (ygu (hS.rdr 3 rfl) hx)) (zp (zm (.slice Ar lr cr)) (zp (zm (ii e2)) ?_)); obtain ⟨hi, h⟩ := h; refine zp (zA hi) ?_; obtain ⟨hx2, h⟩ := h; replace hS := hS.addro 5 rfl _ (sl_drop (hS.ro 3 rfl) hx2); refine zp (yd3 rfl rfl underlying46 yal (by rw [yav (hS.rdr 3 rfl)]; exact hx2)) (rp_n rfl rfl rfl rfl (yaU (l := [(0, (.slice Ar (e2.toNat) cr)), (1, (.slice (slA Ar cr (e2 + 1).toNat 2) (lr - (e2 + 1).toNat) (cr - (e2 + 1).toNat)))]) (cells := [(.slice Ar (e2.toNat) cr), (.slice (slA Ar cr (e2 + 1).toNat 2) (lr - (e2 + 1).toNat) (cr - (e2 + 1).toNat))]) (bp2 rfl rfl) underlying116 ycB rfl rfl ?_)); intro g5 w5 hN; replace hS := hS.lit (n := 2) (c := (cL c2)) 6 rfl hN ([(r.take e2.toNat), (r.drop (e2 + 1).toNat)] : List (List (Int × Int))) rfl (by decide) ⟨[(.slice Ar (e2.toNat) cr)], _, rfl, (ro_R (hS.ro 4 rfl)), ⟨[(.slice (slA Ar cr (e2 + 1).toNat 2) (lr - (e2 + 1).toNat) (cr - (e2 + 1).toNat))], _, rfl, (ro_R (hS.ro 5 rfl)), rfl⟩⟩; clear hN; refine ⟨⟨fun hh => Bool.noConfusion (show false = true from hh), ⟨fun hh => Bool.noConfusion (show false = true from hh), ⟨fun hh => Bool.noConfusion (show false = true from hh), ⟨fun hh => Bool.noConfusion (show false = true from hh), ⟨fun hh => Bool.noConfusion (show false = true from hh), ⟨fun hh => Bool.noConfusion (show false = true from hh), ⟨fun hh => Bool.noConfusion (show false = true from hh), ⟨fun _ => (zl underlying3 (Row.cell (hS.bx 1 rfl) (i := 0) rfl)), ⟨fun _ => (yao rfl underlying24 rfl yag), trivial⟩⟩⟩⟩⟩⟩⟩⟩⟩, ?_⟩; refine rp_n rfl rfl rfl rfl (yak rfl (am1 rfl) enter_70 ((ycg h (yaF _) (hS.rdo 6 rfl)).mono ?_)); rintro _ w6 ⟨r3, Ar2, lr2, cr2, rfl, hC, h⟩; replace hS := hS.call1 (hC.widen (ybv (yat (fP (fI .i64) (fI .i64)) _ _ _ _ _) ybE) hS.blt) 7 0 rfl; clear hC; refine ⟨_, rfl, ?_⟩; refine ⟨⟨fun hh => Bool.noConfusion (show false = true from hh), ⟨fun hh => Bool.noConfusion (show false = true from hh), ⟨fun hh => Bool.noConfusion (show false = true from hh), ⟨fun hh => Bool.noConfusion (show false = true from hh), ⟨fun hh => Bool.noConfusion (show false = true from hh), ⟨fun hh => Bool.noConfusion (show false = true from hh), ⟨fun hh => Bool.noConfusion (show false = true from hh), ⟨fun _ => (zl underlying3 (Row.cell (hS.bx 1 rfl) (i := 0) rfl)), ⟨fun _ => (yao rfl underlying24 rfl yag), trivial⟩⟩⟩⟩⟩⟩⟩⟩⟩, ?_⟩; refine rp_n rfl rfl rfl rfl (yak rfl (am2 rfl rfl) ygo ((yc5 h (yaF _) (hS.rdo 7 rfl)).mono ?_)); rintro _ w7 ⟨r4, r5, r6, Ar3, lr3, cr3, rfl, hC, h⟩; replace hS := hS.call1 (hC.widen (ybv (yat (fP (fI .i64) (fP (fI .i64) (fI .i64))) _ _ _ _ _) ybE) hS.blt) 8 0 rfl; clear hC; refine ⟨_, rfl, ?_⟩; refine zb (zp (zx (.agg #[(ii r4), (.slice Ar3 lr3 cr3)])) (zp (zx (ii r6)) (ygr rfl rfl rfl (yaJ (b := g4) (o := 0) (cells := #[(ii r4), (.slice Ar3 lr3 cr3)]) rfl rfl yan rfl rfl (yaC (hS.bx 2 rfl) (Nat.le_of_ble_eq_true rfl)) ?_)))); intro w8 e1; replace hS := hS.bstn 2 rfl 0 [(ii r4), (.slice Ar3 lr3 cr3)] e1; clear e1; exact zb (zp (za (ii r6)) (ybk (ych rfl (rv_n (vs := [(ii r4), (.slice Ar3 lr3 cr3)]) rfl underlying24 rfl yan ⟨Row.cell (hS.bx 2 rfl) (i := 0) rfl, Row.cell (hS.bx 2 rfl) (i := 1) rfl, trivial⟩) (rv_t rfl) ⟨_, _, _, _, _, _, rfl, (hS.sel [8] (by decide)), h⟩)))
  · replace h := h.2 hp; refine zf hp (zs (zn (ybw (l := []) (cells := [(ii 0), (.slice none 0 0)]) (places := [(0, 1), (1, 1)]) (bp0) underlying24 yan (by kernel_rfl) rfl ?_))); refine zb (zq (zm (ii r2)) (zo (yaJ (b := g4) (o := 0) (cells := #[(ii 0), (.slice none 0 0)]) rfl rfl yan rfl rfl (yaC (hS.bx 2 rfl) (Nat.le_of_ble_eq_true rfl)) ?_))); intro w9 e1; replace hS := hS.bstn 2 rfl 0 [(ii 0), (.slice none 0 0)] e1; clear e1; refine zb (zq (za (ii r2)) (yaa ?_)); replace hS := hS.nil 4 rfl c3 75; exact ych rfl (rv_n (vs := [(ii 0), (.slice none 0 0)]) rfl underlying24 rfl yan ⟨Row.cell (hS.bx 2 rfl) (i := 0) rfl, Row.cell (hS.bx 2 rfl) (i := 1) rfl, trivial⟩) (rv_t rfl) ⟨_, _, _, _, _, _, rfl, (hS.sel [4] (by decide)), h⟩
def ya0 (g : Int) (g2 : List E3) (e2 : Int) (R : Int → (List E3) → Int → Prop) : Prop :=
ya9 g g2 e2 (fun r r2 =>
((r2 = 0 →
((0 ≤ e2 ∧ e2 < ((r.length : Nat) : Int)) ∧
((0 ≤ (0 : Int) ∧ (0 : Int) < 2) ∧
((0 ≤ (1 : Int) ∧ (1 : Int) < 2) ∧
(∃ J2 : Int → Int → (List E3) → Prop, (∀ (v : Int) (v2 : Int) (v3 : List E3), J2 v v2 v3 → R v2 v3 v) ∧
((((0 ≤ e2 ∧ e2 ≤ ((r.length : Nat) : Int)) ∧
(In64 (e2 + 1) ∧
((0 ≤ (e2 + 1) ∧ (e2 + 1) ≤ ((r.length : Nat) : Int)) ∧
ybf g ((gx r e2.toNat).1) ((gx r e2.toNat).2) (fun r3 =>
ya2 ([(r.take e2.toNat), (r.drop (e2 + 1).toNat)]) (fun r4 =>
(yaB ((gx r e2.toNat).1) ((gx r e2.toNat).2) (fun r5 r6 =>
ybm r4 (fun x R => yaD x r5 r6 R) (fun r7 =>
ybB r3 r7 (fun r8 r9 r10 =>
J2 r10 r8 r9)))))))))) ∧
(((0 ≤ e2 ∧ e2 ≤ ((r.length : Nat) : Int)) ∧
(In64 (e2 + 1) ∧
((0 ≤ (e2 + 1) ∧ (e2 + 1) ≤ ((r.length : Nat) : Int)) ∧
ybf g ((gx r e2.toNat).1) ((gx r e2.toNat).2) (fun r11 =>
ya2 ([(r.take e2.toNat), (r.drop (e2 + 1).toNat)]) (fun r12 =>
(yaB ((gx r e2.toNat).1) ((gx r e2.toNat).2) (fun r13 r14 =>
ybm r12 (fun x2 R => yaD x2 r13 r14 R) (fun r15 =>
ybB r11 r15 (fun r16 r17 r18 =>
J2 r18 r16 r17)))))))))))))))) ∧
(¬ (r2 = 0) →
R 0 ([]) r2)))
theorem ycr {O : Nat → Prop} {w : World} {g g2 e2 Ag lg cg} {R : Int → (List E3) → Int → Prop} (h : ya0 g g2 e2 R) (hO : ∀ k, O k → k < w.heap.size) (hA0 : (FP.sl c3 Ag lg cg g2).P O w) :
    Calls Try.prog 21 #[(.agg #[(ii g), (.slice Ag lg cg)]), (ii e2)] w fun e w' => ∃ r19 r20 r21 Ar8 lr8 cr8, e = .returned (.tuple #[(.agg #[(ii r19), (.slice Ar8 lr8 cr8)]), (ii r21)]) ∧ Sep w no O w' (rl [Res.own c3 75 Ar8 lr8 cr8 r20]) ∧ R r19 r20 r21 := by
  unfold ya0 at h; have hS : Sep w no O w (rl [Res.ro (FP.sl c3 Ag lg cg g2)]) := Sep.startl hO [(FP.sl c3 Ag lg cg g2)] ⟨hA0, trivial⟩; refine yaq (l := [(.agg #[(ii g), (.slice Ag lg cg)]), (ii e2)]) func21 rfl ntmps21 (Nat.le_of_ble_eq_true rfl) (zs (zn (yb5 (v := (.agg #[(ii g), (.slice Ag lg cg)])) rfl ?_))); intro g3 w2 hN; replace hS : Sep w no O w2 (stl _ 1 (Res.box 24 g3 [(ii g), (.slice Ag lg cg)])) := hS.new 1 rfl hN; clear hN; refine zb (zn (ybg yan ?_)); intro g4 w3 hN; replace hS : Sep w no O w3 (stl _ 2 (Res.box 24 g4 [(ii 0), (.slice none 0 0)])) := hS.new 2 rfl hN; clear hN; refine zb (zq (za (ii 0)) (yaa (zs (zq (yaz (vs := [(ii g), (.slice Ag lg cg)]) rfl underlying24 rfl yan ⟨Row.cell (hS.bx 1 rfl) (i := 0) rfl, Row.cell (hS.bx 1 rfl) (i := 1) rfl, trivial⟩) (zq (zm (ii e2)) (zn (yak rfl (am2 rfl rfl) yeI ((ybK h (yaF _) (hS.rdr 0 rfl)).mono ?_)))))))); rintro _ w4 ⟨r, r2, Ar, lr, cr, rfl, hC, h⟩; replace hS := hS.call1 (hC.widen (ybv (yat (fP (fI .i64) (fI .i64)) _ _ _ _ _) ybE) hS.blt) 3 0 rfl; clear hC; refine ⟨_, rfl, ?_⟩; refine zb (zq (zm (.tuple #[(.slice Ar lr cr), (ii r2)])) (zq (zx (.slice Ar lr cr)) (zq (zx (ii r2)) (zq (za (.slice Ar lr cr)) (zq (za (ii r2)) (yaa (yaf (zs (zq (zm (ii r2)) (zq zN (yaa ?_))))))))))); by_cases hp : r2 = 0
  · replace h := h.1 hp; refine ze hp (yah (yaf (ybH [0, 1, 2, 3, 4, 5, 6, 7, 8, 9, 10, 11] st0 yar (by kernel_rfl) (by kernel_rfl) ?_))); replace hS := hS.drew; refine zp (zm (.slice Ar lr cr)) (zp (zm (ii e2)) ?_); obtain ⟨hx, h⟩ := h; refine zp (zi underlying46 yal (yaN (hS.rdo 3 rfl) hx)) ?_; obtain ⟨hx2, h⟩ := h; refine zp (yaA rfl rfl underlying45 yag hx2) (zp (yaK (v := (ii ((gx r e2.toNat).1))) rfl underlying3 rfl (rd_f (hS.rdo 3 rfl) hx (fun q => yaS q) 0 rfl)) ?_); refine zp (zm (.slice Ar lr cr)) (zp (zm (ii e2)) (zp (zi underlying46 yal (yaN (hS.rdo 3 rfl) hx)) ?_)); obtain ⟨hx3, h⟩ := h; refine zp (yaA rfl rfl underlying45 yag hx3) (zp (yaK (v := (ii ((gx r e2.toNat).2))) rfl underlying3 rfl (rd_f (hS.rdo 3 rfl) hx (fun q => yaS q) 1 rfl)) ?_); refine zp (za (ii ((gx r e2.toNat).1))) (zp (za (ii ((gx r e2.toNat).2))) (ybk (yaf ?_))); obtain ⟨J2, hJ, h⟩ := h; refine yeZ (fun E ds w' => ∃ v v2 v3 Av lv cv, J2 v v2 v3 ∧ ds = [] ∧ E 4 = (Value.pointer (some (⟨g4, 0, none⟩ : Addr))) ∧ E 5 = (ii v) ∧ Sep w no O w' (rl [Res.box 24 g4 [(ii v2), (.slice Av lv cv)], Res.own c3 75 Av lv cv v3])) ?_ ?_
    · clear h hS; rintro E ds w5 ⟨v, v2, v3, Av, lv, cv, h, rfl, hE4, hE5, hS⟩; replace h := hJ v v2 v3 h; exact ych rfl (rv_n (vs := [(ii v2), (.slice Av lv cv)]) hE4 underlying24 rfl yan ⟨Row.cell (hS.bx 0 rfl) (i := 0) rfl, Row.cell (hS.bx 0 rfl) (i := 1) rfl, trivial⟩) (rv_t hE5) ⟨_, _, _, _, _, _, rfl, (hS.sel [1] (by decide)), h⟩
    clear hJ; intro j; refine yeF 4 12 [0, 1, 2, 3, 5, 6, 7, 8, 9, 10, 11, 14, 15, 4, 12, 13, 16, 17, 18, 19, 20, 21, 22] [0, 1, 2, 3, 5, 6, 7, 8, 9, 10, 11, 14, 15, 12, 4, 13, 16, 17, 18, 19, 20, 21, 22] (fun i => match i with | 4 => [5, 6, 7, 8, 9, 10, 11, 14, 15] | 12 => [0, 1, 2, 3, 14, 15] | 13 => [14, 15] | _ => []) (fun i => match i with | 12 => [0, 1, 2, 3, 14, 15] | 4 => [5, 6, 7, 8, 9, 10, 11, 14, 15] | 13 => [14, 15] | _ => []) yar (by kernel_rfl) (by kernel_rfl) ?_ ?_
    · replace h := h.1; replace hS := hS.drew; refine zp (yao rfl underlying24 rfl yag) (zp (zl underlying3 (Row.cell (hS.bx 1 rfl) (i := 0) rfl)) (zp (zm (ii ((gx r e2.toNat).1))) (zp (zm (ii ((gx r e2.toNat).2))) (zp (zm (.slice Ar lr cr)) (zp (zm (ii e2)) ?_))))); obtain ⟨hx4, h⟩ := h; replace hS := hS.frz 3 rfl; replace hS := hS.addro 4 rfl _ (sl_take (hS.ro 3 rfl) hx4); refine zp (ydi rfl rfl underlying46 yal (ygu (hS.rdr 3 rfl) hx4)) (zp (zm (.slice Ar lr cr)) (zp (zm (ii e2)) ?_)); obtain ⟨hi, h⟩ := h; refine zp (zA hi) ?_; obtain ⟨hx5, h⟩ := h; replace hS := hS.addro 5 rfl _ (sl_drop (hS.ro 3 rfl) hx5); refine zp (yd3 rfl rfl underlying46 yal (by rw [yav (hS.rdr 3 rfl)]; exact hx5)) (zp (zm (ii ((gx r e2.toNat).1))) (zp (zm (ii ((gx r e2.toNat).2))) (rp_n rfl rfl rfl rfl (yak rfl (am3 rfl rfl rfl) enter_65 ((ycf h (yaF _)).mono ?_))))); rintro _ w6 ⟨r3, rfl, hC, h⟩; replace hS := hS.pur hC.pure; clear hC; refine ⟨_, rfl, ?_⟩; refine ⟨⟨fun _ => (zm (ii ((gx r e2.toNat).2))), ⟨fun _ => (zm (ii ((gx r e2.toNat).1))), ⟨fun _ => (yd3 rfl rfl underlying46 yal (by rw [yav (hS.rdr 3 rfl)]; exact hx5)), ⟨fun _ => (zA hi), ⟨fun _ => (zm (ii e2)), ⟨fun _ => (zm (.slice Ar lr cr)), ⟨fun _ => (ydi rfl rfl underlying46 yal (ygu (hS.rdr 3 rfl) hx4)), ⟨fun _ => (zm (ii e2)), ⟨fun _ => (zm (.slice Ar lr cr)), ⟨fun hh => Bool.noConfusion (show false = true from hh), ⟨fun hh => Bool.noConfusion (show false = true from hh), ⟨fun hh => Bool.noConfusion (show false = true from hh), ⟨fun hh => Bool.noConfusion (show false = true from hh), trivial⟩⟩⟩⟩⟩⟩⟩⟩⟩⟩⟩⟩⟩, ?_⟩; refine rp_n rfl rfl rfl rfl (yaU (l := [(0, (.slice Ar (e2.toNat) cr)), (1, (.slice (slA Ar cr (e2 + 1).toNat 2) (lr - (e2 + 1).toNat) (cr - (e2 + 1).toNat)))]) (cells := [(.slice Ar (e2.toNat) cr), (.slice (slA Ar cr (e2 + 1).toNat 2) (lr - (e2 + 1).toNat) (cr - (e2 + 1).toNat))]) (bp2 rfl rfl) underlying116 ycB rfl rfl ?_); intro g5 w7 hN; replace hS := hS.lit (n := 2) (c := (cL c2)) 6 rfl hN ([(r.take e2.toNat), (r.drop (e2 + 1).toNat)] : List (List (Int × Int))) rfl (by decide) ⟨[(.slice Ar (e2.toNat) cr)], _, rfl, (ro_R (hS.ro 4 rfl)), ⟨[(.slice (slA Ar cr (e2 + 1).toNat 2) (lr - (e2 + 1).toNat) (cr - (e2 + 1).toNat))], _, rfl, (ro_R (hS.ro 5 rfl)), rfl⟩⟩; clear hN; refine ⟨⟨fun _ => (zm (ii ((gx r e2.toNat).2))), ⟨fun _ => (zm (ii ((gx r e2.toNat).1))), ⟨fun hh => Bool.noConfusion (show false = true from hh), ⟨fun hh => Bool.noConfusion (show false = true from hh), ⟨fun hh => Bool.noConfusion (show false = true from hh), ⟨fun hh => Bool.noConfusion (show false = true from hh), ⟨fun hh => Bool.noConfusion (show false = true from hh), ⟨fun hh => Bool.noConfusion (show false = true from hh), ⟨fun hh => Bool.noConfusion (show false = true from hh), ⟨fun _ => (zm (ii ((gx r e2.toNat).2))), ⟨fun _ => (zm (ii ((gx r e2.toNat).1))), ⟨fun _ => (zl underlying3 (Row.cell (hS.bx 1 rfl) (i := 0) rfl)), ⟨fun _ => (yao rfl underlying24 rfl yag), trivial⟩⟩⟩⟩⟩⟩⟩⟩⟩⟩⟩⟩⟩, ?_⟩; refine rp_n rfl rfl rfl rfl (yak rfl (am1 rfl) enter_70 ((ycg h (yaF _) (hS.rdo 6 rfl)).mono ?_)); rintro _ w8 ⟨r4, Ar2, lr2, cr2, rfl, hC, h⟩; replace hS := hS.call1 (hC.widen (ybv (yat (fP (fI .i64) (fI .i64)) _ _ _ _ _) ybE) hS.blt) 7 0 rfl; clear hC; refine ⟨_, rfl, ?_⟩; refine ⟨⟨fun _ => (zm (ii ((gx r e2.toNat).2))), ⟨fun _ => (zm (ii ((gx r e2.toNat).1))), ⟨fun hh => Bool.noConfusion (show false = true from hh), ⟨fun hh => Bool.noConfusion (show false = true from hh), ⟨fun hh => Bool.noConfusion (show false = true from hh), ⟨fun hh => Bool.noConfusion (show false = true from hh), ⟨fun hh => Bool.noConfusion (show false = true from hh), ⟨fun hh => Bool.noConfusion (show false = true from hh), ⟨fun hh => Bool.noConfusion (show false = true from hh), ⟨fun hh => Bool.noConfusion (show false = true from hh), ⟨fun hh => Bool.noConfusion (show false = true from hh), ⟨fun hh => Bool.noConfusion (show false = true from hh), ⟨fun hh => Bool.noConfusion (show false = true from hh), trivial⟩⟩⟩⟩⟩⟩⟩⟩⟩⟩⟩⟩⟩, ?_⟩; refine rp_n rfl rfl rfl rfl (yak rfl (am2 rfl rfl) ydK ((ybb h hS.blt).mono ?_)); rintro _ w9 ⟨r5, r6, gr, gr2, rfl, hC, h⟩
      · replace hS := hS.call2 hC 8 0 9 1 rfl rfl (by decide) (by decide); clear hC; refine ⟨_, rfl, ?_⟩; refine zb ?_; replace hS := hS.frzb 8 rfl; replace hS := hS.frzb 9 rfl; refine rp_n rfl rfl rfl rfl (yak rfl (am2 rfl rfl) yd1 ((ybG h (yaF _) (hS.rdo 7 rfl) (fun w' hk => ⟨92, #[(.pointer (some (⟨gr, 0, none⟩ : Addr))), (.pointer (some (⟨gr2, 0, none⟩ : Addr)))], rfl, ydl, fun x R hF => yaT (by simp) (yaQ hF (yaF _) (FP.sub _ (FP.keep _ (FP.sub _ (hS.ro 8 rfl) (fun _ _ h => h.elim) : FP.P _ no _) hk) fun _ _ h => h.elim) (FP.sub _ (FP.keep _ (FP.sub _ (hS.ro 9 rfl) (fun _ _ h => h.elim) : FP.P _ no _) hk) fun _ _ h => h.elim))⟩)).mono ?_)); rintro _ w10 ⟨r7, Ar3, lr3, cr3, rfl, hC, h⟩; replace hS := hS.call1 (hC.widen (ybv (yat (fP (fI .i64) (fI .i64)) _ _ _ _ _) ybE) hS.blt) 10 0 rfl; clear hC; refine ⟨_, rfl, ?_⟩; refine zb (rp_n rfl rfl rfl rfl (yak rfl (am2 rfl rfl) ygo ((yc5 h (yaF _) (hS.rdo 10 rfl)).mono ?_))); rintro _ w11 ⟨r8, r9, r10, Ar4, lr4, cr4, rfl, hC, h⟩; replace hS := hS.call1 (hC.widen (ybv (yat (fP (fI .i64) (fP (fI .i64) (fI .i64))) _ _ _ _ _) ybE) hS.blt) 11 0 rfl; clear hC; refine ⟨_, rfl, ?_⟩; refine zb (zp (zx (.agg #[(ii r8), (.slice Ar4 lr4 cr4)])) (zp (zx (ii r10)) (ygr rfl rfl rfl (yaJ (b := g4) (o := 0) (cells := #[(ii r8), (.slice Ar4 lr4 cr4)]) rfl rfl yan rfl rfl (yaC (hS.bx 2 rfl) (Nat.le_of_ble_eq_true rfl)) ?_)))); intro w12 e1; replace hS := hS.bstn 2 rfl 0 [(ii r8), (.slice Ar4 lr4 cr4)] e1; clear e1; exact zb (zp (za (ii r10)) (ybk (j _ _ _ ⟨_, _, _, _, _, _, h, rfl, rfl, rfl, (hS.sel [2, 11] (by decide))⟩)))
    · replace h := h.2; replace hS := hS.drew; refine zp (yao rfl underlying24 rfl yag) (zp (zl underlying3 (Row.cell (hS.bx 1 rfl) (i := 0) rfl)) (zp (zm (ii ((gx r e2.toNat).1))) (zp (zm (ii ((gx r e2.toNat).2))) (zp (zm (.slice Ar lr cr)) (zp (zm (ii e2)) ?_))))); obtain ⟨hx6, h⟩ := h; replace hS := hS.frz 3 rfl; replace hS := hS.addro 4 rfl _ (sl_take (hS.ro 3 rfl) hx6); refine zp (ydi rfl rfl underlying46 yal (ygu (hS.rdr 3 rfl) hx6)) (zp (zm (.slice Ar lr cr)) (zp (zm (ii e2)) ?_)); obtain ⟨hi2, h⟩ := h; refine zp (zA hi2) ?_; obtain ⟨hx7, h⟩ := h; replace hS := hS.addro 5 rfl _ (sl_drop (hS.ro 3 rfl) hx7); refine zp (yd3 rfl rfl underlying46 yal (by rw [yav (hS.rdr 3 rfl)]; exact hx7)) (zp (zm (ii ((gx r e2.toNat).1))) (zp (zm (ii ((gx r e2.toNat).2))) (rp_n rfl rfl rfl rfl (yaU (l := [(0, (.slice Ar (e2.toNat) cr)), (1, (.slice (slA Ar cr (e2 + 1).toNat 2) (lr - (e2 + 1).toNat) (cr - (e2 + 1).toNat)))]) (cells := [(.slice Ar (e2.toNat) cr), (.slice (slA Ar cr (e2 + 1).toNat 2) (lr - (e2 + 1).toNat) (cr - (e2 + 1).toNat))]) (bp2 rfl rfl) underlying116 ycB rfl rfl ?_)))); intro g6 w13 hN; replace hS := hS.lit (n := 2) (c := (cL c2)) 6 rfl hN ([(r.take e2.toNat), (r.drop (e2 + 1).toNat)] : List (List (Int × Int))) rfl (by decide) ⟨[(.slice Ar (e2.toNat) cr)], _, rfl, (ro_R (hS.ro 4 rfl)), ⟨[(.slice (slA Ar cr (e2 + 1).toNat 2) (lr - (e2 + 1).toNat) (cr - (e2 + 1).toNat))], _, rfl, (ro_R (hS.ro 5 rfl)), rfl⟩⟩; clear hN; refine ⟨⟨fun _ => (zm (ii ((gx r e2.toNat).2))), ⟨fun _ => (zm (ii ((gx r e2.toNat).1))), ⟨fun hh => Bool.noConfusion (show false = true from hh), ⟨fun hh => Bool.noConfusion (show false = true from hh), ⟨fun hh => Bool.noConfusion (show false = true from hh), ⟨fun hh => Bool.noConfusion (show false = true from hh), ⟨fun hh => Bool.noConfusion (show false = true from hh), ⟨fun hh => Bool.noConfusion (show false = true from hh), ⟨fun hh => Bool.noConfusion (show false = true from hh), ⟨fun _ => (zm (ii ((gx r e2.toNat).2))), ⟨fun _ => (zm (ii ((gx r e2.toNat).1))), ⟨fun _ => (zl underlying3 (Row.cell (hS.bx 1 rfl) (i := 0) rfl)), ⟨fun _ => (yao rfl underlying24 rfl yag), trivial⟩⟩⟩⟩⟩⟩⟩⟩⟩⟩⟩⟩⟩, ?_⟩; refine rp_n rfl rfl rfl rfl (yak rfl (am3 rfl rfl rfl) enter_65 ((ycf h (yaF _)).mono ?_)); rintro _ w14 ⟨r11, rfl, hC, h⟩; replace hS := hS.pur hC.pure; clear hC; refine ⟨_, rfl, ?_⟩; refine ⟨⟨fun _ => (zm (ii ((gx r e2.toNat).2))), ⟨fun _ => (zm (ii ((gx r e2.toNat).1))), ⟨fun _ => (yd3 rfl rfl underlying46 yal (by rw [yav (hS.rdr 3 rfl)]; exact hx7)), ⟨fun _ => (zA hi2), ⟨fun _ => (zm (ii e2)), ⟨fun _ => (zm (.slice Ar lr cr)), ⟨fun _ => (ydi rfl rfl underlying46 yal (ygu (hS.rdr 3 rfl) hx6)), ⟨fun _ => (zm (ii e2)), ⟨fun _ => (zm (.slice Ar lr cr)), ⟨fun hh => Bool.noConfusion (show false = true from hh), ⟨fun hh => Bool.noConfusion (show false = true from hh), ⟨fun hh => Bool.noConfusion (show false = true from hh), ⟨fun hh => Bool.noConfusion (show false = true from hh), trivial⟩⟩⟩⟩⟩⟩⟩⟩⟩⟩⟩⟩⟩, ?_⟩; refine rp_n rfl rfl rfl rfl (yak rfl (am1 rfl) enter_70 ((ycg h (yaF _) (hS.rdo 6 rfl)).mono ?_)); rintro _ w15 ⟨r12, Ar5, lr5, cr5, rfl, hC, h⟩; replace hS := hS.call1 (hC.widen (ybv (yat (fP (fI .i64) (fI .i64)) _ _ _ _ _) ybE) hS.blt) 7 0 rfl; clear hC; refine ⟨_, rfl, ?_⟩; refine ⟨⟨fun _ => (zm (ii ((gx r e2.toNat).2))), ⟨fun _ => (zm (ii ((gx r e2.toNat).1))), ⟨fun hh => Bool.noConfusion (show false = true from hh), ⟨fun hh => Bool.noConfusion (show false = true from hh), ⟨fun hh => Bool.noConfusion (show false = true from hh), ⟨fun hh => Bool.noConfusion (show false = true from hh), ⟨fun hh => Bool.noConfusion (show false = true from hh), ⟨fun hh => Bool.noConfusion (show false = true from hh), ⟨fun hh => Bool.noConfusion (show false = true from hh), ⟨fun hh => Bool.noConfusion (show false = true from hh), ⟨fun hh => Bool.noConfusion (show false = true from hh), ⟨fun hh => Bool.noConfusion (show false = true from hh), ⟨fun hh => Bool.noConfusion (show false = true from hh), trivial⟩⟩⟩⟩⟩⟩⟩⟩⟩⟩⟩⟩⟩, ?_⟩; refine rp_n rfl rfl rfl rfl (yak rfl (am2 rfl rfl) ydK ((ybb h hS.blt).mono ?_)); rintro _ w16 ⟨r13, r14, gr3, gr4, rfl, hC, h⟩
      · replace hS := hS.call2 hC 8 0 9 1 rfl rfl (by decide) (by decide); clear hC; refine ⟨_, rfl, ?_⟩; refine zb ?_; replace hS := hS.frzb 8 rfl; replace hS := hS.frzb 9 rfl; refine rp_n rfl rfl rfl rfl (yak rfl (am2 rfl rfl) yd1 ((ybG h (yaF _) (hS.rdo 7 rfl) (fun w' hk => ⟨92, #[(.pointer (some (⟨gr3, 0, none⟩ : Addr))), (.pointer (some (⟨gr4, 0, none⟩ : Addr)))], rfl, ydl, fun x2 R hF => yaT (by simp) (yaQ hF (yaF _) (FP.sub _ (FP.keep _ (FP.sub _ (hS.ro 8 rfl) (fun _ _ h => h.elim) : FP.P _ no _) hk) fun _ _ h => h.elim) (FP.sub _ (FP.keep _ (FP.sub _ (hS.ro 9 rfl) (fun _ _ h => h.elim) : FP.P _ no _) hk) fun _ _ h => h.elim))⟩)).mono ?_)); rintro _ w17 ⟨r15, Ar6, lr6, cr6, rfl, hC, h⟩; replace hS := hS.call1 (hC.widen (ybv (yat (fP (fI .i64) (fI .i64)) _ _ _ _ _) ybE) hS.blt) 10 0 rfl; clear hC; refine ⟨_, rfl, ?_⟩; refine zb (rp_n rfl rfl rfl rfl (yak rfl (am2 rfl rfl) ygo ((yc5 h (yaF _) (hS.rdo 10 rfl)).mono ?_))); rintro _ w18 ⟨r16, r17, r18, Ar7, lr7, cr7, rfl, hC, h⟩; replace hS := hS.call1 (hC.widen (ybv (yat (fP (fI .i64) (fP (fI .i64) (fI .i64))) _ _ _ _ _) ybE) hS.blt) 11 0 rfl; clear hC; refine ⟨_, rfl, ?_⟩; refine zb (zp (zx (.agg #[(ii r16), (.slice Ar7 lr7 cr7)])) (zp (zx (ii r18)) (ygr rfl rfl rfl (yaJ (b := g4) (o := 0) (cells := #[(ii r16), (.slice Ar7 lr7 cr7)]) rfl rfl yan rfl rfl (yaC (hS.bx 2 rfl) (Nat.le_of_ble_eq_true rfl)) ?_)))); intro w19 e1; replace hS := hS.bstn 2 rfl 0 [(ii r16), (.slice Ar7 lr7 cr7)] e1; clear e1; exact zb (zp (za (ii r18)) (ybk (j _ _ _ ⟨_, _, _, _, _, _, h, rfl, rfl, rfl, (hS.sel [2, 11] (by decide))⟩)))
  · replace h := h.2 hp; refine zf hp (zs (zn (ybw (l := []) (cells := [(ii 0), (.slice none 0 0)]) (places := [(0, 1), (1, 1)]) (bp0) underlying24 yan (by kernel_rfl) rfl ?_))); refine zb (zq (zm (ii r2)) (zo (yaJ (b := g4) (o := 0) (cells := #[(ii 0), (.slice none 0 0)]) rfl rfl yan rfl rfl (yaC (hS.bx 2 rfl) (Nat.le_of_ble_eq_true rfl)) ?_))); intro w20 e1; replace hS := hS.bstn 2 rfl 0 [(ii 0), (.slice none 0 0)] e1; clear e1; refine zb (zq (za (ii r2)) (yaa ?_)); replace hS := hS.nil 4 rfl c3 75; exact ych rfl (rv_n (vs := [(ii 0), (.slice none 0 0)]) rfl underlying24 rfl yan ⟨Row.cell (hS.bx 2 rfl) (i := 0) rfl, Row.cell (hS.bx 2 rfl) (i := 1) rfl, trivial⟩) (rv_t rfl) ⟨_, _, _, _, _, _, rfl, (hS.sel [4] (by decide)), h⟩
def yfZ (g : Int) (g2 : List E3) (a : Int) (b : Int) (R : Int → (List E3) → Int → Prop) : Prop :=
ybI g g2 (fun r r2 =>
((r2 = 0 →
(∃ I2 : Nat → Int → Prop, (∃ m0, I2 m0 0) ∧ ∀ m2 v, I2 m2 v → 
((v < 2 →
((0 ≤ v ∧ v < 2) ∧
(((gi [a, b] v.toNat) < 0 →
R 0 ([]) 2) ∧
(¬ ((gi [a, b] v.toNat) < 0) →
((g ≤ (gi [a, b] v.toNat) →
R 0 ([]) 2) ∧
(¬ (g ≤ (gi [a, b] v.toNat)) →
(In64 (v + 1) ∧
∃ m3, m3 < m2 ∧ I2 m3 (v + 1)))))))) ∧
(¬ (v < 2) →
((a = b →
R 0 ([]) 7) ∧
(¬ (a = b) →
(In64 (g - 1) ∧
(yaB a b (fun r3 r4 =>
ybm r (fun x R => yaD x r3 r4 R) (fun r5 =>
ybB (g - 1) r5 (fun r6 r7 r8 =>
R r6 r7 r8))))))))))) ∧
(¬ (r2 = 0) →
R 0 ([]) r2)))
theorem ygl {O : Nat → Prop} {w : World} {g g2 a b Ag lg cg} {R : Int → (List E3) → Int → Prop} (h : yfZ g g2 a b R) (hO : ∀ k, O k → k < w.heap.size) (hA0 : (FP.sl c3 Ag lg cg g2).P O w) :
    Calls Try.prog 41 #[(.agg #[(ii g), (.slice Ag lg cg)]), (ii a), (ii b)] w fun e w' => ∃ r9 r10 r11 Ar4 lr4 cr4, e = .returned (.tuple #[(.agg #[(ii r9), (.slice Ar4 lr4 cr4)]), (ii r11)]) ∧ Sep w no O w' (rl [Res.own c3 75 Ar4 lr4 cr4 r10]) ∧ R r9 r10 r11 := by
  unfold yfZ at h; have hS : Sep w no O w (rl [Res.ro (FP.sl c3 Ag lg cg g2)]) := Sep.startl hO [(FP.sl c3 Ag lg cg g2)] ⟨hA0, trivial⟩; refine yaq (l := [(.agg #[(ii g), (.slice Ag lg cg)]), (ii a), (ii b)]) func41 rfl ntmps41 (Nat.le_of_ble_eq_true rfl) (zs (zn (yb5 (v := (.agg #[(ii g), (.slice Ag lg cg)])) rfl ?_))); intro g3 w2 hN; replace hS : Sep w no O w2 (stl _ 1 (Res.box 24 g3 [(ii g), (.slice Ag lg cg)])) := hS.new 1 rfl hN; clear hN; refine zb (zn (ybg yan ?_)); intro g4 w3 hN; replace hS : Sep w no O w3 (stl _ 2 (Res.box 24 g4 [(ii 0), (.slice none 0 0)])) := hS.new 2 rfl hN; clear hN; refine zb (zq (za (ii 0)) (yaa (zs (zq (yaz (vs := [(ii g), (.slice Ag lg cg)]) rfl underlying24 rfl yan ⟨Row.cell (hS.bx 1 rfl) (i := 0) rfl, Row.cell (hS.bx 1 rfl) (i := 1) rfl, trivial⟩) (zn (yak rfl (am1 rfl) ygx ((yc8 h (yaF _) (hS.rdr 0 rfl)).mono ?_))))))); rintro _ w4 ⟨r, r2, Ar, lr, cr, rfl, hC, h⟩; replace hS := hS.call1 (hC.widen (ybv (yat (fP (fI .i64) (fI .i64)) _ _ _ _ _) ybE) hS.blt) 3 0 rfl; clear hC; refine ⟨_, rfl, ?_⟩; refine zb (zq (zm (.tuple #[(.slice Ar lr cr), (ii r2)])) (zq (zx (.slice Ar lr cr)) (zq (zx (ii r2)) (zq (za (.slice Ar lr cr)) (zq (za (ii r2)) (yaa (yaf (zs (zq (zm (ii r2)) (zq zN (yaa ?_))))))))))); by_cases hp : r2 = 0
  · replace h := h.1 hp; refine ze hp (yah (yaf (zs (zq (zm (ii a)) (zq (zm (ii b)) (zn (yb9 (l := [(0, (ii a)), (1, (ii b))]) (cells := [(ii a), (ii b)]) (bp2 rfl rfl) underlying45 yal yag (by kernel_rfl) ?_))))))); refine zb (zq (zm (ii 0)) (yaa (yaj ?_))); obtain ⟨I2, ⟨m0, h0⟩, hr⟩ := h; refine yaO (fun m E ds w' => ∃ v, I2 m v ∧ ds = [] ∧ E 1 = (ii a) ∧ E 2 = (ii b) ∧ E 3 = (Value.pointer (some (⟨g3, 0, none⟩ : Addr))) ∧ E 6 = (Value.pointer (some (⟨g4, 0, none⟩ : Addr))) ∧ E 8 = (Value.slice Ar lr cr) ∧ E 23 = (Value.agg #[(ii a), (ii b)]) ∧ E 24 = (ii v) ∧ Sep w no O w' (rl [Res.box 24 g3 [(ii g), (.slice Ag lg cg)], Res.ro (FP.sl c3 Ag lg cg g2), Res.box 24 g4 [(ii 0), (.slice none 0 0)], Res.own c2 45 Ar lr cr r])) m0 ⟨_, h0, rfl, rfl, rfl, rfl, rfl, rfl, rfl, rfl, (hS.sel [1, 0, 2, 3] (by decide))⟩ ?_; clear h0 hS; rintro m2 E ds w5 ⟨v, h, rfl, hE1, hE2, hE3, hE6, hE8, hE23, hE24, hS⟩ again; replace h := hr m2 v h; clear hr; refine zs (zq (ycI hE24 rfl) (yaa (yaf ?_))); by_cases hp2 : v < 2
    · replace h := h.1 hp2; refine zc hp2 (yah (yaf (yaj (zs ?_)))); obtain ⟨hx, h⟩ := h; refine zq (v_index hE23 hE24 underlying45 underlying3 rfl yag hx (arr_idx [a, b] hx)) (zq (za (ii (gi [a, b] v.toNat))) (yaa (zs (zq (zm (ii (gi [a, b] v.toNat))) (zq zL (zq (zm (.bool (decide ((gi [a, b] v.toNat) < 0)))) ?_)))))); by_cases hp3 : (gi [a, b] v.toNat) < 0
      · replace h := h.1 hp3; refine rl_p (yab rfl (yac rfl (congrArg Value.bool (decide_eq_true hp3))) rfl) rfl (rl_p (yab rfl (yac rfl (congrArg Value.bool (decide_eq_true hp3))) rfl) rfl (rl_p (yab rfl (yac rfl (congrArg Value.bool (decide_eq_true hp3))) rfl) rfl (rl_p (yab rfl (yac rfl (congrArg Value.bool (decide_eq_true hp3))) rfl) rfl (zq (yaw (v := (.bool (true))) (congrArg Value.bool (decide_eq_true hp3)) rfl) (yaa (yaE rfl (zs (zn (ybw (l := []) (cells := [(ii 0), (.slice none 0 0)]) (places := [(0, 1), (1, 1)]) (bp0) underlying24 yan (by kernel_rfl) rfl ?_))))))))); refine zb (zo (yaJ (b := g4) (o := 0) (cells := #[(ii 0), (.slice none 0 0)]) hE6 rfl yan rfl rfl (yaC (hS.bx 2 rfl) (Nat.le_of_ble_eq_true rfl)) ?_)); intro w6 e1; replace hS := hS.bstn 2 rfl 0 [(ii 0), (.slice none 0 0)] e1; clear e1; refine zb (zq (za (ii 2)) (yaa ?_)); replace hS := hS.nil 4 rfl c3 75; exact ych rfl (rv_n (vs := [(ii 0), (.slice none 0 0)]) hE6 underlying24 rfl yan ⟨Row.cell (hS.bx 2 rfl) (i := 0) rfl, Row.cell (hS.bx 2 rfl) (i := 1) rfl, trivial⟩) (rv_t rfl) ⟨_, _, _, _, _, _, rfl, (hS.sel [4] (by decide)), h⟩
      · replace h := h.2 hp3; refine rl_q (yad rfl (yac rfl (congrArg Value.bool (decide_eq_false hp3)))) rfl rfl (zm (ii (gi [a, b] v.toNat))) (rl_q (yad rfl (yac rfl (congrArg Value.bool (decide_eq_false hp3)))) rfl rfl (yao hE3 underlying24 rfl yag) (rl_q (yad rfl (yac rfl (congrArg Value.bool (decide_eq_false hp3)))) rfl rfl (zl underlying3 (Row.cell (hS.bx 0 rfl) (i := 0) rfl)) (rl_q (yad rfl (yac rfl (congrArg Value.bool (decide_eq_false hp3)))) rfl rfl (v_geq rfl rfl) (zq (yap (v := (.bool (decide (g ≤ (gi [a, b] v.toNat))))) (congrArg Value.bool (decide_eq_false hp3)) rfl) (yaa ?_))))); by_cases hp4 : g ≤ (gi [a, b] v.toNat)
        · replace h := h.1 hp4; refine zc hp4 (zs (zn (ybw (l := []) (cells := [(ii 0), (.slice none 0 0)]) (places := [(0, 1), (1, 1)]) (bp0) underlying24 yan (by kernel_rfl) rfl ?_))); refine zb (zo (yaJ (b := g4) (o := 0) (cells := #[(ii 0), (.slice none 0 0)]) hE6 rfl yan rfl rfl (yaC (hS.bx 2 rfl) (Nat.le_of_ble_eq_true rfl)) ?_)); intro w7 e1; replace hS := hS.bstn 2 rfl 0 [(ii 0), (.slice none 0 0)] e1; clear e1; refine zb (zq (za (ii 2)) (yaa ?_)); replace hS := hS.nil 4 rfl c3 75; exact ych rfl (rv_n (vs := [(ii 0), (.slice none 0 0)]) hE6 underlying24 rfl yan ⟨Row.cell (hS.bx 2 rfl) (i := 0) rfl, Row.cell (hS.bx 2 rfl) (i := 1) rfl, trivial⟩) (rv_t rfl) ⟨_, _, _, _, _, _, rfl, (hS.sel [4] (by decide)), h⟩
        · replace h := h.2 hp4; refine zd hp4 (yah (yam (zr ?_))); obtain ⟨hi, h⟩ := h; refine zq (ycv hE24 rfl hi) (zq (zm (ii (v + 1))) (yaa ?_)); obtain ⟨mq, hlt, h⟩ := h; exact again mq _ _ _ ⟨_, h, rfl, hE1, hE2, hE3, hE6, hE8, hE23, rfl, (hS.sel [0, 1, 2, 3] (by decide))⟩ hlt
    · replace h := h.2 hp2; refine zd hp2 (yaL rfl (yaf (zs (zq (yae hE1) (zq (yae hE2) (zq zE (yaa ?_))))))); by_cases hp5 : a = b
      · replace h := h.1 hp5; refine zc hp5 (zs (zn (ybw (l := []) (cells := [(ii 0), (.slice none 0 0)]) (places := [(0, 1), (1, 1)]) (bp0) underlying24 yan (by kernel_rfl) rfl ?_))); refine zb (zo (yaJ (b := g4) (o := 0) (cells := #[(ii 0), (.slice none 0 0)]) hE6 rfl yan rfl rfl (yaC (hS.bx 2 rfl) (Nat.le_of_ble_eq_true rfl)) ?_)); intro w8 e1; replace hS := hS.bstn 2 rfl 0 [(ii 0), (.slice none 0 0)] e1; clear e1; refine zb (zq (za (ii 7)) (yaa ?_)); replace hS := hS.nil 4 rfl c3 75; exact ych rfl (rv_n (vs := [(ii 0), (.slice none 0 0)]) hE6 underlying24 rfl yan ⟨Row.cell (hS.bx 2 rfl) (i := 0) rfl, Row.cell (hS.bx 2 rfl) (i := 1) rfl, trivial⟩) (rv_t rfl) ⟨_, _, _, _, _, _, rfl, (hS.sel [4] (by decide)), h⟩
      · replace h := h.2 hp5; refine zd hp5 (yah (yaf (ybH [0, 1, 2, 3, 4, 5, 6, 7, 8, 9, 10, 11, 12] (fun i => match i with | 6 => [0, 1, 2, 3] | 7 => [0, 1, 2] | _ => []) yar (by kernel_rfl) (by kernel_rfl) ?_))); replace hS := hS.drew; refine zp (yao hE3 underlying24 rfl yag) (zp (zl underlying3 (Row.cell (hS.bx 0 rfl) (i := 0) rfl)) ?_); obtain ⟨hi2, h⟩ := h; refine zp (zS hi2) (zp (yae hE8) (zp (yae hE1) (zp (yae hE2) (rp_n rfl rfl rfl rfl (yak rfl (am2 rfl rfl) ydK ((ybb h hS.blt).mono ?_)))))); rintro _ w9 ⟨r3, r4, gr, gr2, rfl, hC, h⟩
        · replace hS := hS.call2 hC 4 0 5 1 rfl rfl (by decide) (by decide); clear hC; refine ⟨_, rfl, ?_⟩; refine ⟨⟨fun hh => Bool.noConfusion (show false = true from hh), ⟨fun hh => Bool.noConfusion (show false = true from hh), ⟨fun _ => (yae hE8), ⟨fun _ => (zS hi2), ⟨fun _ => (zl underlying3 (Row.cell (hS.bx 0 rfl) (i := 0) rfl)), ⟨fun _ => (yao hE3 underlying24 rfl yag), trivial⟩⟩⟩⟩⟩⟩, ?_⟩; replace hS := hS.frzb 4 rfl; replace hS := hS.frzb 5 rfl; refine rp_n rfl rfl rfl rfl (yak rfl (am2 rfl rfl) yd1 ((ybG h (yaF _) (hS.rdo 3 rfl) (fun w' hk => ⟨92, #[(.pointer (some (⟨gr, 0, none⟩ : Addr))), (.pointer (some (⟨gr2, 0, none⟩ : Addr)))], rfl, ydl, fun x R hF => yaT (by simp) (yaQ hF (yaF _) (FP.sub _ (FP.keep _ (FP.sub _ (hS.ro 4 rfl) (fun _ _ h => h.elim) : FP.P _ no _) hk) fun _ _ h => h.elim) (FP.sub _ (FP.keep _ (FP.sub _ (hS.ro 5 rfl) (fun _ _ h => h.elim) : FP.P _ no _) hk) fun _ _ h => h.elim))⟩)).mono ?_)); rintro _ w10 ⟨r5, Ar2, lr2, cr2, rfl, hC, h⟩; replace hS := hS.call1 (hC.widen (ybv (yat (fP (fI .i64) (fI .i64)) _ _ _ _ _) ybE) hS.blt) 6 0 rfl; clear hC; refine ⟨_, rfl, ?_⟩; refine ⟨⟨fun hh => Bool.noConfusion (show false = true from hh), ⟨fun hh => Bool.noConfusion (show false = true from hh), ⟨fun hh => Bool.noConfusion (show false = true from hh), ⟨fun _ => (zS hi2), ⟨fun _ => (zl underlying3 (Row.cell (hS.bx 0 rfl) (i := 0) rfl)), ⟨fun _ => (yao hE3 underlying24 rfl yag), trivial⟩⟩⟩⟩⟩⟩, ?_⟩; refine rp_n rfl rfl rfl rfl (yak rfl (am2 rfl rfl) ygo ((yc5 h (yaF _) (hS.rdo 6 rfl)).mono ?_)); rintro _ w11 ⟨r6, r7, r8, Ar3, lr3, cr3, rfl, hC, h⟩; replace hS := hS.call1 (hC.widen (ybv (yat (fP (fI .i64) (fP (fI .i64) (fI .i64))) _ _ _ _ _) ybE) hS.blt) 7 0 rfl; clear hC; refine ⟨_, rfl, ?_⟩; refine zb (zp (zx (.agg #[(ii r6), (.slice Ar3 lr3 cr3)])) (zp (zx (ii r8)) (ygr rfl rfl rfl (yaJ (b := g4) (o := 0) (cells := #[(ii r6), (.slice Ar3 lr3 cr3)]) hE6 rfl yan rfl rfl (yaC (hS.bx 2 rfl) (Nat.le_of_ble_eq_true rfl)) ?_)))); intro w12 e1; replace hS := hS.bstn 2 rfl 0 [(ii r6), (.slice Ar3 lr3 cr3)] e1; clear e1; exact zb (zp (za (ii r8)) (ybk (ych rfl (rv_n (vs := [(ii r6), (.slice Ar3 lr3 cr3)]) hE6 underlying24 rfl yan ⟨Row.cell (hS.bx 2 rfl) (i := 0) rfl, Row.cell (hS.bx 2 rfl) (i := 1) rfl, trivial⟩) (rv_t rfl) ⟨_, _, _, _, _, _, rfl, (hS.sel [7] (by decide)), h⟩)))
  · replace h := h.2 hp; refine zf hp (zs (zn (ybw (l := []) (cells := [(ii 0), (.slice none 0 0)]) (places := [(0, 1), (1, 1)]) (bp0) underlying24 yan (by kernel_rfl) rfl ?_))); refine zb (zq (zm (ii r2)) (zo (yaJ (b := g4) (o := 0) (cells := #[(ii 0), (.slice none 0 0)]) rfl rfl yan rfl rfl (yaC (hS.bx 2 rfl) (Nat.le_of_ble_eq_true rfl)) ?_))); intro w13 e1; replace hS := hS.bstn 2 rfl 0 [(ii 0), (.slice none 0 0)] e1; clear e1; refine zb (zq (za (ii r2)) (yaa ?_)); replace hS := hS.nil 4 rfl c3 75; exact ych rfl (rv_n (vs := [(ii 0), (.slice none 0 0)]) rfl underlying24 rfl yan ⟨Row.cell (hS.bx 2 rfl) (i := 0) rfl, Row.cell (hS.bx 2 rfl) (i := 1) rfl, trivial⟩) (rv_t rfl) ⟨_, _, _, _, _, _, rfl, (hS.sel [4] (by decide)), h⟩
def yaG (data : List Int) (a : Int) (b : Int) (Fcmp : Int → Int → (Int → Prop) → Prop) (R : (List Int) → Prop) : Prop :=
(In64 (a + 1) ∧
(∃ I2 : Nat → Int → (List Int) → Prop, (∃ m0, I2 m0 (a + 1) data) ∧ ∀ m2 i data2, I2 m2 i data2 → 
((i < b →
(∃ I3 : Nat → Int → (List Int) → Prop, (∃ m0, I3 m0 i data2) ∧ ∀ m3 j data3, I3 m3 j data3 → 
(∃ J2 : Prop, (J2 → (In64 (j - 1) ∧
((0 ≤ (j - 1) ∧ (j - 1) < ((data3.length : Nat) : Int)) ∧
((0 ≤ j ∧ j < ((data3.length : Nat) : Int)) ∧
((0 ≤ (j - 1) ∧ (j - 1) < (((data3.set j.toNat (gi data3 (j - 1).toNat)).length : Nat) : Int)) ∧
∃ m4, m4 < m3 ∧ I3 m4 (j - 1) ((data3.set j.toNat (gi data3 (j - 1).toNat)).set (j - 1).toNat (gi data3 j.toNat))))))) ∧
((a < j →
((0 ≤ j ∧ j < ((data3.length : Nat) : Int)) ∧
(In64 (j - 1) ∧
((0 ≤ (j - 1) ∧ (j - 1) < ((data3.length : Nat) : Int)) ∧
Fcmp (gi data3 j.toNat) (gi data3 (j - 1).toNat) (fun (r : Int) =>
((r < 0 →
J2) ∧
(¬ (r < 0) →
(In64 (i + 1) ∧
∃ m5, m5 < m2 ∧ I2 m5 (i + 1) data3)))))))) ∧
(¬ (a < j) →
(In64 (i + 1) ∧
∃ m6, m6 < m2 ∧ I2 m6 (i + 1) data3)))))) ∧
(¬ (i < b) →
R data2))))
theorem ybs {S O : Nat → Prop} {w : World} {data : List Int} {a : Int} {b : Int} {Fcmp : Int → Int → (Int → Prop) → Prop} {Adata : Option Addr} {ldata : Nat} {cdata : Nat} {cmp : Value} {R : (List Int) → Prop} (h : yaG data a b Fcmp R) (hS : Sep w S O w (rl [Res.own cI 3 Adata ldata cdata data, Res.ro (FP.st fun w' => ∃ (fid : Nat) (us : Array Value), cmp = Value.func (.func fid) #[] us ∧ Enters Try.prog fid ∧ ∀ (x0 : Int) (x1 : Int) (R : Int → Prop), Fcmp x0 x1 R → Calls Try.prog fid (#[(Value.int .i64 x0), (Value.int .i64 x1)] ++ us) w' fun e w'' => ∃ r0 : Int, e = .returned (Value.int .i64 r0) ∧ Sep w' no no w'' (rl []) ∧ R r0)])) :
    Calls Try.prog 106 #[(.slice Adata ldata cdata), (ii a), (ii b), cmp] w fun e w' => ∃ z, e = .returned (.tuple #[]) ∧ Sep w S O w' (rl [Res.own cI 3 Adata ldata cdata z]) ∧ R z := by
  unfold yaG at h; refine yaq (l := [(Value.slice Adata ldata cdata), (Value.int .i64 a), (Value.int .i64 b), cmp]) func106 rfl ntmps106 (Nat.le_of_ble_eq_true rfl) ?_; refine yaf ?_; refine yas yar ?_; refine rl_q rfl rfl rfl (yae (v := (.int .i64 a)) rfl) ?_; obtain ⟨hi, h⟩ := h; refine rl_q rfl rfl rfl (ycv rfl rfl hi) ?_; refine rl_q rfl rfl rfl (ybo (v := (.int .i64 (a + 1))) rfl) ?_; refine yaa ?_; refine yaj ?_; obtain ⟨I2, ⟨m0, h0⟩, hr⟩ := h; refine yaO (fun m E ds w' => ∃ i : Int, ∃ data2 : List Int, I2 m i data2 ∧ ds = [] ∧ E 0 = (Value.slice Adata ldata cdata) ∧ E 1 = (Value.int .i64 a) ∧ E 2 = (Value.int .i64 b) ∧ E 3 = cmp ∧ E 8 = (Value.int .i64 i) ∧ Sep w S O w' (rl [Res.own cI 3 Adata ldata cdata data2, Res.ro (FP.st fun w' => ∃ (fid : Nat) (us : Array Value), cmp = Value.func (.func fid) #[] us ∧ Enters Try.prog fid ∧ ∀ (x0 : Int) (x1 : Int) (R : Int → Prop), Fcmp x0 x1 R → Calls Try.prog fid (#[(Value.int .i64 x0), (Value.int .i64 x1)] ++ us) w' fun e w'' => ∃ r0 : Int, e = .returned (Value.int .i64 r0) ∧ Sep w' no no w'' (rl []) ∧ R r0)])) m0 ⟨_, _, h0, rfl, rfl, rfl, rfl, rfl, rfl, (hS.sel [0, 1] (by decide))⟩ ?_; clear h0 hS; rintro m2 E ds w2 ⟨i, data2, h, rfl, hE0, hE1, hE2, hE3, hE8, hS⟩ again; replace h := hr m2 i data2 h; clear hr; refine yaf ?_; refine yaf ?_; refine yas yar ?_; refine rl_q rfl rfl rfl (yae (v := (.int .i64 i)) hE8) ?_; refine rl_q rfl rfl rfl (yae (v := (.int .i64 b)) hE2) ?_; refine rl_q rfl rfl rfl (ycI rfl rfl) ?_; refine yaa ?_; by_cases hp : i < b
  · replace h := h.1 hp; refine yaE (congrArg Value.bool (decide_eq_true hp)) ?_; refine yah ?_; refine yaf ?_; refine yaj ?_; refine yaf ?_; refine yas yar ?_; refine rl_q rfl rfl rfl (yae (v := (.int .i64 i)) hE8) ?_; refine rl_q rfl rfl rfl (ybo (v := (.int .i64 i)) rfl) ?_; refine yaa ?_; refine yaj ?_; obtain ⟨I3, ⟨m0, h0⟩, hr⟩ := h; refine yaO (fun m E ds w' => ∃ j : Int, ∃ data3 : List Int, I3 m j data3 ∧ ds = [] ∧ E 0 = (Value.slice Adata ldata cdata) ∧ E 1 = (Value.int .i64 a) ∧ E 2 = (Value.int .i64 b) ∧ E 3 = cmp ∧ E 8 = (Value.int .i64 i) ∧ E 9 = (Value.int .i64 j) ∧ Sep w S O w' (rl [Res.own cI 3 Adata ldata cdata data3, Res.ro (FP.st fun w' => ∃ (fid : Nat) (us : Array Value), cmp = Value.func (.func fid) #[] us ∧ Enters Try.prog fid ∧ ∀ (x0 : Int) (x1 : Int) (R : Int → Prop), Fcmp x0 x1 R → Calls Try.prog fid (#[(Value.int .i64 x0), (Value.int .i64 x1)] ++ us) w' fun e w'' => ∃ r0 : Int, e = .returned (Value.int .i64 r0) ∧ Sep w' no no w'' (rl []) ∧ R r0)])) m0 ⟨_, _, h0, rfl, hE0, hE1, hE2, hE3, hE8, rfl, (hS.sel [0, 1] (by decide))⟩ ?_; clear h0 hS; rintro m3 E ds w3 ⟨j, data3, h, rfl, hE0, hE1, hE2, hE3, hE8, hE9, hS⟩ again2; replace h := hr m3 j data3 h; clear hr; refine yaf ?_; refine yaf ?_; obtain ⟨J2, hJ, h⟩ := h; refine ycZ (fun E ds w' => J2 ∧ ds = [] ∧ E 0 = (Value.slice Adata ldata cdata) ∧ E 1 = (Value.int .i64 a) ∧ E 2 = (Value.int .i64 b) ∧ E 3 = cmp ∧ E 8 = (Value.int .i64 i) ∧ E 9 = (Value.int .i64 j) ∧ Sep w S O w' (rl [Res.own cI 3 Adata ldata cdata data3, Res.ro (FP.st fun w' => ∃ (fid : Nat) (us : Array Value), cmp = Value.func (.func fid) #[] us ∧ Enters Try.prog fid ∧ ∀ (x0 : Int) (x1 : Int) (R : Int → Prop), Fcmp x0 x1 R → Calls Try.prog fid (#[(Value.int .i64 x0), (Value.int .i64 x1)] ++ us) w' fun e w'' => ∃ r0 : Int, e = .returned (Value.int .i64 r0) ∧ Sep w' no no w'' (rl []) ∧ R r0)])) ?_ ?_
    · clear h hS; rintro E ds w4 ⟨h, rfl, hE0, hE1, hE2, hE3, hE8, hE9, hS⟩; replace h := hJ h; refine yaf (yaj (ybH [0, 1, 2, 3, 4, 5, 6, 7, 8, 9, 10, 11, 12, 13, 14, 15, 16, 17] (fun i => match i with | 15 => [2, 3, 4] | _ => []) yar (by kernel_rfl) (by kernel_rfl) ?_)); replace hS := hS.drew; refine zp (yae hE0) (zp (yae hE9) (zp (yae hE0) (zp (yae hE9) ?_))); obtain ⟨hi2, h⟩ := h; refine zp (zS hi2) (zp (yae hE0) (zp (yae hE9) (zp (zS hi2) ?_))); obtain ⟨hx, h⟩ := h; refine zp (zi underlying27 yag (yaN (hS.rdo 0 rfl) hx)) (zp (yaK (v := (ii (gi data3 (j - 1).toNat))) rfl underlying3 rfl (rd_1 (hS.rdo 0 rfl) hx (fun q => yby q) rfl)) ?_); refine zp (yae hE0) (zp (yae hE9) ?_); obtain ⟨hx2, h⟩ := h; refine zp (zi underlying27 yag (yaN (hS.rdo 0 rfl) hx2)) (zp (yaK (v := (ii (gi data3 j.toNat))) rfl underlying3 rfl (rd_1 (hS.rdo 0 rfl) hx2 (fun q => yby q) rfl)) ?_); refine zp (zi underlying27 yag (yaN (hS.rdo 0 rfl) hx2)) (ygr rfl rfl rfl (zt (ii (gi data3 (j - 1).toNat)) yag (hS.wr 0 rfl rfl hx2) ?_)); intro w5 e1; replace hS := hS.st 0 rfl rfl hx2 (x := gi data3 (j - 1).toNat) rfl e1; clear e1; refine ⟨⟨fun hh => Bool.noConfusion (show false = true from hh), ⟨fun hh => Bool.noConfusion (show false = true from hh), ⟨fun hh => Bool.noConfusion (show false = true from hh), ⟨fun hh => Bool.noConfusion (show false = true from hh), ⟨fun hh => Bool.noConfusion (show false = true from hh), ⟨fun hh => Bool.noConfusion (show false = true from hh), ⟨fun hh => Bool.noConfusion (show false = true from hh), ⟨fun hh => Bool.noConfusion (show false = true from hh), ⟨fun hh => Bool.noConfusion (show false = true from hh), ⟨fun hh => Bool.noConfusion (show false = true from hh), ⟨fun _ => (zS hi2), ⟨fun _ => (yae hE9), ⟨fun _ => (yae hE0), ⟨fun hh => Bool.noConfusion (show false = true from hh), ⟨fun hh => Bool.noConfusion (show false = true from hh), trivial⟩⟩⟩⟩⟩⟩⟩⟩⟩⟩⟩⟩⟩⟩⟩, ?_⟩; obtain ⟨hx3, h⟩ := h; refine zp (zi underlying27 yag (yaN (hS.rdo 0 rfl) hx3)) (ygr rfl rfl rfl (zt (ii (gi data3 j.toNat)) yag (hS.wr 0 rfl rfl hx3) ?_)); intro w6 e1; replace hS := hS.st 0 rfl rfl hx3 (x := gi data3 j.toNat) rfl e1; clear e1; refine zb (ybk (yam (zr (zq (yae hE9) (zq (zS hi2) (zq (za (ii (j - 1))) (yaa ?_))))))); obtain ⟨mq, hlt, h⟩ := h; exact again2 mq _ _ _ ⟨_, _, h, rfl, hE0, hE1, hE2, hE3, hE8, rfl, (hS.sel [0, 1] (by decide))⟩ hlt
    clear hJ; intro j2; refine ybH [0, 1, 2, 3, 4, 5, 6, 7, 8, 9, 10, 11, 12, 13, 14, 15, 16] st0 yar (by kernel_rfl) (by kernel_rfl) ?_; replace hS := hS.drew; refine zp (yae hE9) (zp (yae hE1) (zp zG (zp (zm (.bool (decide (a < j)))) ?_))); by_cases hp2 : a < j
    · replace h := h.1 hp2; refine rp_q (yad rfl (yac rfl (congrArg Value.bool (decide_eq_true hp2)))) rfl rfl (yae hE3) (rp_q (yad rfl (yac rfl (congrArg Value.bool (decide_eq_true hp2)))) rfl rfl (yae hE0) (rp_q (yad rfl (yac rfl (congrArg Value.bool (decide_eq_true hp2)))) rfl rfl (yae hE9) ?_)); obtain ⟨hx4, h⟩ := h; refine rp_q (yad rfl (yac rfl (congrArg Value.bool (decide_eq_true hp2)))) rfl rfl (zi underlying27 yag (yaN (hS.rdo 0 rfl) hx4)) (rp_q (yad rfl (yac rfl (congrArg Value.bool (decide_eq_true hp2)))) rfl rfl (yaK (v := (ii (gi data3 j.toNat))) rfl underlying3 rfl (rd_1 (hS.rdo 0 rfl) hx4 (fun q => yby q) rfl)) ?_); refine rp_q (yad rfl (yac rfl (congrArg Value.bool (decide_eq_true hp2)))) rfl rfl (yae hE0) (rp_q (yad rfl (yac rfl (congrArg Value.bool (decide_eq_true hp2)))) rfl rfl (yae hE9) ?_); obtain ⟨hi5, h⟩ := h; refine rp_q (yad rfl (yac rfl (congrArg Value.bool (decide_eq_true hp2)))) rfl rfl (zS hi5) ?_; obtain ⟨hx5, h⟩ := h; refine rp_q (yad rfl (yac rfl (congrArg Value.bool (decide_eq_true hp2)))) rfl rfl (zi underlying27 yag (yaN (hS.rdo 0 rfl) hx5)) (rp_q (yad rfl (yac rfl (congrArg Value.bool (decide_eq_true hp2)))) rfl rfl (yaK (v := (ii (gi data3 (j - 1).toNat))) rfl underlying3 rfl (rd_1 (hS.rdo 0 rfl) hx5 (fun q => yby q) rfl)) ?_); obtain ⟨fid, us, hf, he, hcl⟩ := hS.ro 1 rfl _ (Keeps.refl _ _); replace h := hcl _ _ _ h; clear hcl; refine rp_n (yad rfl (yac rfl (congrArg Value.bool (decide_eq_true hp2)))) rfl rfl rfl (ycS (hf) (am2 rfl rfl) he (h.mono ?_)); clear hf he; rintro _ w7 ⟨r, rfl, hC, h⟩; replace hS := hS.pur hC.pure; clear hC; refine ⟨_, rfl, ?_⟩; refine zb (rp_q (yad rfl (yac rfl (congrArg Value.bool (decide_eq_true hp2)))) rfl rfl zL (zp (yaw (v := (.bool (decide (r < 0)))) (congrArg Value.bool (decide_eq_true hp2)) rfl) (ybk ?_))); by_cases hp3 : r < 0
      · replace h := h.1 hp3; exact zc hp3 (yah (j2 _ _ _ ⟨h, rfl, hE0, hE1, hE2, hE3, hE8, hE9, (hS.sel [0, 1] (by decide))⟩))
      · replace h := h.2 hp3; refine zd hp3 (yaL rfl (yam (zr (zq (yae hE8) ?_)))); obtain ⟨hi6, h⟩ := h; refine zq (zA hi6) (zq (za (ii (i + 1))) (yaa ?_)); obtain ⟨mq, hlt, h⟩ := h; exact again mq _ _ _ ⟨_, _, h, rfl, hE0, hE1, hE2, hE3, rfl, (hS.sel [0, 1] (by decide))⟩ hlt
    · replace h := h.2 hp2; refine rp_p (yab rfl (yac rfl (congrArg Value.bool (decide_eq_false hp2))) rfl) rfl (rp_p (yab rfl (yac rfl (congrArg Value.bool (decide_eq_false hp2))) rfl) rfl (rp_p (yab rfl (yac rfl (congrArg Value.bool (decide_eq_false hp2))) rfl) rfl (rp_p (yab rfl (yac rfl (congrArg Value.bool (decide_eq_false hp2))) rfl) rfl (rp_p (yab rfl (yac rfl (congrArg Value.bool (decide_eq_false hp2))) rfl) rfl (rp_p (yab rfl (yac rfl (congrArg Value.bool (decide_eq_false hp2))) rfl) rfl (rp_p (yab rfl (yac rfl (congrArg Value.bool (decide_eq_false hp2))) rfl) rfl (rp_p (yab rfl (yac rfl (congrArg Value.bool (decide_eq_false hp2))) rfl) rfl (rp_p (yab rfl (yac rfl (congrArg Value.bool (decide_eq_false hp2))) rfl) rfl (rp_p (yab rfl (yac rfl (congrArg Value.bool (decide_eq_false hp2))) rfl) rfl (rp_p (yab rfl (yac rfl (congrArg Value.bool (decide_eq_false hp2))) rfl) rfl (rp_p (yab rfl (yac rfl (congrArg Value.bool (decide_eq_false hp2))) rfl) rfl (zp (yap (v := (.bool (false))) (congrArg Value.bool (decide_eq_false hp2)) rfl) (ybk (ya7 rfl (yaL rfl (yam (zr (zq (yae hE8) ?_)))))))))))))))))); obtain ⟨hi7, h⟩ := h; refine zq (zA hi7) (zq (za (ii (i + 1))) (yaa ?_)); obtain ⟨mq, hlt, h⟩ := h; exact again mq _ _ _ ⟨_, _, h, rfl, hE0, hE1, hE2, hE3, rfl, (hS.sel [0, 1] (by decide))⟩ hlt
  · replace h := h.2 hp; exact zd hp (yaL rfl (wt_end0 rfl ⟨_, rfl, (hS.sel [0] (by decide)), h⟩))
def ybq (data : List Int) (n : Int) (Fcmp : Int → Int → (Int → Prop) → Prop) (R : (List Int) → Prop) : Prop :=
(∃ I2 : Nat → Int → Int → (List Int) → Prop, (∃ m0, I2 m0 0 20 data) ∧ ∀ m2 a b data2, I2 m2 a b data2 → 
((b ≤ n →
yaG data2 a b Fcmp (fun y =>
(In64 (b + 20) ∧
∃ m3, m3 < m2 ∧ I2 m3 b (b + 20) y))) ∧
(¬ (b ≤ n) →
yaG data2 a n Fcmp (fun y2 =>
(∃ I3 : Nat → Int → Prop, (∃ m0, I3 m0 20) ∧ ∀ m4 blockSize, I3 m4 blockSize → 
((blockSize < n →
(In64 (2 * blockSize) ∧
(∃ I4 : Nat → Int → Int → Prop, (∃ m0, I4 m0 0 (2 * blockSize)) ∧ ∀ m5 a2 b2, I4 m5 a2 b2 → 
((b2 ≤ n →
(In64 (a2 + blockSize) ∧
False)) ∧
(¬ (b2 ≤ n) →
(In64 (a2 + blockSize) ∧
(((a2 + blockSize) < n →
False) ∧
(¬ ((a2 + blockSize) < n) →
(In64 (blockSize * 2) ∧
∃ m6, m6 < m4 ∧ I3 m6 (blockSize * 2)))))))))) ∧
(¬ (blockSize < n) →
R y2)))))))
theorem ycK {S O : Nat → Prop} {w : World} {data : List Int} {n : Int} {Fcmp : Int → Int → (Int → Prop) → Prop} {Adata : Option Addr} {ldata : Nat} {cdata : Nat} {cmp : Value} {R : (List Int) → Prop} (h : ybq data n Fcmp R) (hS : Sep w S O w (rl [Res.own cI 3 Adata ldata cdata data, Res.ro (FP.st fun w' => ∃ (fid : Nat) (us : Array Value), cmp = Value.func (.func fid) #[] us ∧ Enters Try.prog fid ∧ ∀ (x0 : Int) (x1 : Int) (R : Int → Prop), Fcmp x0 x1 R → Calls Try.prog fid (#[(Value.int .i64 x0), (Value.int .i64 x1)] ++ us) w' fun e w'' => ∃ r0 : Int, e = .returned (Value.int .i64 r0) ∧ Sep w' no no w'' (rl []) ∧ R r0)])) :
    Calls Try.prog 93 #[(.slice Adata ldata cdata), (ii n), cmp] w fun e w' => ∃ z, e = .returned (.tuple #[]) ∧ Sep w S O w' (rl [Res.own cI 3 Adata ldata cdata z]) ∧ R z := by
  unfold ybq at h; refine yaq (l := [(Value.slice Adata ldata cdata), (Value.int .i64 n), cmp]) func93 rfl ntmps93 (Nat.le_of_ble_eq_true rfl) ?_; refine yaf ?_; refine yas yar ?_; refine rl_q rfl rfl rfl (ybo (v := (.int .i64 20)) rfl) ?_; refine yaa ?_; refine yaf ?_; refine yas yar ?_; refine rl_q rfl rfl rfl (yae (v := (.int .i64 20)) rfl) ?_; refine rl_q rfl rfl rfl (ybo (v := (.int .i64 0)) rfl) ?_; refine rl_q rfl rfl rfl (ybo (v := (.int .i64 20)) rfl) ?_; refine yaa ?_; refine yaf ?_; refine yaj ?_; obtain ⟨I2, ⟨m0, h0⟩, hr⟩ := h; refine yaO (fun m E ds w' => ∃ a : Int, ∃ b : Int, ∃ data2 : List Int, I2 m a b data2 ∧ ds = [] ∧ E 0 = (Value.slice Adata ldata cdata) ∧ E 1 = (Value.int .i64 n) ∧ E 2 = cmp ∧ E 6 = (Value.int .i64 20) ∧ E 7 = (Value.int .i64 a) ∧ E 8 = (Value.int .i64 b) ∧ Sep w S O w' (rl [Res.own cI 3 Adata ldata cdata data2, Res.ro (FP.st fun w' => ∃ (fid : Nat) (us : Array Value), cmp = Value.func (.func fid) #[] us ∧ Enters Try.prog fid ∧ ∀ (x0 : Int) (x1 : Int) (R : Int → Prop), Fcmp x0 x1 R → Calls Try.prog fid (#[(Value.int .i64 x0), (Value.int .i64 x1)] ++ us) w' fun e w'' => ∃ r0 : Int, e = .returned (Value.int .i64 r0) ∧ Sep w' no no w'' (rl []) ∧ R r0)])) m0 ⟨_, _, _, h0, rfl, rfl, rfl, rfl, rfl, rfl, rfl, (hS.sel [0, 1] (by decide))⟩ ?_; clear h0 hS; rintro m2 E ds w2 ⟨a, b, data2, h, rfl, hE0, hE1, hE2, hE6, hE7, hE8, hS⟩ again; replace h := hr m2 a b data2 h; clear hr; refine yaf ?_; refine yaf ?_; refine yas yar ?_; refine rl_q rfl rfl rfl (yae (v := (.int .i64 b)) hE8) ?_; refine rl_q rfl rfl rfl (yae (v := (.int .i64 n)) hE1) ?_; refine rl_q rfl rfl rfl (v_leq rfl rfl) ?_; refine yaa ?_; by_cases hp : b ≤ n
  · replace h := h.1 hp; refine zc hp (yah (yaj (zs (zq (yae hE0) (zq (yae hE7) (zq (yae hE8) (zq (yae hE2) ?_))))))); have hB := hS.lend (asc [(0, 0)]) [0, 1] (by decide) ⟨.inl (ydv rfl), .inr rfl, trivial⟩; refine zn (ycS (vs := #[(.slice Adata ldata cdata), (ii a), (ii b), cmp]) (us := #[]) rfl (am4 rfl rfl rfl rfl) enter_106 ((yaT (by simp) (ybs h hB)).mono ?_)); rintro _ w3 ⟨y, rfl, hC, h⟩; replace hS := hS.back (asc [(0, 0)]) (ydy (by decide)) hC; clear hC hB; refine ⟨_, rfl, ?_⟩; refine zb (yaa (zs (zq (yae hE8) (zq (za (ii b)) (yaa (zr (zq (yae hE8) (zq (yae hE6) ?_)))))))); obtain ⟨hi, h⟩ := h; refine zq (zA hi) (zq (za (ii (b + 20))) (yaa (yam ?_))); obtain ⟨mq, hlt, h⟩ := h; exact again mq _ _ _ ⟨_, _, _, h, rfl, hE0, hE1, hE2, hE6, rfl, rfl, (hS.sel [0, 1] (by decide))⟩ hlt
  · replace h := h.2 hp; refine ya7 (congrArg Value.bool (decide_eq_false hp)) ?_; refine yaL rfl ?_; refine yaf ?_; refine yas yar ?_; refine rl_q rfl rfl rfl (yae (v := (.slice Adata ldata cdata)) hE0) ?_; refine rl_q rfl rfl rfl (yae (v := (.int .i64 a)) hE7) ?_; refine rl_q rfl rfl rfl (yae (v := (.int .i64 n)) hE1) ?_; refine rl_q rfl rfl rfl (yae (v := cmp) hE2) ?_; have hB := hS.lend (asc [(0, 0)]) [0, 1] (by decide) ⟨.inl (ydv rfl), .inr rfl, trivial⟩; refine rl_n rfl rfl rfl rfl (ycS (vs := #[(.slice Adata ldata cdata), (.int .i64 a), (.int .i64 n), cmp]) (us := #[]) rfl (am4 rfl rfl rfl rfl) enter_106 ((yaT (by simp) (ybs h hB)).mono ?_)); rintro _ w4 ⟨y2, rfl, hC, h⟩; replace hS := hS.back (asc [(0, 0)]) (ydy (by decide)) hC; clear hC hB; refine ⟨_, rfl, ?_⟩; refine ⟨Stb.none _, ?_⟩; refine yaa ?_; refine yaj ?_; obtain ⟨I3, ⟨m0, h0⟩, hr⟩ := h; refine yaO (fun m E ds w' => ∃ blockSize : Int, I3 m blockSize ∧ ds = [] ∧ E 0 = (Value.slice Adata ldata cdata) ∧ E 1 = (Value.int .i64 n) ∧ E 2 = cmp ∧ E 6 = (Value.int .i64 blockSize) ∧ Sep w S O w' (rl [Res.own cI 3 Adata ldata cdata y2, Res.ro (FP.st fun w' => ∃ (fid : Nat) (us : Array Value), cmp = Value.func (.func fid) #[] us ∧ Enters Try.prog fid ∧ ∀ (x0 : Int) (x1 : Int) (R : Int → Prop), Fcmp x0 x1 R → Calls Try.prog fid (#[(Value.int .i64 x0), (Value.int .i64 x1)] ++ us) w' fun e w'' => ∃ r0 : Int, e = .returned (Value.int .i64 r0) ∧ Sep w' no no w'' (rl []) ∧ R r0)])) m0 ⟨_, h0, rfl, hE0, hE1, hE2, hE6, (hS.sel [0, 1] (by decide))⟩ ?_; clear h0 hS; rintro m4 E ds w5 ⟨blockSize, h, rfl, hE0, hE1, hE2, hE6, hS⟩ again2; replace h := hr m4 blockSize h; clear hr; refine yaf ?_; refine yaf ?_; refine yas yar ?_; refine rl_q rfl rfl rfl (yae (v := (.int .i64 blockSize)) hE6) ?_; refine rl_q rfl rfl rfl (yae (v := (.int .i64 n)) hE1) ?_; refine rl_q rfl rfl rfl (ycI rfl rfl) ?_; refine yaa ?_; by_cases hp2 : blockSize < n
    · replace h := h.1 hp2; refine yaE (congrArg Value.bool (decide_eq_true hp2)) ?_; refine yah ?_; refine yaj ?_; refine yaf ?_; refine yas yar ?_; refine rl_q rfl rfl rfl (yae (v := (.int .i64 blockSize)) hE6) ?_; obtain ⟨hi2, h⟩ := h; refine rl_q rfl rfl rfl (v_mul rfl rfl hi2) ?_; refine rl_q rfl rfl rfl (ybo (v := (.int .i64 0)) rfl) ?_; refine rl_q rfl rfl rfl (ybo (v := (.int .i64 (2 * blockSize))) rfl) ?_; refine yaa ?_; refine yaf ?_; refine yaj ?_; obtain ⟨I4, ⟨m0, h0⟩, hr⟩ := h; refine yaO (fun m E ds w' => ∃ a2 : Int, ∃ b2 : Int, I4 m a2 b2 ∧ ds = [] ∧ E 0 = (Value.slice Adata ldata cdata) ∧ E 1 = (Value.int .i64 n) ∧ E 2 = cmp ∧ E 6 = (Value.int .i64 blockSize) ∧ E 7 = (Value.int .i64 a2) ∧ E 8 = (Value.int .i64 b2) ∧ Sep w S O w' (rl [Res.own cI 3 Adata ldata cdata y2, Res.ro (FP.st fun w' => ∃ (fid : Nat) (us : Array Value), cmp = Value.func (.func fid) #[] us ∧ Enters Try.prog fid ∧ ∀ (x0 : Int) (x1 : Int) (R : Int → Prop), Fcmp x0 x1 R → Calls Try.prog fid (#[(Value.int .i64 x0), (Value.int .i64 x1)] ++ us) w' fun e w'' => ∃ r0 : Int, e = .returned (Value.int .i64 r0) ∧ Sep w' no no w'' (rl []) ∧ R r0)])) m0 ⟨_, _, h0, rfl, hE0, hE1, hE2, hE6, rfl, rfl, (hS.sel [0, 1] (by decide))⟩ ?_; clear h0 hS; rintro m5 E ds w6 ⟨a2, b2, h, rfl, hE0, hE1, hE2, hE6, hE7, hE8, hS⟩ again3; replace h := hr m5 a2 b2 h; clear hr; refine yaf ?_; refine yaf ?_; refine yas yar ?_; refine rl_q rfl rfl rfl (yae (v := (.int .i64 b2)) hE8) ?_; refine rl_q rfl rfl rfl (yae (v := (.int .i64 n)) hE1) ?_; refine rl_q rfl rfl rfl (v_leq rfl rfl) ?_; refine yaa ?_; by_cases hp3 : b2 ≤ n
      · replace h := h.1 hp3; refine zc hp3 (yah (yaj (zs (zq (yae hE0) (zq (yae hE7) (zq (yae hE7) (zq (yae hE6) ?_))))))); obtain ⟨hi3, h⟩ := h; exact zq (zA hi3) (zq (yae hE8) (zq (yae hE2) h.elim))
      · replace h := h.2 hp3; refine zd hp3 (yaL rfl (yaf (zs (zq (yae hE7) (zq (yae hE6) ?_))))); obtain ⟨hi4, h⟩ := h; refine zq (zA hi4) (zq (za (ii (a2 + blockSize))) (yaa (zs (zq (zm (ii (a2 + blockSize))) (zq (yae hE1) (zq zL (yaa ?_))))))); by_cases hp4 : (a2 + blockSize) < n
        · replace h := h.1 hp4; exact zc hp4 (zr (zq (yae hE0) (zq (yae hE7) (zq (zm (ii (a2 + blockSize))) (zq (yae hE1) (zq (yae hE2) h.elim))))))
        · replace h := h.2 hp4; refine zd hp4 (yah (zr (zq (yae hE6) ?_))); obtain ⟨hi5, h⟩ := h; refine zq (v_mul rfl rfl hi5) (zq (za (ii (blockSize * 2))) (yaa (yam ?_))); obtain ⟨mq, hlt, h⟩ := h; exact again2 mq _ _ _ ⟨_, h, rfl, hE0, hE1, hE2, rfl, (hS.sel [0, 1] (by decide))⟩ hlt
    · replace h := h.2 hp2; exact zd hp2 (yaL rfl (wt_end0 rfl ⟨_, rfl, (hS.sel [0] (by decide)), h⟩))
def ya5 (x : List Int) (Fcmp : Int → Int → (Int → Prop) → Prop) (R : (List Int) → Prop) : Prop :=
ybq x ((x.length : Nat) : Int) Fcmp (fun y =>
R y)
theorem ybh {S O : Nat → Prop} {w : World} {x : List Int} {Fcmp : Int → Int → (Int → Prop) → Prop} {Ax : Option Addr} {lx : Nat} {cx : Nat} {cmp : Value} {R : (List Int) → Prop} (h : ya5 x Fcmp R) (hS : Sep w S O w (rl [Res.own cI 3 Ax lx cx x, Res.ro (FP.st fun w' => ∃ (fid : Nat) (us : Array Value), cmp = Value.func (.func fid) #[] us ∧ Enters Try.prog fid ∧ ∀ (x0 : Int) (x1 : Int) (R : Int → Prop), Fcmp x0 x1 R → Calls Try.prog fid (#[(Value.int .i64 x0), (Value.int .i64 x1)] ++ us) w' fun e w'' => ∃ r0 : Int, e = .returned (Value.int .i64 r0) ∧ Sep w' no no w'' (rl []) ∧ R r0)])) :
    Calls Try.prog 58 #[(.slice Ax lx cx), cmp] w fun e w' => ∃ z, e = .returned (.tuple #[]) ∧ Sep w S O w' (rl [Res.own cI 3 Ax lx cx z]) ∧ R z := by
  unfold ya5 at h; refine yaq (l := [(.slice Ax lx cx), cmp]) func58 rfl ntmps58 (Nat.le_of_ble_eq_true rfl) (zr (zq (zm (.slice Ax lx cx)) (zq (zm (.slice Ax lx cx)) (zq (yay (n := x.length) rfl underlying27 (yav (hS.rdo 0 rfl))) (zq (zm cmp) ?_))))); have hB := hS.lend (asc [(0, 0)]) [0, 1] (by decide) ⟨.inl (ydv rfl), .inr rfl, trivial⟩; refine zn (ycS (vs := #[(.slice Ax lx cx), (ii ((x.length : Nat) : Int)), cmp]) (us := #[]) rfl (am3 rfl rfl rfl) enter_93 ((yaT (by simp) (ycK h hB)).mono ?_)); rintro _ w2 ⟨y, rfl, hC, h⟩; replace hS := hS.back (asc [(0, 0)]) (ydy (by decide)) hC; clear hC hB; refine ⟨_, rfl, ?_⟩; exact zb (yaa (wt_end0 rfl ⟨_, rfl, (hS.sel [0] (by decide)), h⟩))
def ya8 (i : Int) (k : Int) (cap : List (Int × Int)) (R : Int → Prop) : Prop :=
((0 ≤ i ∧ i < ((cap.length : Nat) : Int)) ∧
((0 ≤ (0 : Int) ∧ (0 : Int) < 2) ∧
((0 ≤ k ∧ k < ((cap.length : Nat) : Int)) ∧
((0 ≤ (1 : Int) ∧ (1 : Int) < 2) ∧
ya1 ((gx cap i.toNat).1) ((gx cap k.toNat).1) (fun r =>
ya1 ((gx cap i.toNat).2) ((gx cap k.toNat).2) (fun r2 =>
yb0 ([r, r2]) (fun r3 =>
R r3)))))))
theorem ybS {O : Nat → Prop} {w : World} {i k cap gc Acap lcap ccap} {R : Int → Prop} (h : ya8 i k cap R) (hO : ∀ k, O k → k < w.heap.size) (hA0 : (FP.bx 46 gc [(Value.slice Acap lcap ccap)]).P O w) (hA1 : (FP.sl c2 Acap lcap ccap cap).P O w) :
    Calls Try.prog 59 #[(ii i), (ii k), (.pointer (some (⟨gc, 0, none⟩ : Addr)))] w fun e w' => ∃ r4, e = .returned (ii r4) ∧ Sep w no O w' (rl []) ∧ R r4 := by
  unfold ya8 at h; have hS : Sep w no O w (rl [Res.ro (FP.bx 46 gc [(.slice Acap lcap ccap)]), Res.ro (FP.sl c2 Acap lcap ccap cap)]) := Sep.startl hO [(FP.bx 46 gc [(.slice Acap lcap ccap)]), (FP.sl c2 Acap lcap ccap cap)] ⟨hA0, hA1, trivial⟩; refine yaq (l := [(ii i), (ii k), (.pointer (some (⟨gc, 0, none⟩ : Addr)))]) func59 rfl ntmps59 (Nat.le_of_ble_eq_true rfl) (zs (zq (za (ii 0)) (yaa (yaf (ybH [0, 1, 2, 3, 4, 5, 6, 7, 8, 9, 11, 12, 13, 14, 15, 16, 17, 18, 19, 20, 10, 21, 22, 23, 24] (fun i => match i with | 10 => [11, 12, 13, 14, 15, 16, 17, 18, 19, 20] | _ => []) yar (by kernel_rfl) (by kernel_rfl) ?_))))); replace hS := hS.drew; refine zp (zl underlying46 (Row.cell (hS.bxr 0 rfl) (i := 0) rfl)) (zp (zm (ii i)) ?_); obtain ⟨hx, h⟩ := h; refine zp (zi underlying46 yal (yaN (hS.rdr 1 rfl) hx)) ?_; obtain ⟨hx2, h⟩ := h; refine zp (yaA rfl rfl underlying45 yag hx2) (zp (yaK (v := (ii ((gx cap i.toNat).1))) rfl underlying3 rfl (rd_f (hS.rdr 1 rfl) hx (fun q => yaS q) 0 rfl)) ?_); refine zp (zl underlying46 (Row.cell (hS.bxr 0 rfl) (i := 0) rfl)) (zp (zm (ii k)) ?_); obtain ⟨hx3, h⟩ := h; refine zp (zi underlying46 yal (yaN (hS.rdr 1 rfl) hx3)) (zp (yaA rfl rfl underlying45 yag hx2) (zp (yaK (v := (ii ((gx cap k.toNat).1))) rfl underlying3 rfl (rd_f (hS.rdr 1 rfl) hx3 (fun q => yaS q) 0 rfl)) ?_)); refine zp (zl underlying46 (Row.cell (hS.bxr 0 rfl) (i := 0) rfl)) (zp (zm (ii i)) (zp (zi underlying46 yal (yaN (hS.rdr 1 rfl) hx)) ?_)); obtain ⟨hx4, h⟩ := h; refine zp (yaA rfl rfl underlying45 yag hx4) (zp (yaK (v := (ii ((gx cap i.toNat).2))) rfl underlying3 rfl (rd_f (hS.rdr 1 rfl) hx (fun q => yaS q) 1 rfl)) ?_); refine zp (zl underlying46 (Row.cell (hS.bxr 0 rfl) (i := 0) rfl)) (zp (zm (ii k)) (zp (zi underlying46 yal (yaN (hS.rdr 1 rfl) hx3)) (zp (yaA rfl rfl underlying45 yag hx4) (zp (yaK (v := (ii ((gx cap k.toNat).2))) rfl underlying3 rfl (rd_f (hS.rdr 1 rfl) hx3 (fun q => yaS q) 1 rfl)) ?_)))); refine rp_n rfl rfl rfl rfl (yak rfl (am2 rfl rfl) yeK ((ybL h (yaF _)).mono ?_)); rintro _ w2 ⟨r, rfl, hC, h⟩; replace hS := hS.pur hC.pure; clear hC; refine ⟨_, rfl, ?_⟩; refine ⟨⟨fun _ => (yaK (v := (ii ((gx cap k.toNat).2))) rfl underlying3 rfl (rd_f (hS.rdr 1 rfl) hx3 (fun q => yaS q) 1 rfl)), ⟨fun _ => (yaA rfl rfl underlying45 yag hx4), ⟨fun _ => (zi underlying46 yal (yaN (hS.rdr 1 rfl) hx3)), ⟨fun _ => (zm (ii k)), ⟨fun _ => (zl underlying46 (Row.cell (hS.bxr 0 rfl) (i := 0) rfl)), ⟨fun _ => (yaK (v := (ii ((gx cap i.toNat).2))) rfl underlying3 rfl (rd_f (hS.rdr 1 rfl) hx (fun q => yaS q) 1 rfl)), ⟨fun _ => (yaA rfl rfl underlying45 yag hx4), ⟨fun _ => (zi underlying46 yal (yaN (hS.rdr 1 rfl) hx)), ⟨fun _ => (zm (ii i)), ⟨fun _ => (zl underlying46 (Row.cell (hS.bxr 0 rfl) (i := 0) rfl)), ⟨fun hh => Bool.noConfusion (show false = true from hh), ⟨fun hh => Bool.noConfusion (show false = true from hh), ⟨fun hh => Bool.noConfusion (show false = true from hh), ⟨fun hh => Bool.noConfusion (show false = true from hh), ⟨fun hh => Bool.noConfusion (show false = true from hh), ⟨fun hh => Bool.noConfusion (show false = true from hh), ⟨fun hh => Bool.noConfusion (show false = true from hh), ⟨fun hh => Bool.noConfusion (show false = true from hh), ⟨fun hh => Bool.noConfusion (show false = true from hh), ⟨fun hh => Bool.noConfusion (show false = true from hh), trivial⟩⟩⟩⟩⟩⟩⟩⟩⟩⟩⟩⟩⟩⟩⟩⟩⟩⟩⟩⟩, ?_⟩; refine rp_n rfl rfl rfl rfl (yak rfl (am2 rfl rfl) yeK ((ybL h (yaF _)).mono ?_)); rintro _ w3 ⟨r2, rfl, hC, h⟩; replace hS := hS.pur hC.pure; clear hC; refine ⟨_, rfl, ?_⟩; refine zb (rp_n rfl rfl rfl rfl (yaU (l := [(0, (ii r)), (1, (ii r2))]) (cells := [(ii r), (ii r2)]) (bp2 rfl rfl) underlying27 yag rfl rfl ?_)); intro g w4 hN; replace hS := hS.litf (n := 2) 2 rfl (fI .i64) hN ([r, r2] : List Int) rfl (by decide) rfl; clear hN; refine zb (rp_n rfl rfl rfl rfl (yak rfl (am1 rfl) enter_60 ((ydT h (yaF _) (hS.rdo 2 rfl)).mono ?_))); rintro _ w5 ⟨r3, rfl, hC, h⟩; replace hS := hS.pur hC.pure; clear hC; refine ⟨_, rfl, ?_⟩; exact zb (zp (za (ii r3)) (ybk (yai rfl rfl ⟨_, rfl, (hS.sel [] (by decide)), h⟩)))
def ybe (d : Int) (d2 : List E3) (i : Int) (R : (List Int) → (List Int) → Int → Prop) : Prop :=
ya9 d d2 i (fun r r2 =>
((r2 = 0 →
((0 ≤ i ∧ i < ((r.length : Nat) : Int)) ∧
((0 ≤ (0 : Int) ∧ (0 : Int) < 2) ∧
((0 ≤ (1 : Int) ∧ (1 : Int) < 2) ∧
(yaB ((gx r i.toNat).1) ((gx r i.toNat).2) (fun r3 r4 =>
ybm r (fun x R => yaD x r3 r4 R) (fun r5 =>
(∃ J2 : (List Int) → (List Int) → Prop, (∀ (v : List Int) (v2 : List Int), J2 v v2 → (∃ I2 : Nat → (List Int) → Int → (List Int) → Prop, (∃ m0, I2 m0 ([]) 0 v) ∧ ∀ m2 v3 v4 v5, I2 m2 v3 v4 v5 → 
((v4 < ((r.length : Nat) : Int) →
((v4 = i →
(In64 (v4 + 1) ∧
∃ m3, m3 < m2 ∧ I2 m3 v3 (v4 + 1) v5)) ∧
(¬ (v4 = i) →
((0 ≤ v4 ∧ v4 < ((v5.length : Nat) : Int)) ∧
(v3.length + 1 ≤ 1000000000 ∧
(In64 (v4 + 1) ∧
∃ m4, m4 < m2 ∧ I2 m4 (v3 ++ [v4]) (v4 + 1) (v5.set v4.toNat ((v3.length : Nat) : Int)))))))) ∧
(¬ (v4 < ((r.length : Nat) : Int)) →
ya5 v3 (fun x2 x3 R => ya8 x2 x3 r5 R) (fun y =>
(∃ I3 : Nat → Int → (List Int) → Prop, (∃ m0, I3 m0 0 v2) ∧ ∀ m5 v6 v7, I3 m5 v6 v7 → 
((v6 < ((y.length : Nat) : Int) →
((0 ≤ v6 ∧ v6 < ((y.length : Nat) : Int)) ∧
((0 ≤ (gi y v6.toNat) ∧ (gi y v6.toNat) < ((v7.length : Nat) : Int)) ∧
(In64 (v6 + 1) ∧
∃ m6, m6 < m5 ∧ I3 m6 (v6 + 1) (v7.set (gi y v6.toNat).toNat v6))))) ∧
(¬ (v6 < ((y.length : Nat) : Int)) →
((0 ≤ i ∧ i < ((v5.length : Nat) : Int)) ∧
((0 ≤ i ∧ i < ((v7.length : Nat) : Int)) ∧
R (v5.set i.toNat (-1)) (v7.set i.toNat (-1)) 0)))))))))) ∧
((((0 ≤ ((r.length : Nat) : Int) ∧ ((r.length : Nat) : Int) ≤ 1000000) ∧
J2 (List.replicate ((r.length : Nat) : Int).toNat (0 : Int)) (List.replicate ((r.length : Nat) : Int).toNat (0 : Int)))) ∧
(((0 ≤ ((r.length : Nat) : Int) ∧ ((r.length : Nat) : Int) ≤ 1000000) ∧
J2 (List.replicate ((r.length : Nat) : Int).toNat (0 : Int)) (List.replicate ((r.length : Nat) : Int).toNat (0 : Int))))))))))))) ∧
(¬ (r2 = 0) →
R ([]) ([]) r2)))
theorem ycC {O : Nat → Prop} {w : World} {d d2 i Ad ld cd} {R : (List Int) → (List Int) → Int → Prop} (h : ybe d d2 i R) (hO : ∀ k, O k → k < w.heap.size) (hA0 : (FP.sl c3 Ad ld cd d2).P O w) :
    Calls Try.prog 13 #[(.agg #[(ii d), (.slice Ad ld cd)]), (ii i)] w fun e w' => ∃ r10 r11 r12 Ar5 lr5 cr5 Ar6 lr6 cr6, e = .returned (.tuple #[(.slice Ar5 lr5 cr5), (.slice Ar6 lr6 cr6), (ii r12)]) ∧ Sep w no O w' (rl [Res.own cI 3 Ar5 lr5 cr5 r10, Res.own cI 3 Ar6 lr6 cr6 r11]) ∧ R r10 r11 r12 := by
  unfold ybe at h; have hS : Sep w no O w (rl [Res.ro (FP.sl c3 Ad ld cd d2)]) := Sep.startl hO [(FP.sl c3 Ad ld cd d2)] ⟨hA0, trivial⟩; refine yaq (l := [(.agg #[(ii d), (.slice Ad ld cd)]), (ii i)]) func13 rfl ntmps13 (Nat.le_of_ble_eq_true rfl) (zs (zn (yb5 (v := (.agg #[(ii d), (.slice Ad ld cd)])) rfl ?_))); intro g w2 hN; replace hS : Sep w no O w2 (stl _ 1 (Res.box 24 g [(ii d), (.slice Ad ld cd)])) := hS.new 1 rfl hN; clear hN; refine zb (zq (za (.slice none 0 0)) (zq (za (.slice none 0 0)) (zq (za (ii 0)) (yaa (zs (zq (yaz (vs := [(ii d), (.slice Ad ld cd)]) rfl underlying24 rfl yan ⟨Row.cell (hS.bx 1 rfl) (i := 0) rfl, Row.cell (hS.bx 1 rfl) (i := 1) rfl, trivial⟩) (zq (zm (ii i)) (zn (yak rfl (am2 rfl rfl) yeI ((ybK h (yaF _) (hS.rdr 0 rfl)).mono ?_)))))))))); rintro _ w3 ⟨r, r2, Ar, lr, cr, rfl, hC, h⟩; replace hS := hS.call1 (hC.widen (ybv (yat (fP (fI .i64) (fI .i64)) _ _ _ _ _) ybE) hS.blt) 2 0 rfl; clear hC; refine ⟨_, rfl, ?_⟩; refine zb (zq (zm (.tuple #[(.slice Ar lr cr), (ii r2)])) (zq (zx (.slice Ar lr cr)) (zq (zx (ii r2)) (zq (za (.slice Ar lr cr)) (zq (za (ii r2)) (yaa (yaf (zs (zq (zm (ii r2)) (zq zN (yaa ?_))))))))))); by_cases hp : r2 = 0
  · replace h := h.1 hp; refine ze hp (yah (yaf (wt_drawT (.one 0 [] (.one 1 [] (.one 2 [] (.one 3 [] (.one 4 [] (.one 5 [] (.one 6 [] (.one 7 [] (.one 8 [] (.one 9 [] (.one 10 [] (.both (.one 11 [0] (.both (.one 12 [] (.one 13 [0, 1, 2, 3, 4, 5, 6, 7, 8, 9, 10] (.one 14 [] .nil))) (.one 13 [0, 1, 2, 3, 4, 5, 6, 7, 8, 9, 10] (.one 12 [] (.one 14 [] .nil))))) (.one 13 [0, 1, 2, 3, 4, 5, 6, 7, 8, 9, 10] (.one 11 [0] (.one 12 [] (.one 14 [] .nil)))))))))))))))) yar (by kernel_rfl) (by kernel_rfl) ?_))); replace hS := hS.drew; refine rt_q rfl rfl rfl rfl (zm (.slice Ar lr cr)) (rt_q rfl rfl rfl rfl (zm (.slice Ar lr cr)) (rt_q rfl rfl rfl rfl (zm (ii i)) ?_)); obtain ⟨hx, h⟩ := h; refine rt_q rfl rfl rfl rfl (zi underlying46 yal (yaN (hS.rdo 2 rfl) hx)) ?_; obtain ⟨hx2, h⟩ := h; refine rt_q rfl rfl rfl rfl (yaA rfl rfl underlying45 yag hx2) (rt_q rfl rfl rfl rfl (yaK (v := (ii ((gx r i.toNat).1))) rfl underlying3 rfl (rd_f (hS.rdo 2 rfl) hx (fun q => yaS q) 0 rfl)) ?_); refine rt_q rfl rfl rfl rfl (zm (.slice Ar lr cr)) (rt_q rfl rfl rfl rfl (zm (ii i)) (rt_q rfl rfl rfl rfl (zi underlying46 yal (yaN (hS.rdo 2 rfl) hx)) ?_)); obtain ⟨hx3, h⟩ := h; refine rt_q rfl rfl rfl rfl (yaA rfl rfl underlying45 yag hx3) (rt_q rfl rfl rfl rfl (yaK (v := (ii ((gx r i.toNat).2))) rfl underlying3 rfl (rd_f (hS.rdo 2 rfl) hx (fun q => yaS q) 1 rfl)) ?_); refine rt_both ?_ ?_
    · refine rt_n rfl rfl rfl rfl rfl (yak rfl (am2 rfl rfl) ydK ((ybb h hS.blt).mono ?_)); rintro _ w4 ⟨r3, r4, gr, gr2, rfl, hC, h⟩
      · replace hS := hS.call2 hC 3 0 4 1 rfl rfl (by decide) (by decide); clear hC; refine ⟨_, rfl, ?_⟩; refine ⟨⟨fun hh => Bool.noConfusion (show false = true from hh), ⟨fun hh => Bool.noConfusion (show false = true from hh), ⟨fun hh => Bool.noConfusion (show false = true from hh), ⟨fun hh => Bool.noConfusion (show false = true from hh), ⟨fun hh => Bool.noConfusion (show false = true from hh), ⟨fun hh => Bool.noConfusion (show false = true from hh), ⟨fun hh => Bool.noConfusion (show false = true from hh), ⟨fun hh => Bool.noConfusion (show false = true from hh), ⟨fun hh => Bool.noConfusion (show false = true from hh), ⟨fun hh => Bool.noConfusion (show false = true from hh), ⟨fun _ => (zm (.slice Ar lr cr)), trivial⟩⟩⟩⟩⟩⟩⟩⟩⟩⟩⟩, ?_⟩; refine rt_both ?_ ?_
        · replace hS := hS.frzb 3 rfl; replace hS := hS.frzb 4 rfl; refine rt_n rfl rfl rfl rfl rfl (yak rfl (am2 rfl rfl) yd1 ((ybG h (yaF _) (hS.rdo 2 rfl) (fun w' hk => ⟨92, #[(.pointer (some (⟨gr, 0, none⟩ : Addr))), (.pointer (some (⟨gr2, 0, none⟩ : Addr)))], rfl, ydl, fun x R hF => yaT (by simp) (yaQ hF (yaF _) (FP.sub _ (FP.keep _ (FP.sub _ (hS.ro 3 rfl) (fun _ _ h => h.elim) : FP.P _ no _) hk) fun _ _ h => h.elim) (FP.sub _ (FP.keep _ (FP.sub _ (hS.ro 4 rfl) (fun _ _ h => h.elim) : FP.P _ no _) hk) fun _ _ h => h.elim))⟩)).mono ?_)); rintro _ w5 ⟨r5, Ar2, lr2, cr2, rfl, hC, h⟩; replace hS := hS.call1 (hC.widen (ybv (yat (fP (fI .i64) (fI .i64)) _ _ _ _ _) ybE) hS.blt) 5 0 rfl; clear hC; refine ⟨_, rfl, ?_⟩; refine zb (rt_n rfl rfl rfl rfl rfl (ybg ycB ?_)); intro g2 w6 hN; replace hS : Sep w no O w6 (stl _ 6 (Res.box 46 g2 [(.slice none 0 0)])) := hS.new 6 rfl hN; clear hN; refine ⟨⟨fun _ => (yaK (v := (ii ((gx r i.toNat).2))) rfl underlying3 rfl (rd_f (hS.rdo 2 rfl) hx (fun q => yaS q) 1 rfl)), ⟨fun _ => (yaA rfl rfl underlying45 yag hx3), ⟨fun _ => (zi underlying46 yal (yaN (hS.rdo 2 rfl) hx)), ⟨fun _ => (zm (ii i)), ⟨fun _ => (zm (.slice Ar lr cr)), ⟨fun _ => (yaK (v := (ii ((gx r i.toNat).1))) rfl underlying3 rfl (rd_f (hS.rdo 2 rfl) hx (fun q => yaS q) 0 rfl)), ⟨fun _ => (yaA rfl rfl underlying45 yag hx2), ⟨fun _ => (zi underlying46 yal (yaN (hS.rdo 2 rfl) hx)), ⟨fun _ => (zm (ii i)), ⟨fun _ => (zm (.slice Ar lr cr)), ⟨fun _ => (zm (.slice Ar lr cr)), trivial⟩⟩⟩⟩⟩⟩⟩⟩⟩⟩⟩, ?_⟩; refine rt_n0 rfl rfl rfl rfl (zt (.slice Ar2 lr2 cr2) ycB (hS.bwr 6 rfl (j := 0) rfl) ?_); intro w7 e1; replace hS := hS.bst 6 rfl 0 (.slice Ar2 lr2 cr2) e1; clear e1; refine zb (rt_end (yaf ?_)); obtain ⟨J2, hJ, h⟩ := h; refine yeZ (fun E ds w' => ∃ v v2 Av lv cv Av2 lv2 cv2, J2 v v2 ∧ ds = [] ∧ E 1 = (ii i) ∧ E 7 = (Value.slice Ar lr cr) ∧ E 9 = (Value.pointer (some (⟨g2, 0, none⟩ : Addr))) ∧ E 10 = (Value.slice Av lv cv) ∧ E 11 = (Value.slice Av2 lv2 cv2) ∧ Sep w no O w' (rl [Res.own cI 3 Av lv cv v, Res.own cI 3 Av2 lv2 cv2 v2, Res.own c2 45 Ar lr cr r, Res.box 46 g2 [(.slice Ar2 lr2 cr2)], Res.own c2 45 Ar2 lr2 cr2 r5])) ?_ ?_
          · clear h hS; rintro E ds w8 ⟨v, v2, Av, lv, cv, Av2, lv2, cv2, h, rfl, hE1, hE7, hE9, hE10, hE11, hS⟩; replace h := hJ v v2 h; refine zs (zq (za (.slice none 0 0)) (yaa (yaf (zs (zq (yae hE7) (zq (yay (n := r.length) rfl underlying46 (yav (hS.rdo 2 rfl))) (zq (zm (ii 0)) (yaa (yaj ?_))))))))); replace hS := hS.nil 5 rfl cI 3; obtain ⟨I2, ⟨m0, h0⟩, hr⟩ := h; refine yaO (fun m E ds w' => ∃ v3 v4 v5 Av3 lv3 cv3, I2 m v3 v4 v5 ∧ ds = [] ∧ E 1 = (ii i) ∧ E 9 = (Value.pointer (some (⟨g2, 0, none⟩ : Addr))) ∧ E 10 = (Value.slice Av lv cv) ∧ E 11 = (Value.slice Av2 lv2 cv2) ∧ E 12 = (Value.slice Av3 lv3 cv3) ∧ E 45 = (ii ((r.length : Nat) : Int)) ∧ E 46 = (ii v4) ∧ Sep w no O w' (rl [Res.own cI 3 Av3 lv3 cv3 v3, Res.box 46 g2 [(.slice Ar2 lr2 cr2)], Res.own c2 45 Ar2 lr2 cr2 r5, Res.own cI 3 Av lv cv v5, Res.own cI 3 Av2 lv2 cv2 v2])) m0 ⟨_, _, _, _, _, _, h0, rfl, hE1, hE9, hE10, hE11, rfl, rfl, rfl, (hS.sel [5, 3, 4, 0, 1] (by decide))⟩ ?_; clear h0 hS; rintro m2 E ds w9 ⟨v3, v4, v5, Av3, lv3, cv3, h, rfl, hE1, hE9, hE10, hE11, hE12, hE45, hE46, hS⟩ again; replace h := hr m2 v3 v4 v5 h; clear hr; refine zs (zq (ycI hE46 hE45) (yaa (yaf ?_))); by_cases hp2 : v4 < ((r.length : Nat) : Int)
            · replace h := h.1 hp2; refine zc hp2 (yah (yaf (yaj (zs (zq (yae hE46) (zq (za (ii v4)) (yaa (zs (zq (zm (ii v4)) (zq (yae hE1) (zq zN (yaa ?_)))))))))))); by_cases hp3 : v4 = i
              · replace h := h.1 hp3; refine ze hp3 (yah (yam (zr ?_))); obtain ⟨hi, h⟩ := h; refine zq (ycv hE46 rfl hi) (zq (zm (ii (v4 + 1))) (yaa ?_)); obtain ⟨mq, hlt, h⟩ := h; exact again mq _ _ _ ⟨_, _, _, _, _, _, h, rfl, hE1, hE9, hE10, hE11, hE12, hE45, rfl, (hS.sel [0, 1, 2, 3, 4] (by decide))⟩ hlt
              · replace h := h.2 hp3; refine zf hp3 (zs (zq (yae hE10) (zq (zm (ii v4)) (zq (yae hE12) (zq (yay (n := v3.length) rfl underlying27 (yav (hS.rdo 0 rfl))) ?_))))); obtain ⟨hx4, h⟩ := h; refine zq (zi underlying27 yag (yaN (hS.rdo 3 rfl) hx4)) (zo (zt (ii ((v3.length : Nat) : Int)) yag (hS.wr 3 rfl rfl hx4) ?_)); intro w10 e1; replace hS := hS.st 3 rfl rfl hx4 (x := ((v3.length : Nat) : Int)) rfl e1; clear e1; refine zb (yaa (zr (zq (yae hE12) (zq (zm (ii v4)) (zn (yaU (l := [(0, (ii v4))]) (cells := [(ii v4)]) (bp1 rfl) underlying27 yag rfl rfl ?_)))))); intro g3 w11 hN; replace hS := hS.litf (n := 1) 5 rfl (fI .i64) hN ([v4] : List Int) rfl (by decide) rfl; clear hN; refine zb ?_; obtain ⟨hx5, h⟩ := h; refine zn (ydC (c := cI) rfl rfl underlying27 underlying27 yag rfl rfl (by decide) hS 0 rfl (hS.yo 5 rfl) hx5 ?_); clear hS; intro A c w12 hS; refine zb (zq (za (.slice A (lv3 + 1) c)) (yaa (yam (zr ?_)))); obtain ⟨hi2, h⟩ := h; refine zq (ycv hE46 rfl hi2) (zq (zm (ii (v4 + 1))) (yaa ?_)); obtain ⟨mq, hlt, h⟩ := h; exact again mq _ _ _ ⟨_, _, _, _, _, _, h, rfl, hE1, hE9, hE10, hE11, rfl, hE45, rfl, (hS.sel [0, 1, 2, 3, 4] (by decide))⟩ hlt
            · replace h := h.2 hp2; refine ya7 (congrArg Value.bool (decide_eq_false hp2)) ?_; refine yaL rfl ?_; refine yaf ?_; refine yas yar ?_; refine rl_q rfl rfl rfl (yae (v := (.slice Av3 lv3 cv3)) hE12) ?_; refine rl_q rfl rfl rfl (yhX (am0) (am1 hE9)) ?_; replace hS := hS.frzb 1 rfl; replace hS := hS.frz 2 rfl; replace hS := hS.addro 5 rfl (FP.st fun w' => ∃ (fid : Nat) (us : Array Value), (Value.func (Fn.func 59) #[] #[(Value.pointer (some (⟨g2, 0, none⟩ : Addr)))]) = Value.func (.func fid) #[] us ∧ Enters Try.prog fid ∧ ∀ (x0 : Int) (x1 : Int) (R : Int → Prop), (fun x2 x3 R => ya8 x2 x3 r5 R) x0 x1 R → Calls Try.prog fid (#[(Value.int .i64 x0), (Value.int .i64 x1)] ++ us) w' fun e w'' => ∃ r0 : Int, e = .returned (Value.int .i64 r0) ∧ Sep w' no no w'' (rl []) ∧ R r0) (fun w' hk => ⟨59, #[(Value.pointer (some (⟨g2, 0, none⟩ : Addr)))], rfl, enter_59, fun x2 x3 R hF => yaT (by simp) (ybS hF (yaF _) (FP.sub _ (FP.keep _ (hS.ro 1 rfl) hk) fun _ _ h => h.elim) (FP.sub _ (FP.keep _ (hS.ro 2 rfl) hk) fun _ _ h => h.elim))⟩); have hB := hS.lend (asc [(0, 0)]) [0, 5] (by decide) ⟨.inl (ydv rfl), .inr rfl, trivial⟩; refine rl_n rfl rfl rfl rfl (ycS (vs := #[(.slice Av3 lv3 cv3), (Value.func (Fn.func 59) #[] #[(.pointer (some (⟨g2, 0, none⟩ : Addr)))])]) (us := #[]) rfl (am2 rfl rfl) enter_58 ((yaT (by simp) (ybh h hB)).mono ?_)); rintro _ w13 ⟨y, rfl, hC, h⟩; replace hS := hS.back (asc [(0, 0)]) (ydy (by decide)) hC; clear hC hB; refine ⟨_, rfl, ?_⟩; refine ⟨Stb.none _, ?_⟩; refine yaa ?_; refine yaf ?_; refine yaf ?_; refine yas yar ?_; refine rl_q rfl rfl rfl (yae (v := (.slice Av3 lv3 cv3)) hE12) ?_; refine rl_q rfl rfl rfl (yay (n := y.length) rfl underlying27 (yav (hS.rdo 0 rfl))) ?_; refine rl_q rfl rfl rfl (yae (v := (.int .i64 0)) rfl) ?_; refine yaa ?_; refine yaj ?_; obtain ⟨I3, ⟨m0, h0⟩, hr⟩ := h; refine yaO (fun m E ds w' => ∃ v6 : Int, ∃ v7 : List Int, I3 m v6 v7 ∧ ds = [] ∧ E 1 = (Value.int .i64 i) ∧ E 10 = (Value.slice Av lv cv) ∧ E 11 = (Value.slice Av2 lv2 cv2) ∧ E 65 = (Value.slice Av3 lv3 cv3) ∧ E 66 = (Value.int .i64 ((y.length : Nat) : Int)) ∧ E 67 = (Value.int .i64 v6) ∧ Sep w no O w' (rl [Res.own cI 3 Av lv cv v5, Res.own cI 3 Av2 lv2 cv2 v7, Res.own cI 3 Av3 lv3 cv3 y])) m0 ⟨_, _, h0, rfl, hE1, hE10, hE11, rfl, rfl, rfl, (hS.sel [3, 4, 0] (by decide))⟩ ?_; clear h0 hS; rintro m5 E ds w14 ⟨v6, v7, h, rfl, hE1, hE10, hE11, hE65, hE66, hE67, hS⟩ again2; replace h := hr m5 v6 v7 h; clear hr; refine yaf ?_; refine yas yar ?_; refine rl_q rfl rfl rfl (ycI hE67 hE66) ?_; refine yaa ?_; refine yaf ?_; by_cases hp4 : v6 < ((y.length : Nat) : Int)
              · replace h := h.1 hp4; refine zc hp4 (yah (yaf (yaj (zs (zq (yae hE67) ?_))))); obtain ⟨hx6, h⟩ := h; refine zq (ycn hE65 hE67 underlying27 yag (yaN (hS.rdo 2 rfl) hx6)) (zq (yaK (v := (ii (gi y v6.toNat))) rfl underlying3 rfl (rd_1 (hS.rdo 2 rfl) hx6 (fun q => yby q) rfl)) ?_); refine zq (za (ii v6)) (zq (za (ii (gi y v6.toNat))) (yaa (zr (zq (yae hE11) (zq (zm (ii (gi y v6.toNat))) (zq (zm (ii v6)) ?_)))))); obtain ⟨hx7, h⟩ := h; refine zq (zi underlying27 yag (yaN (hS.rdo 1 rfl) hx7)) (zo (zt (ii v6) yag (hS.wr 1 rfl rfl hx7) ?_)); intro w15 e1; replace hS := hS.st 1 rfl rfl hx7 (x := v6) rfl e1; clear e1; refine zb (yaa (yam (zr ?_))); obtain ⟨hi3, h⟩ := h; refine zq (ycv hE67 rfl hi3) (zq (zm (ii (v6 + 1))) (yaa ?_)); obtain ⟨mq, hlt, h⟩ := h; exact again2 mq _ _ _ ⟨_, _, h, rfl, hE1, hE10, hE11, hE65, hE66, rfl, (hS.sel [0, 1, 2] (by decide))⟩ hlt
              · replace h := h.2 hp4; refine zd hp4 (yaL rfl (zs (zq (yae hE10) (zq (yae hE1) (zq (yae hE11) (zq (yae hE1) ?_)))))); obtain ⟨hx8, h⟩ := h; refine zq (zi underlying27 yag (yaN (hS.rdo 0 rfl) hx8)) (zo (zt (ii (-1)) yag (hS.wr 0 rfl rfl hx8) ?_)); intro w16 e1; replace hS := hS.st 0 rfl rfl hx8 (x := -1) rfl e1; clear e1; refine zb ?_; obtain ⟨hx9, h⟩ := h; refine zq (zi underlying27 yag (yaN (hS.rdo 1 rfl) hx9)) (zo (zt (ii (-1)) yag (hS.wr 1 rfl rfl hx9) ?_)); intro w17 e1; replace hS := hS.st 1 rfl rfl hx9 (x := -1) rfl e1; clear e1; exact zb (yaa (zs (zq (yae hE10) (zq (yae hE11) (zq (za (.slice Av lv cv)) (zq (za (.slice Av2 lv2 cv2)) (zq (za (ii 0)) (yaa (yei rfl rfl rfl rfl ⟨_, _, _, _, _, _, _, _, _, rfl, (hS.sel [0, 1] (by decide)), h⟩)))))))))
          clear hJ; intro j; refine yeF 2 5 [0, 1, 3, 4, 2, 6, 5, 7] [0, 1, 3, 4, 5, 2, 6, 7] (fun i => match i with | 2 => [3, 4] | 5 => [0, 1, 6] | _ => []) (fun i => match i with | 5 => [0, 1] | 2 => [3, 4] | _ => []) yar (by kernel_rfl) (by kernel_rfl) ?_ ?_
          · replace h := h.1; replace hS := hS.drew; refine zp (zm (.slice Ar lr cr)) (zp (yay (n := r.length) rfl underlying46 (yav (hS.rdo 2 rfl))) (zp (zm (.slice Ar lr cr)) (zp (yay (n := r.length) rfl underlying46 (yav (hS.rdo 2 rfl))) ?_))); obtain ⟨hx10, h⟩ := h; refine rp_n rfl rfl rfl rfl (ydd rfl rfl underlying27 yag (by decide) rfl hx10 ?_); intro g4 w18 hN; replace hS := hS.made 7 rfl cI (ii 0) (0 : Int) (fun _ _ => rfl) hN (by omega); clear hN; refine ⟨⟨fun _ => (yay (n := r.length) rfl underlying46 (yav (hS.rdo 2 rfl))), ⟨fun _ => (zm (.slice Ar lr cr)), ⟨fun hh => Bool.noConfusion (show false = true from hh), ⟨fun hh => Bool.noConfusion (show false = true from hh), trivial⟩⟩⟩⟩, ?_⟩; refine zp (za (.slice (some ⟨g4, 0, none⟩) (((r.length : Nat) : Int).toNat) (((r.length : Nat) : Int).toNat))) (rp_n rfl rfl rfl rfl (ydd rfl rfl underlying27 yag (by decide) rfl hx10 ?_)); intro g5 w19 hN; replace hS := hS.made 8 rfl cI (ii 0) (0 : Int) (fun _ _ => rfl) hN (by omega); clear hN; refine ⟨⟨fun _ => (za (.slice (some ⟨g4, 0, none⟩) (((r.length : Nat) : Int).toNat) (((r.length : Nat) : Int).toNat))), ⟨fun hh => Bool.noConfusion (show false = true from hh), ⟨fun hh => Bool.noConfusion (show false = true from hh), ⟨fun _ => (yay (n := r.length) rfl underlying46 (yav (hS.rdo 2 rfl))), ⟨fun _ => (zm (.slice Ar lr cr)), trivial⟩⟩⟩⟩⟩, ?_⟩; exact zp (za (.slice (some ⟨g5, 0, none⟩) (((r.length : Nat) : Int).toNat) (((r.length : Nat) : Int).toNat))) (ybk (j _ _ _ ⟨_, _, _, _, _, _, _, _, h, rfl, rfl, rfl, rfl, rfl, rfl, (hS.sel [7, 8, 2, 6, 5] (by decide))⟩))
          · replace h := h.2; replace hS := hS.drew; refine zp (zm (.slice Ar lr cr)) (zp (yay (n := r.length) rfl underlying46 (yav (hS.rdo 2 rfl))) (zp (zm (.slice Ar lr cr)) (zp (yay (n := r.length) rfl underlying46 (yav (hS.rdo 2 rfl))) ?_))); obtain ⟨hx11, h⟩ := h; refine rp_n rfl rfl rfl rfl (ydd rfl rfl underlying27 yag (by decide) rfl hx11 ?_); intro g6 w20 hN; replace hS := hS.made 7 rfl cI (ii 0) (0 : Int) (fun _ _ => rfl) hN (by omega); clear hN; refine ⟨⟨fun hh => Bool.noConfusion (show false = true from hh), ⟨fun hh => Bool.noConfusion (show false = true from hh), ⟨fun _ => (yay (n := r.length) rfl underlying46 (yav (hS.rdo 2 rfl))), ⟨fun _ => (zm (.slice Ar lr cr)), trivial⟩⟩⟩⟩, ?_⟩; refine rp_n rfl rfl rfl rfl (ydd rfl rfl underlying27 yag (by decide) rfl hx11 ?_); intro g7 w21 hN; replace hS := hS.made 8 rfl cI (ii 0) (0 : Int) (fun _ _ => rfl) hN (by omega); clear hN; refine ⟨⟨fun _ => (yay (n := r.length) rfl underlying46 (yav (hS.rdo 2 rfl))), ⟨fun _ => (zm (.slice Ar lr cr)), ⟨fun hh => Bool.noConfusion (show false = true from hh), ⟨fun hh => Bool.noConfusion (show false = true from hh), trivial⟩⟩⟩⟩, ?_⟩; exact zp (za (.slice (some ⟨g7, 0, none⟩) (((r.length : Nat) : Int).toNat) (((r.length : Nat) : Int).toNat))) (zp (za (.slice (some ⟨g6, 0, none⟩) (((r.length : Nat) : Int).toNat) (((r.length : Nat) : Int).toNat))) (ybk (j _ _ _ ⟨_, _, _, _, _, _, _, _, h, rfl, rfl, rfl, rfl, rfl, rfl, (hS.sel [8, 7, 2, 6, 5] (by decide))⟩)))
        refine rt_n rfl rfl rfl rfl rfl (ybg ycB ?_); intro g8 w22 hN; replace hS : Sep w no O w22 (stl _ 5 (Res.box 46 g8 [(.slice none 0 0)])) := hS.new 5 rfl hN; clear hN; refine ⟨⟨fun _ => (yaK (v := (ii ((gx r i.toNat).2))) rfl underlying3 rfl (rd_f (hS.rdo 2 rfl) hx (fun q => yaS q) 1 rfl)), ⟨fun _ => (yaA rfl rfl underlying45 yag hx3), ⟨fun _ => (zi underlying46 yal (yaN (hS.rdo 2 rfl) hx)), ⟨fun _ => (zm (ii i)), ⟨fun _ => (zm (.slice Ar lr cr)), ⟨fun _ => (yaK (v := (ii ((gx r i.toNat).1))) rfl underlying3 rfl (rd_f (hS.rdo 2 rfl) hx (fun q => yaS q) 0 rfl)), ⟨fun _ => (yaA rfl rfl underlying45 yag hx2), ⟨fun _ => (zi underlying46 yal (yaN (hS.rdo 2 rfl) hx)), ⟨fun _ => (zm (ii i)), ⟨fun _ => (zm (.slice Ar lr cr)), ⟨fun _ => (zm (.slice Ar lr cr)), trivial⟩⟩⟩⟩⟩⟩⟩⟩⟩⟩⟩, ?_⟩; replace hS := hS.frzb 3 rfl; replace hS := hS.frzb 4 rfl; refine rt_n rfl rfl rfl rfl rfl (yak rfl (am2 rfl rfl) yd1 ((ybG h (yaF _) (hS.rdo 2 rfl) (fun w' hk => ⟨92, #[(.pointer (some (⟨gr, 0, none⟩ : Addr))), (.pointer (some (⟨gr2, 0, none⟩ : Addr)))], rfl, ydl, fun x4 R hF => yaT (by simp) (yaQ hF (yaF _) (FP.sub _ (FP.keep _ (FP.sub _ (hS.ro 3 rfl) (fun _ _ h => h.elim) : FP.P _ no _) hk) fun _ _ h => h.elim) (FP.sub _ (FP.keep _ (FP.sub _ (hS.ro 4 rfl) (fun _ _ h => h.elim) : FP.P _ no _) hk) fun _ _ h => h.elim))⟩)).mono ?_)); rintro _ w23 ⟨r6, Ar3, lr3, cr3, rfl, hC, h⟩; replace hS := hS.call1 (hC.widen (ybv (yat (fP (fI .i64) (fI .i64)) _ _ _ _ _) ybE) hS.blt) 6 0 rfl; clear hC; refine ⟨_, rfl, ?_⟩; refine zb (rt_n0 rfl rfl rfl rfl (zt (.slice Ar3 lr3 cr3) ycB (hS.bwr 5 rfl (j := 0) rfl) ?_)); intro w24 e1; replace hS := hS.bst 5 rfl 0 (.slice Ar3 lr3 cr3) e1; clear e1; refine zb (rt_end (yaf ?_)); obtain ⟨J3, hJ, h⟩ := h; refine yeZ (fun E ds w' => ∃ v8 v9 Av4 lv4 cv4 Av5 lv5 cv5, J3 v8 v9 ∧ ds = [] ∧ E 1 = (ii i) ∧ E 7 = (Value.slice Ar lr cr) ∧ E 9 = (Value.pointer (some (⟨g8, 0, none⟩ : Addr))) ∧ E 10 = (Value.slice Av4 lv4 cv4) ∧ E 11 = (Value.slice Av5 lv5 cv5) ∧ Sep w no O w' (rl [Res.own cI 3 Av4 lv4 cv4 v8, Res.own cI 3 Av5 lv5 cv5 v9, Res.own c2 45 Ar lr cr r, Res.box 46 g8 [(.slice Ar3 lr3 cr3)], Res.own c2 45 Ar3 lr3 cr3 r6])) ?_ ?_
        · clear h hS; rintro E ds w25 ⟨v8, v9, Av4, lv4, cv4, Av5, lv5, cv5, h, rfl, hE1, hE7, hE9, hE10, hE11, hS⟩; replace h := hJ v8 v9 h; refine zs (zq (za (.slice none 0 0)) (yaa (yaf (zs (zq (yae hE7) (zq (yay (n := r.length) rfl underlying46 (yav (hS.rdo 2 rfl))) (zq (zm (ii 0)) (yaa (yaj ?_))))))))); replace hS := hS.nil 5 rfl cI 3; obtain ⟨I4, ⟨m0, h0⟩, hr⟩ := h; refine yaO (fun m E ds w' => ∃ v10 v11 v12 Av6 lv6 cv6, I4 m v10 v11 v12 ∧ ds = [] ∧ E 1 = (ii i) ∧ E 9 = (Value.pointer (some (⟨g8, 0, none⟩ : Addr))) ∧ E 10 = (Value.slice Av4 lv4 cv4) ∧ E 11 = (Value.slice Av5 lv5 cv5) ∧ E 12 = (Value.slice Av6 lv6 cv6) ∧ E 45 = (ii ((r.length : Nat) : Int)) ∧ E 46 = (ii v11) ∧ Sep w no O w' (rl [Res.own cI 3 Av6 lv6 cv6 v10, Res.box 46 g8 [(.slice Ar3 lr3 cr3)], Res.own c2 45 Ar3 lr3 cr3 r6, Res.own cI 3 Av4 lv4 cv4 v12, Res.own cI 3 Av5 lv5 cv5 v9])) m0 ⟨_, _, _, _, _, _, h0, rfl, hE1, hE9, hE10, hE11, rfl, rfl, rfl, (hS.sel [5, 3, 4, 0, 1] (by decide))⟩ ?_; clear h0 hS; rintro m7 E ds w26 ⟨v10, v11, v12, Av6, lv6, cv6, h, rfl, hE1, hE9, hE10, hE11, hE12, hE45, hE46, hS⟩ again3; replace h := hr m7 v10 v11 v12 h; clear hr; refine zs (zq (ycI hE46 hE45) (yaa (yaf ?_))); by_cases hp5 : v11 < ((r.length : Nat) : Int)
          · replace h := h.1 hp5; refine zc hp5 (yah (yaf (yaj (zs (zq (yae hE46) (zq (za (ii v11)) (yaa (zs (zq (zm (ii v11)) (zq (yae hE1) (zq zN (yaa ?_)))))))))))); by_cases hp6 : v11 = i
            · replace h := h.1 hp6; refine ze hp6 (yah (yam (zr ?_))); obtain ⟨hi4, h⟩ := h; refine zq (ycv hE46 rfl hi4) (zq (zm (ii (v11 + 1))) (yaa ?_)); obtain ⟨mq, hlt, h⟩ := h; exact again3 mq _ _ _ ⟨_, _, _, _, _, _, h, rfl, hE1, hE9, hE10, hE11, hE12, hE45, rfl, (hS.sel [0, 1, 2, 3, 4] (by decide))⟩ hlt
            · replace h := h.2 hp6; refine zf hp6 (zs (zq (yae hE10) (zq (zm (ii v11)) (zq (yae hE12) (zq (yay (n := v10.length) rfl underlying27 (yav (hS.rdo 0 rfl))) ?_))))); obtain ⟨hx12, h⟩ := h; refine zq (zi underlying27 yag (yaN (hS.rdo 3 rfl) hx12)) (zo (zt (ii ((v10.length : Nat) : Int)) yag (hS.wr 3 rfl rfl hx12) ?_)); intro w27 e1; replace hS := hS.st 3 rfl rfl hx12 (x := ((v10.length : Nat) : Int)) rfl e1; clear e1; refine zb (yaa (zr (zq (yae hE12) (zq (zm (ii v11)) (zn (yaU (l := [(0, (ii v11))]) (cells := [(ii v11)]) (bp1 rfl) underlying27 yag rfl rfl ?_)))))); intro g9 w28 hN; replace hS := hS.litf (n := 1) 5 rfl (fI .i64) hN ([v11] : List Int) rfl (by decide) rfl; clear hN; refine zb ?_; obtain ⟨hx13, h⟩ := h; refine zn (ydC (c := cI) rfl rfl underlying27 underlying27 yag rfl rfl (by decide) hS 0 rfl (hS.yo 5 rfl) hx13 ?_); clear hS; intro A2 c4 w29 hS; refine zb (zq (za (.slice A2 (lv6 + 1) c4)) (yaa (yam (zr ?_)))); obtain ⟨hi5, h⟩ := h; refine zq (ycv hE46 rfl hi5) (zq (zm (ii (v11 + 1))) (yaa ?_)); obtain ⟨mq, hlt, h⟩ := h; exact again3 mq _ _ _ ⟨_, _, _, _, _, _, h, rfl, hE1, hE9, hE10, hE11, rfl, hE45, rfl, (hS.sel [0, 1, 2, 3, 4] (by decide))⟩ hlt
          · replace h := h.2 hp5; refine ya7 (congrArg Value.bool (decide_eq_false hp5)) ?_; refine yaL rfl ?_; refine yaf ?_; refine yas yar ?_; refine rl_q rfl rfl rfl (yae (v := (.slice Av6 lv6 cv6)) hE12) ?_; refine rl_q rfl rfl rfl (yhX (am0) (am1 hE9)) ?_; replace hS := hS.frzb 1 rfl; replace hS := hS.frz 2 rfl; replace hS := hS.addro 5 rfl (FP.st fun w' => ∃ (fid : Nat) (us : Array Value), (Value.func (Fn.func 59) #[] #[(Value.pointer (some (⟨g8, 0, none⟩ : Addr)))]) = Value.func (.func fid) #[] us ∧ Enters Try.prog fid ∧ ∀ (x02 : Int) (x12 : Int) (R : Int → Prop), (fun x5 x6 R => ya8 x5 x6 r6 R) x02 x12 R → Calls Try.prog fid (#[(Value.int .i64 x02), (Value.int .i64 x12)] ++ us) w' fun e w'' => ∃ r02 : Int, e = .returned (Value.int .i64 r02) ∧ Sep w' no no w'' (rl []) ∧ R r02) (fun w' hk => ⟨59, #[(Value.pointer (some (⟨g8, 0, none⟩ : Addr)))], rfl, enter_59, fun x5 x6 R hF => yaT (by simp) (ybS hF (yaF _) (FP.sub _ (FP.keep _ (hS.ro 1 rfl) hk) fun _ _ h => h.elim) (FP.sub _ (FP.keep _ (hS.ro 2 rfl) hk) fun _ _ h => h.elim))⟩); have hB := hS.lend (asc [(0, 0)]) [0, 5] (by decide) ⟨.inl (ydv rfl), .inr rfl, trivial⟩; refine rl_n rfl rfl rfl rfl (ycS (vs := #[(.slice Av6 lv6 cv6), (Value.func (Fn.func 59) #[] #[(.pointer (some (⟨g8, 0, none⟩ : Addr)))])]) (us := #[]) rfl (am2 rfl rfl) enter_58 ((yaT (by simp) (ybh h hB)).mono ?_)); rintro _ w30 ⟨y2, rfl, hC, h⟩; replace hS := hS.back (asc [(0, 0)]) (ydy (by decide)) hC; clear hC hB; refine ⟨_, rfl, ?_⟩; refine ⟨Stb.none _, ?_⟩; refine yaa ?_; refine yaf ?_; refine yaf ?_; refine yas yar ?_; refine rl_q rfl rfl rfl (yae (v := (.slice Av6 lv6 cv6)) hE12) ?_; refine rl_q rfl rfl rfl (yay (n := y2.length) rfl underlying27 (yav (hS.rdo 0 rfl))) ?_; refine rl_q rfl rfl rfl (yae (v := (.int .i64 0)) rfl) ?_; refine yaa ?_; refine yaj ?_; obtain ⟨I5, ⟨m0, h0⟩, hr⟩ := h; refine yaO (fun m E ds w' => ∃ v13 : Int, ∃ v14 : List Int, I5 m v13 v14 ∧ ds = [] ∧ E 1 = (Value.int .i64 i) ∧ E 10 = (Value.slice Av4 lv4 cv4) ∧ E 11 = (Value.slice Av5 lv5 cv5) ∧ E 65 = (Value.slice Av6 lv6 cv6) ∧ E 66 = (Value.int .i64 ((y2.length : Nat) : Int)) ∧ E 67 = (Value.int .i64 v13) ∧ Sep w no O w' (rl [Res.own cI 3 Av4 lv4 cv4 v12, Res.own cI 3 Av5 lv5 cv5 v14, Res.own cI 3 Av6 lv6 cv6 y2])) m0 ⟨_, _, h0, rfl, hE1, hE10, hE11, rfl, rfl, rfl, (hS.sel [3, 4, 0] (by decide))⟩ ?_; clear h0 hS; rintro m10 E ds w31 ⟨v13, v14, h, rfl, hE1, hE10, hE11, hE65, hE66, hE67, hS⟩ again4; replace h := hr m10 v13 v14 h; clear hr; refine yaf ?_; refine yas yar ?_; refine rl_q rfl rfl rfl (ycI hE67 hE66) ?_; refine yaa ?_; refine yaf ?_; by_cases hp7 : v13 < ((y2.length : Nat) : Int)
            · replace h := h.1 hp7; refine zc hp7 (yah (yaf (yaj (zs (zq (yae hE67) ?_))))); obtain ⟨hx14, h⟩ := h; refine zq (ycn hE65 hE67 underlying27 yag (yaN (hS.rdo 2 rfl) hx14)) (zq (yaK (v := (ii (gi y2 v13.toNat))) rfl underlying3 rfl (rd_1 (hS.rdo 2 rfl) hx14 (fun q => yby q) rfl)) ?_); refine zq (za (ii v13)) (zq (za (ii (gi y2 v13.toNat))) (yaa (zr (zq (yae hE11) (zq (zm (ii (gi y2 v13.toNat))) (zq (zm (ii v13)) ?_)))))); obtain ⟨hx15, h⟩ := h; refine zq (zi underlying27 yag (yaN (hS.rdo 1 rfl) hx15)) (zo (zt (ii v13) yag (hS.wr 1 rfl rfl hx15) ?_)); intro w32 e1; replace hS := hS.st 1 rfl rfl hx15 (x := v13) rfl e1; clear e1; refine zb (yaa (yam (zr ?_))); obtain ⟨hi6, h⟩ := h; refine zq (ycv hE67 rfl hi6) (zq (zm (ii (v13 + 1))) (yaa ?_)); obtain ⟨mq, hlt, h⟩ := h; exact again4 mq _ _ _ ⟨_, _, h, rfl, hE1, hE10, hE11, hE65, hE66, rfl, (hS.sel [0, 1, 2] (by decide))⟩ hlt
            · replace h := h.2 hp7; refine zd hp7 (yaL rfl (zs (zq (yae hE10) (zq (yae hE1) (zq (yae hE11) (zq (yae hE1) ?_)))))); obtain ⟨hx16, h⟩ := h; refine zq (zi underlying27 yag (yaN (hS.rdo 0 rfl) hx16)) (zo (zt (ii (-1)) yag (hS.wr 0 rfl rfl hx16) ?_)); intro w33 e1; replace hS := hS.st 0 rfl rfl hx16 (x := -1) rfl e1; clear e1; refine zb ?_; obtain ⟨hx17, h⟩ := h; refine zq (zi underlying27 yag (yaN (hS.rdo 1 rfl) hx17)) (zo (zt (ii (-1)) yag (hS.wr 1 rfl rfl hx17) ?_)); intro w34 e1; replace hS := hS.st 1 rfl rfl hx17 (x := -1) rfl e1; clear e1; exact zb (yaa (zs (zq (yae hE10) (zq (yae hE11) (zq (za (.slice Av4 lv4 cv4)) (zq (za (.slice Av5 lv5 cv5)) (zq (za (ii 0)) (yaa (yei rfl rfl rfl rfl ⟨_, _, _, _, _, _, _, _, _, rfl, (hS.sel [0, 1] (by decide)), h⟩)))))))))
        clear hJ; intro j2; refine yeF 2 5 [0, 1, 3, 4, 2, 6, 5, 7] [0, 1, 3, 4, 5, 2, 6, 7] (fun i => match i with | 2 => [3, 4] | 5 => [0, 1, 6] | _ => []) (fun i => match i with | 5 => [0, 1] | 2 => [3, 4] | _ => []) yar (by kernel_rfl) (by kernel_rfl) ?_ ?_
        · replace h := h.1; replace hS := hS.drew; refine zp (zm (.slice Ar lr cr)) (zp (yay (n := r.length) rfl underlying46 (yav (hS.rdo 2 rfl))) (zp (zm (.slice Ar lr cr)) (zp (yay (n := r.length) rfl underlying46 (yav (hS.rdo 2 rfl))) ?_))); obtain ⟨hx18, h⟩ := h; refine rp_n rfl rfl rfl rfl (ydd rfl rfl underlying27 yag (by decide) rfl hx18 ?_); intro g10 w35 hN; replace hS := hS.made 7 rfl cI (ii 0) (0 : Int) (fun _ _ => rfl) hN (by omega); clear hN; refine ⟨⟨fun _ => (yay (n := r.length) rfl underlying46 (yav (hS.rdo 2 rfl))), ⟨fun _ => (zm (.slice Ar lr cr)), ⟨fun hh => Bool.noConfusion (show false = true from hh), ⟨fun hh => Bool.noConfusion (show false = true from hh), trivial⟩⟩⟩⟩, ?_⟩; refine zp (za (.slice (some ⟨g10, 0, none⟩) (((r.length : Nat) : Int).toNat) (((r.length : Nat) : Int).toNat))) (rp_n rfl rfl rfl rfl (ydd rfl rfl underlying27 yag (by decide) rfl hx18 ?_)); intro g11 w36 hN; replace hS := hS.made 8 rfl cI (ii 0) (0 : Int) (fun _ _ => rfl) hN (by omega); clear hN; refine ⟨⟨fun _ => (za (.slice (some ⟨g10, 0, none⟩) (((r.length : Nat) : Int).toNat) (((r.length : Nat) : Int).toNat))), ⟨fun hh => Bool.noConfusion (show false = true from hh), ⟨fun hh => Bool.noConfusion (show false = true from hh), ⟨fun _ => (yay (n := r.length) rfl underlying46 (yav (hS.rdo 2 rfl))), ⟨fun _ => (zm (.slice Ar lr cr)), trivial⟩⟩⟩⟩⟩, ?_⟩; exact zp (za (.slice (some ⟨g11, 0, none⟩) (((r.length : Nat) : Int).toNat) (((r.length : Nat) : Int).toNat))) (ybk (j2 _ _ _ ⟨_, _, _, _, _, _, _, _, h, rfl, rfl, rfl, rfl, rfl, rfl, (hS.sel [7, 8, 2, 5, 6] (by decide))⟩))
        · replace h := h.2; replace hS := hS.drew; refine zp (zm (.slice Ar lr cr)) (zp (yay (n := r.length) rfl underlying46 (yav (hS.rdo 2 rfl))) (zp (zm (.slice Ar lr cr)) (zp (yay (n := r.length) rfl underlying46 (yav (hS.rdo 2 rfl))) ?_))); obtain ⟨hx19, h⟩ := h; refine rp_n rfl rfl rfl rfl (ydd rfl rfl underlying27 yag (by decide) rfl hx19 ?_); intro g12 w37 hN; replace hS := hS.made 7 rfl cI (ii 0) (0 : Int) (fun _ _ => rfl) hN (by omega); clear hN; refine ⟨⟨fun hh => Bool.noConfusion (show false = true from hh), ⟨fun hh => Bool.noConfusion (show false = true from hh), ⟨fun _ => (yay (n := r.length) rfl underlying46 (yav (hS.rdo 2 rfl))), ⟨fun _ => (zm (.slice Ar lr cr)), trivial⟩⟩⟩⟩, ?_⟩; refine rp_n rfl rfl rfl rfl (ydd rfl rfl underlying27 yag (by decide) rfl hx19 ?_); intro g13 w38 hN; replace hS := hS.made 8 rfl cI (ii 0) (0 : Int) (fun _ _ => rfl) hN (by omega); clear hN; refine ⟨⟨fun _ => (yay (n := r.length) rfl underlying46 (yav (hS.rdo 2 rfl))), ⟨fun _ => (zm (.slice Ar lr cr)), ⟨fun hh => Bool.noConfusion (show false = true from hh), ⟨fun hh => Bool.noConfusion (show false = true from hh), trivial⟩⟩⟩⟩, ?_⟩; exact zp (za (.slice (some ⟨g13, 0, none⟩) (((r.length : Nat) : Int).toNat) (((r.length : Nat) : Int).toNat))) (zp (za (.slice (some ⟨g12, 0, none⟩) (((r.length : Nat) : Int).toNat) (((r.length : Nat) : Int).toNat))) (ybk (j2 _ _ _ ⟨_, _, _, _, _, _, _, _, h, rfl, rfl, rfl, rfl, rfl, rfl, (hS.sel [8, 7, 2, 5, 6] (by decide))⟩)))
    refine rt_n rfl rfl rfl rfl rfl (ybg ycB ?_); intro g14 w39 hN; replace hS : Sep w no O w39 (stl _ 3 (Res.box 46 g14 [(.slice none 0 0)])) := hS.new 3 rfl hN; clear hN; refine ⟨⟨fun _ => (yaK (v := (ii ((gx r i.toNat).2))) rfl underlying3 rfl (rd_f (hS.rdo 2 rfl) hx (fun q => yaS q) 1 rfl)), ⟨fun _ => (yaA rfl rfl underlying45 yag hx3), ⟨fun _ => (zi underlying46 yal (yaN (hS.rdo 2 rfl) hx)), ⟨fun _ => (zm (ii i)), ⟨fun _ => (zm (.slice Ar lr cr)), ⟨fun _ => (yaK (v := (ii ((gx r i.toNat).1))) rfl underlying3 rfl (rd_f (hS.rdo 2 rfl) hx (fun q => yaS q) 0 rfl)), ⟨fun _ => (yaA rfl rfl underlying45 yag hx2), ⟨fun _ => (zi underlying46 yal (yaN (hS.rdo 2 rfl) hx)), ⟨fun _ => (zm (ii i)), ⟨fun _ => (zm (.slice Ar lr cr)), ⟨fun _ => (zm (.slice Ar lr cr)), trivial⟩⟩⟩⟩⟩⟩⟩⟩⟩⟩⟩, ?_⟩; refine rt_n rfl rfl rfl rfl rfl (yak rfl (am2 rfl rfl) ydK ((ybb h hS.blt).mono ?_)); rintro _ w40 ⟨r7, r8, gr3, gr4, rfl, hC, h⟩
    · replace hS := hS.call2 hC 4 0 5 1 rfl rfl (by decide) (by decide); clear hC; refine ⟨_, rfl, ?_⟩; refine ⟨⟨fun hh => Bool.noConfusion (show false = true from hh), ⟨fun hh => Bool.noConfusion (show false = true from hh), ⟨fun hh => Bool.noConfusion (show false = true from hh), ⟨fun hh => Bool.noConfusion (show false = true from hh), ⟨fun hh => Bool.noConfusion (show false = true from hh), ⟨fun hh => Bool.noConfusion (show false = true from hh), ⟨fun hh => Bool.noConfusion (show false = true from hh), ⟨fun hh => Bool.noConfusion (show false = true from hh), ⟨fun hh => Bool.noConfusion (show false = true from hh), ⟨fun hh => Bool.noConfusion (show false = true from hh), ⟨fun _ => (zm (.slice Ar lr cr)), trivial⟩⟩⟩⟩⟩⟩⟩⟩⟩⟩⟩, ?_⟩; replace hS := hS.frzb 4 rfl; replace hS := hS.frzb 5 rfl; refine rt_n rfl rfl rfl rfl rfl (yak rfl (am2 rfl rfl) yd1 ((ybG h (yaF _) (hS.rdo 2 rfl) (fun w' hk => ⟨92, #[(.pointer (some (⟨gr3, 0, none⟩ : Addr))), (.pointer (some (⟨gr4, 0, none⟩ : Addr)))], rfl, ydl, fun x7 R hF => yaT (by simp) (yaQ hF (yaF _) (FP.sub _ (FP.keep _ (FP.sub _ (hS.ro 4 rfl) (fun _ _ h => h.elim) : FP.P _ no _) hk) fun _ _ h => h.elim) (FP.sub _ (FP.keep _ (FP.sub _ (hS.ro 5 rfl) (fun _ _ h => h.elim) : FP.P _ no _) hk) fun _ _ h => h.elim))⟩)).mono ?_)); rintro _ w41 ⟨r9, Ar4, lr4, cr4, rfl, hC, h⟩; replace hS := hS.call1 (hC.widen (ybv (yat (fP (fI .i64) (fI .i64)) _ _ _ _ _) ybE) hS.blt) 6 0 rfl; clear hC; refine ⟨_, rfl, ?_⟩; refine zb (rt_n0 rfl rfl rfl rfl (zt (.slice Ar4 lr4 cr4) ycB (hS.bwr 3 rfl (j := 0) rfl) ?_)); intro w42 e1; replace hS := hS.bst 3 rfl 0 (.slice Ar4 lr4 cr4) e1; clear e1; refine zb (rt_end (yaf ?_)); obtain ⟨J4, hJ, h⟩ := h; refine yeZ (fun E ds w' => ∃ v15 v16 Av7 lv7 cv7 Av8 lv8 cv8, J4 v15 v16 ∧ ds = [] ∧ E 1 = (ii i) ∧ E 7 = (Value.slice Ar lr cr) ∧ E 9 = (Value.pointer (some (⟨g14, 0, none⟩ : Addr))) ∧ E 10 = (Value.slice Av7 lv7 cv7) ∧ E 11 = (Value.slice Av8 lv8 cv8) ∧ Sep w no O w' (rl [Res.own cI 3 Av7 lv7 cv7 v15, Res.own cI 3 Av8 lv8 cv8 v16, Res.own c2 45 Ar lr cr r, Res.box 46 g14 [(.slice Ar4 lr4 cr4)], Res.own c2 45 Ar4 lr4 cr4 r9])) ?_ ?_
      · clear h hS; rintro E ds w43 ⟨v15, v16, Av7, lv7, cv7, Av8, lv8, cv8, h, rfl, hE1, hE7, hE9, hE10, hE11, hS⟩; replace h := hJ v15 v16 h; refine zs (zq (za (.slice none 0 0)) (yaa (yaf (zs (zq (yae hE7) (zq (yay (n := r.length) rfl underlying46 (yav (hS.rdo 2 rfl))) (zq (zm (ii 0)) (yaa (yaj ?_))))))))); replace hS := hS.nil 5 rfl cI 3; obtain ⟨I6, ⟨m0, h0⟩, hr⟩ := h; refine yaO (fun m E ds w' => ∃ v17 v18 v19 Av9 lv9 cv9, I6 m v17 v18 v19 ∧ ds = [] ∧ E 1 = (ii i) ∧ E 9 = (Value.pointer (some (⟨g14, 0, none⟩ : Addr))) ∧ E 10 = (Value.slice Av7 lv7 cv7) ∧ E 11 = (Value.slice Av8 lv8 cv8) ∧ E 12 = (Value.slice Av9 lv9 cv9) ∧ E 45 = (ii ((r.length : Nat) : Int)) ∧ E 46 = (ii v18) ∧ Sep w no O w' (rl [Res.own cI 3 Av9 lv9 cv9 v17, Res.box 46 g14 [(.slice Ar4 lr4 cr4)], Res.own c2 45 Ar4 lr4 cr4 r9, Res.own cI 3 Av7 lv7 cv7 v19, Res.own cI 3 Av8 lv8 cv8 v16])) m0 ⟨_, _, _, _, _, _, h0, rfl, hE1, hE9, hE10, hE11, rfl, rfl, rfl, (hS.sel [5, 3, 4, 0, 1] (by decide))⟩ ?_; clear h0 hS; rintro m12 E ds w44 ⟨v17, v18, v19, Av9, lv9, cv9, h, rfl, hE1, hE9, hE10, hE11, hE12, hE45, hE46, hS⟩ again5; replace h := hr m12 v17 v18 v19 h; clear hr; refine zs (zq (ycI hE46 hE45) (yaa (yaf ?_))); by_cases hp8 : v18 < ((r.length : Nat) : Int)
        · replace h := h.1 hp8; refine zc hp8 (yah (yaf (yaj (zs (zq (yae hE46) (zq (za (ii v18)) (yaa (zs (zq (zm (ii v18)) (zq (yae hE1) (zq zN (yaa ?_)))))))))))); by_cases hp9 : v18 = i
          · replace h := h.1 hp9; refine ze hp9 (yah (yam (zr ?_))); obtain ⟨hi7, h⟩ := h; refine zq (ycv hE46 rfl hi7) (zq (zm (ii (v18 + 1))) (yaa ?_)); obtain ⟨mq, hlt, h⟩ := h; exact again5 mq _ _ _ ⟨_, _, _, _, _, _, h, rfl, hE1, hE9, hE10, hE11, hE12, hE45, rfl, (hS.sel [0, 1, 2, 3, 4] (by decide))⟩ hlt
          · replace h := h.2 hp9; refine zf hp9 (zs (zq (yae hE10) (zq (zm (ii v18)) (zq (yae hE12) (zq (yay (n := v17.length) rfl underlying27 (yav (hS.rdo 0 rfl))) ?_))))); obtain ⟨hx20, h⟩ := h; refine zq (zi underlying27 yag (yaN (hS.rdo 3 rfl) hx20)) (zo (zt (ii ((v17.length : Nat) : Int)) yag (hS.wr 3 rfl rfl hx20) ?_)); intro w45 e1; replace hS := hS.st 3 rfl rfl hx20 (x := ((v17.length : Nat) : Int)) rfl e1; clear e1; refine zb (yaa (zr (zq (yae hE12) (zq (zm (ii v18)) (zn (yaU (l := [(0, (ii v18))]) (cells := [(ii v18)]) (bp1 rfl) underlying27 yag rfl rfl ?_)))))); intro g15 w46 hN; replace hS := hS.litf (n := 1) 5 rfl (fI .i64) hN ([v18] : List Int) rfl (by decide) rfl; clear hN; refine zb ?_; obtain ⟨hx21, h⟩ := h; refine zn (ydC (c := cI) rfl rfl underlying27 underlying27 yag rfl rfl (by decide) hS 0 rfl (hS.yo 5 rfl) hx21 ?_); clear hS; intro A3 c5 w47 hS; refine zb (zq (za (.slice A3 (lv9 + 1) c5)) (yaa (yam (zr ?_)))); obtain ⟨hi8, h⟩ := h; refine zq (ycv hE46 rfl hi8) (zq (zm (ii (v18 + 1))) (yaa ?_)); obtain ⟨mq, hlt, h⟩ := h; exact again5 mq _ _ _ ⟨_, _, _, _, _, _, h, rfl, hE1, hE9, hE10, hE11, rfl, hE45, rfl, (hS.sel [0, 1, 2, 3, 4] (by decide))⟩ hlt
        · replace h := h.2 hp8; refine ya7 (congrArg Value.bool (decide_eq_false hp8)) ?_; refine yaL rfl ?_; refine yaf ?_; refine yas yar ?_; refine rl_q rfl rfl rfl (yae (v := (.slice Av9 lv9 cv9)) hE12) ?_; refine rl_q rfl rfl rfl (yhX (am0) (am1 hE9)) ?_; replace hS := hS.frzb 1 rfl; replace hS := hS.frz 2 rfl; replace hS := hS.addro 5 rfl (FP.st fun w' => ∃ (fid : Nat) (us : Array Value), (Value.func (Fn.func 59) #[] #[(Value.pointer (some (⟨g14, 0, none⟩ : Addr)))]) = Value.func (.func fid) #[] us ∧ Enters Try.prog fid ∧ ∀ (x03 : Int) (x13 : Int) (R : Int → Prop), (fun x8 x9 R => ya8 x8 x9 r9 R) x03 x13 R → Calls Try.prog fid (#[(Value.int .i64 x03), (Value.int .i64 x13)] ++ us) w' fun e w'' => ∃ r03 : Int, e = .returned (Value.int .i64 r03) ∧ Sep w' no no w'' (rl []) ∧ R r03) (fun w' hk => ⟨59, #[(Value.pointer (some (⟨g14, 0, none⟩ : Addr)))], rfl, enter_59, fun x8 x9 R hF => yaT (by simp) (ybS hF (yaF _) (FP.sub _ (FP.keep _ (hS.ro 1 rfl) hk) fun _ _ h => h.elim) (FP.sub _ (FP.keep _ (hS.ro 2 rfl) hk) fun _ _ h => h.elim))⟩); have hB := hS.lend (asc [(0, 0)]) [0, 5] (by decide) ⟨.inl (ydv rfl), .inr rfl, trivial⟩; refine rl_n rfl rfl rfl rfl (ycS (vs := #[(.slice Av9 lv9 cv9), (Value.func (Fn.func 59) #[] #[(.pointer (some (⟨g14, 0, none⟩ : Addr)))])]) (us := #[]) rfl (am2 rfl rfl) enter_58 ((yaT (by simp) (ybh h hB)).mono ?_)); rintro _ w48 ⟨y3, rfl, hC, h⟩; replace hS := hS.back (asc [(0, 0)]) (ydy (by decide)) hC; clear hC hB; refine ⟨_, rfl, ?_⟩; refine ⟨Stb.none _, ?_⟩; refine yaa ?_; refine yaf ?_; refine yaf ?_; refine yas yar ?_; refine rl_q rfl rfl rfl (yae (v := (.slice Av9 lv9 cv9)) hE12) ?_; refine rl_q rfl rfl rfl (yay (n := y3.length) rfl underlying27 (yav (hS.rdo 0 rfl))) ?_; refine rl_q rfl rfl rfl (yae (v := (.int .i64 0)) rfl) ?_; refine yaa ?_; refine yaj ?_; obtain ⟨I7, ⟨m0, h0⟩, hr⟩ := h; refine yaO (fun m E ds w' => ∃ v20 : Int, ∃ v21 : List Int, I7 m v20 v21 ∧ ds = [] ∧ E 1 = (Value.int .i64 i) ∧ E 10 = (Value.slice Av7 lv7 cv7) ∧ E 11 = (Value.slice Av8 lv8 cv8) ∧ E 65 = (Value.slice Av9 lv9 cv9) ∧ E 66 = (Value.int .i64 ((y3.length : Nat) : Int)) ∧ E 67 = (Value.int .i64 v20) ∧ Sep w no O w' (rl [Res.own cI 3 Av7 lv7 cv7 v19, Res.own cI 3 Av8 lv8 cv8 v21, Res.own cI 3 Av9 lv9 cv9 y3])) m0 ⟨_, _, h0, rfl, hE1, hE10, hE11, rfl, rfl, rfl, (hS.sel [3, 4, 0] (by decide))⟩ ?_; clear h0 hS; rintro m15 E ds w49 ⟨v20, v21, h, rfl, hE1, hE10, hE11, hE65, hE66, hE67, hS⟩ again6; replace h := hr m15 v20 v21 h; clear hr; refine yaf ?_; refine yas yar ?_; refine rl_q rfl rfl rfl (ycI hE67 hE66) ?_; refine yaa ?_; refine yaf ?_; by_cases hp10 : v20 < ((y3.length : Nat) : Int)
          · replace h := h.1 hp10; refine zc hp10 (yah (yaf (yaj (zs (zq (yae hE67) ?_))))); obtain ⟨hx22, h⟩ := h; refine zq (ycn hE65 hE67 underlying27 yag (yaN (hS.rdo 2 rfl) hx22)) (zq (yaK (v := (ii (gi y3 v20.toNat))) rfl underlying3 rfl (rd_1 (hS.rdo 2 rfl) hx22 (fun q => yby q) rfl)) ?_); refine zq (za (ii v20)) (zq (za (ii (gi y3 v20.toNat))) (yaa (zr (zq (yae hE11) (zq (zm (ii (gi y3 v20.toNat))) (zq (zm (ii v20)) ?_)))))); obtain ⟨hx23, h⟩ := h; refine zq (zi underlying27 yag (yaN (hS.rdo 1 rfl) hx23)) (zo (zt (ii v20) yag (hS.wr 1 rfl rfl hx23) ?_)); intro w50 e1; replace hS := hS.st 1 rfl rfl hx23 (x := v20) rfl e1; clear e1; refine zb (yaa (yam (zr ?_))); obtain ⟨hi9, h⟩ := h; refine zq (ycv hE67 rfl hi9) (zq (zm (ii (v20 + 1))) (yaa ?_)); obtain ⟨mq, hlt, h⟩ := h; exact again6 mq _ _ _ ⟨_, _, h, rfl, hE1, hE10, hE11, hE65, hE66, rfl, (hS.sel [0, 1, 2] (by decide))⟩ hlt
          · replace h := h.2 hp10; refine zd hp10 (yaL rfl (zs (zq (yae hE10) (zq (yae hE1) (zq (yae hE11) (zq (yae hE1) ?_)))))); obtain ⟨hx24, h⟩ := h; refine zq (zi underlying27 yag (yaN (hS.rdo 0 rfl) hx24)) (zo (zt (ii (-1)) yag (hS.wr 0 rfl rfl hx24) ?_)); intro w51 e1; replace hS := hS.st 0 rfl rfl hx24 (x := -1) rfl e1; clear e1; refine zb ?_; obtain ⟨hx25, h⟩ := h; refine zq (zi underlying27 yag (yaN (hS.rdo 1 rfl) hx25)) (zo (zt (ii (-1)) yag (hS.wr 1 rfl rfl hx25) ?_)); intro w52 e1; replace hS := hS.st 1 rfl rfl hx25 (x := -1) rfl e1; clear e1; exact zb (yaa (zs (zq (yae hE10) (zq (yae hE11) (zq (za (.slice Av7 lv7 cv7)) (zq (za (.slice Av8 lv8 cv8)) (zq (za (ii 0)) (yaa (yei rfl rfl rfl rfl ⟨_, _, _, _, _, _, _, _, _, rfl, (hS.sel [0, 1] (by decide)), h⟩)))))))))
      clear hJ; intro j3; refine yeF 2 5 [0, 1, 3, 4, 2, 6, 5, 7] [0, 1, 3, 4, 5, 2, 6, 7] (fun i => match i with | 2 => [3, 4] | 5 => [0, 1, 6] | _ => []) (fun i => match i with | 5 => [0, 1] | 2 => [3, 4] | _ => []) yar (by kernel_rfl) (by kernel_rfl) ?_ ?_
      · replace h := h.1; replace hS := hS.drew; refine zp (zm (.slice Ar lr cr)) (zp (yay (n := r.length) rfl underlying46 (yav (hS.rdo 2 rfl))) (zp (zm (.slice Ar lr cr)) (zp (yay (n := r.length) rfl underlying46 (yav (hS.rdo 2 rfl))) ?_))); obtain ⟨hx26, h⟩ := h; refine rp_n rfl rfl rfl rfl (ydd rfl rfl underlying27 yag (by decide) rfl hx26 ?_); intro g16 w53 hN; replace hS := hS.made 7 rfl cI (ii 0) (0 : Int) (fun _ _ => rfl) hN (by omega); clear hN; refine ⟨⟨fun _ => (yay (n := r.length) rfl underlying46 (yav (hS.rdo 2 rfl))), ⟨fun _ => (zm (.slice Ar lr cr)), ⟨fun hh => Bool.noConfusion (show false = true from hh), ⟨fun hh => Bool.noConfusion (show false = true from hh), trivial⟩⟩⟩⟩, ?_⟩; refine zp (za (.slice (some ⟨g16, 0, none⟩) (((r.length : Nat) : Int).toNat) (((r.length : Nat) : Int).toNat))) (rp_n rfl rfl rfl rfl (ydd rfl rfl underlying27 yag (by decide) rfl hx26 ?_)); intro g17 w54 hN; replace hS := hS.made 8 rfl cI (ii 0) (0 : Int) (fun _ _ => rfl) hN (by omega); clear hN; refine ⟨⟨fun _ => (za (.slice (some ⟨g16, 0, none⟩) (((r.length : Nat) : Int).toNat) (((r.length : Nat) : Int).toNat))), ⟨fun hh => Bool.noConfusion (show false = true from hh), ⟨fun hh => Bool.noConfusion (show false = true from hh), ⟨fun _ => (yay (n := r.length) rfl underlying46 (yav (hS.rdo 2 rfl))), ⟨fun _ => (zm (.slice Ar lr cr)), trivial⟩⟩⟩⟩⟩, ?_⟩; exact zp (za (.slice (some ⟨g17, 0, none⟩) (((r.length : Nat) : Int).toNat) (((r.length : Nat) : Int).toNat))) (ybk (j3 _ _ _ ⟨_, _, _, _, _, _, _, _, h, rfl, rfl, rfl, rfl, rfl, rfl, (hS.sel [7, 8, 2, 3, 6] (by decide))⟩))
      · replace h := h.2; replace hS := hS.drew; refine zp (zm (.slice Ar lr cr)) (zp (yay (n := r.length) rfl underlying46 (yav (hS.rdo 2 rfl))) (zp (zm (.slice Ar lr cr)) (zp (yay (n := r.length) rfl underlying46 (yav (hS.rdo 2 rfl))) ?_))); obtain ⟨hx27, h⟩ := h; refine rp_n rfl rfl rfl rfl (ydd rfl rfl underlying27 yag (by decide) rfl hx27 ?_); intro g18 w55 hN; replace hS := hS.made 7 rfl cI (ii 0) (0 : Int) (fun _ _ => rfl) hN (by omega); clear hN; refine ⟨⟨fun hh => Bool.noConfusion (show false = true from hh), ⟨fun hh => Bool.noConfusion (show false = true from hh), ⟨fun _ => (yay (n := r.length) rfl underlying46 (yav (hS.rdo 2 rfl))), ⟨fun _ => (zm (.slice Ar lr cr)), trivial⟩⟩⟩⟩, ?_⟩; refine rp_n rfl rfl rfl rfl (ydd rfl rfl underlying27 yag (by decide) rfl hx27 ?_); intro g19 w56 hN; replace hS := hS.made 8 rfl cI (ii 0) (0 : Int) (fun _ _ => rfl) hN (by omega); clear hN; refine ⟨⟨fun _ => (yay (n := r.length) rfl underlying46 (yav (hS.rdo 2 rfl))), ⟨fun _ => (zm (.slice Ar lr cr)), ⟨fun hh => Bool.noConfusion (show false = true from hh), ⟨fun hh => Bool.noConfusion (show false = true from hh), trivial⟩⟩⟩⟩, ?_⟩; exact zp (za (.slice (some ⟨g19, 0, none⟩) (((r.length : Nat) : Int).toNat) (((r.length : Nat) : Int).toNat))) (zp (za (.slice (some ⟨g18, 0, none⟩) (((r.length : Nat) : Int).toNat) (((r.length : Nat) : Int).toNat))) (ybk (j3 _ _ _ ⟨_, _, _, _, _, _, _, _, h, rfl, rfl, rfl, rfl, rfl, rfl, (hS.sel [8, 7, 2, 3, 6] (by decide))⟩)))
  · replace h := h.2 hp; refine zf hp (zs (zq (zm (ii r2)) (zq (za (.slice none 0 0)) (zq (za (.slice none 0 0)) (zq (za (ii r2)) (yaa ?_)))))); replace hS := hS.nil 3 rfl cI 3; replace hS := hS.nil 4 rfl cI 3; exact yei rfl rfl rfl rfl ⟨_, _, _, _, _, _, _, _, _, rfl, (hS.sel [3, 4] (by decide)), h⟩
end Go.Proofs.Ytinoedockljfeaa

/- Pure forms of functions, made by program (pf.py), each with the proof that the code does so. -/
namespace Go.Proofs.Ytinoedockljfeaa
open Go Go.RowKit Go.Shelf Go.Proofs.Try
set_option linter.unusedVariables false
set_option maxRecDepth 100000
set_option maxHeartbeats 8000000
def ycd (R : Bool → Prop) : Prop :=
ybi (fun r r2 =>
ya0 r r2 0 (fun r3 r4 r5 =>
ybi (fun r6 r7 =>
ybn r6 r7 0 (fun r8 r9 =>
ybi (fun r10 r11 =>
ybe r10 r11 0 (fun r12 r13 r14 =>
ya0 r3 r4 0 (fun r15 r16 r17 =>
ybi (fun r18 r19 =>
ybj r18 r19 2 (fun r20 r21 r22 =>
ybi (fun r23 r24 =>
ybt r23 r24 0 ([1, 2, 3]) (fun r25 r26 =>
ybI r20 r21 (fun r27 r28 =>
(In64 (r5 + r9) ∧
(In64 ((r5 + r9) + r14) ∧
(In64 (((r5 + r9) + r14) + r17) ∧
(In64 ((((r5 + r9) + r14) + r17) + r22) ∧
(In64 (((((r5 + r9) + r14) + r17) + r22) + r26) ∧
(In64 ((((((r5 + r9) + r14) + r17) + r22) + r26) + r28) ∧
((((((((r5 + r9) + r14) + r17) + r22) + r26) + r28) = 0 →
ycN r3 r4 2 ([(0, 1, 2)]) (fun r29 =>
((r29 = true →
ybc r8 ([0, 0, 1]) (fun r30 =>
((r30 = true →
ybc r13 ([-1, 0, 1]) (fun r31 =>
((r31 = true →
ycN r15 r16 1 ([(0, 0, 1)]) (fun r32 =>
((r32 = true →
yci r27 ([(0, 3), (0, 4), (1, 3), (1, 5), (2, 4), (2, 5)]) (fun r33 =>
((r33 = true →
yba r25 ([3, 3]) (fun r34 =>
R r34)) ∧
(¬ (r33 = true) →
R false)))) ∧
(¬ (r32 = true) →
R false)))) ∧
(¬ (r31 = true) →
R false)))) ∧
(¬ (r30 = true) →
R false)))) ∧
(¬ (r29 = true) →
R false)))) ∧
(¬ (((((((r5 + r9) + r14) + r17) + r22) + r26) + r28) = 0) →
R false))))))))))))))))))))
theorem ydZ {O : Nat → Prop} {w : World} {R : Bool → Prop} (h : ycd R) (hO : ∀ k, O k → k < w.heap.size) :
    Calls Try.prog 12 #[] w fun e w' => ∃ r35, e = .returned (.bool (r35)) ∧ Sep w no O w' (rl []) ∧ R r35 := by
  unfold ycd at h; have hS : Sep w no O w (rl []) := Sep.start w hO; refine yaq (l := []) func12 rfl ntmps12 (Nat.le_of_ble_eq_true rfl) (zs (zq (za (.bool (false))) (yaa (zs (zn (yak rfl (am0) yd5 ((ybO h (yaF _)).mono ?_))))))); rintro _ w2 ⟨r, r2, Ar, lr, cr, rfl, hC, h⟩; replace hS := hS.call1 (hC.widen (ybv (yat (fP (fI .i64) (fP (fI .i64) (fI .i64))) _ _ _ _ _) ybE) hS.blt) 0 0 rfl; clear hC; refine ⟨_, rfl, ?_⟩; refine zb (zn (yak rfl (am2 rfl rfl) yhR ((ycr h (yaF _) (hS.rdo 0 rfl)).mono ?_))); rintro _ w3 ⟨r3, r4, r5, Ar2, lr2, cr2, rfl, hC, h⟩; replace hS := hS.call1 (hC.widen (ybv (yat (fP (fI .i64) (fP (fI .i64) (fI .i64))) _ _ _ _ _) ybE) hS.blt) 1 0 rfl; clear hC; refine ⟨_, rfl, ?_⟩; refine zb (zq (zm (.tuple #[(.agg #[(ii r3), (.slice Ar2 lr2 cr2)]), (ii r5)])) (zq (zx (.agg #[(ii r3), (.slice Ar2 lr2 cr2)])) (zq (zx (ii r5)) (zn (ybg yan ?_))))); intro g w4 hN; replace hS : Sep w no O w4 (stl _ 2 (Res.box 24 g [(ii 0), (.slice none 0 0)])) := hS.new 2 rfl hN; clear hN; refine zb (zo (yaJ (b := g) (o := 0) (cells := #[(ii r3), (.slice Ar2 lr2 cr2)]) rfl rfl yan rfl rfl (yaC (hS.bx 2 rfl) (Nat.le_of_ble_eq_true rfl)) ?_)); intro w5 e1; replace hS := hS.bstn 2 rfl 0 [(ii r3), (.slice Ar2 lr2 cr2)] e1; clear e1; refine zb (zq (za (ii r5)) (yaa (zs (zn (yak rfl (am0) yd5 ((ybO h (yaF _)).mono ?_)))))); rintro _ w6 ⟨r6, r7, Ar3, lr3, cr3, rfl, hC, h⟩; replace hS := hS.call1 (hC.widen (ybv (yat (fP (fI .i64) (fP (fI .i64) (fI .i64))) _ _ _ _ _) ybE) hS.blt) 3 0 rfl; clear hC; refine ⟨_, rfl, ?_⟩; refine zb (zn (yak rfl (am2 rfl rfl) enter_29 ((ydt h (yaF _) (hS.rdo 3 rfl)).mono ?_))); rintro _ w7 ⟨r8, r9, Ar4, lr4, cr4, rfl, hC, h⟩; replace hS := hS.call1 (hC.widen (ybv (yat (fI .i64) _ _ _ _ _) ybE) hS.blt) 4 0 rfl; clear hC; refine ⟨_, rfl, ?_⟩; refine zb (zq (zm (.tuple #[(.slice Ar4 lr4 cr4), (ii r9)])) (zq (zx (.slice Ar4 lr4 cr4)) (zq (zx (ii r9)) (zq (za (.slice Ar4 lr4 cr4)) (zq (za (ii r9)) (yaa (zs (zn (yak rfl (am0) yd5 ((ybO h (yaF _)).mono ?_)))))))))); rintro _ w8 ⟨r10, r11, Ar5, lr5, cr5, rfl, hC, h⟩; replace hS := hS.call1 (hC.widen (ybv (yat (fP (fI .i64) (fP (fI .i64) (fI .i64))) _ _ _ _ _) ybE) hS.blt) 5 0 rfl; clear hC; refine ⟨_, rfl, ?_⟩; refine zb (zn (yak rfl (am2 rfl rfl) enter_13 ((ycC h (yaF _) (hS.rdo 5 rfl)).mono ?_))); rintro _ w9 ⟨r12, r13, r14, Ar6, lr6, cr6, Ar7, lr7, cr7, rfl, hC, h⟩; replace hS := hS.call2 (hC.widen (ybv (yat (fI .i64) _ _ _ _ _) (ybv (yat (fI .i64) _ _ _ _ _) ybE)) hS.blt) 6 0 7 1 rfl rfl (by decide) (by decide); clear hC; refine ⟨_, rfl, ?_⟩; refine zb (zq (zm (.tuple #[(.slice Ar6 lr6 cr6), (.slice Ar7 lr7 cr7), (ii r14)])) (zq (zx (.slice Ar6 lr6 cr6)) (zq (zx (.slice Ar7 lr7 cr7)) (zq (zx (ii r14)) (zq (za (.slice Ar6 lr6 cr6)) (zq (za (.slice Ar7 lr7 cr7)) (zq (za (ii r14)) (yaa (zs (zq (yaz (vs := [(ii r3), (.slice Ar2 lr2 cr2)]) rfl underlying24 rfl yan ⟨Row.cell (hS.bx 2 rfl) (i := 0) rfl, Row.cell (hS.bx 2 rfl) (i := 1) rfl, trivial⟩) (zn (yak rfl (am2 rfl rfl) yhR ((ycr h (yaF _) (hS.rdo 1 rfl)).mono ?_))))))))))))); rintro _ w10 ⟨r15, r16, r17, Ar8, lr8, cr8, rfl, hC, h⟩; replace hS := hS.call1 (hC.widen (ybv (yat (fP (fI .i64) (fP (fI .i64) (fI .i64))) _ _ _ _ _) ybE) hS.blt) 8 0 rfl; clear hC; refine ⟨_, rfl, ?_⟩; refine zb (zq (zm (.tuple #[(.agg #[(ii r15), (.slice Ar8 lr8 cr8)]), (ii r17)])) (zq (zx (.agg #[(ii r15), (.slice Ar8 lr8 cr8)])) (zq (zx (ii r17)) (zn (ybg yan ?_))))); intro g2 w11 hN; replace hS : Sep w no O w11 (stl _ 9 (Res.box 24 g2 [(ii 0), (.slice none 0 0)])) := hS.new 9 rfl hN; clear hN; refine zb (zo (yaJ (b := g2) (o := 0) (cells := #[(ii r15), (.slice Ar8 lr8 cr8)]) rfl rfl yan rfl rfl (yaC (hS.bx 9 rfl) (Nat.le_of_ble_eq_true rfl)) ?_)); intro w12 e1; replace hS := hS.bstn 9 rfl 0 [(ii r15), (.slice Ar8 lr8 cr8)] e1; clear e1; refine zb (zq (za (ii r17)) (yaa (zs (zn (yak rfl (am0) yd5 ((ybO h (yaF _)).mono ?_)))))); rintro _ w13 ⟨r18, r19, Ar9, lr9, cr9, rfl, hC, h⟩; replace hS := hS.call1 (hC.widen (ybv (yat (fP (fI .i64) (fP (fI .i64) (fI .i64))) _ _ _ _ _) ybE) hS.blt) 10 0 rfl; clear hC; refine ⟨_, rfl, ?_⟩; refine zb (zn (yak rfl (am2 rfl rfl) enter_27 ((ydr h (yaF _) (hS.rdo 10 rfl)).mono ?_))); rintro _ w14 ⟨r20, r21, r22, Ar10, lr10, cr10, rfl, hC, h⟩; replace hS := hS.call1 (hC.widen (ybv (yat (fP (fI .i64) (fP (fI .i64) (fI .i64))) _ _ _ _ _) ybE) hS.blt) 11 0 rfl; clear hC; refine ⟨_, rfl, ?_⟩; refine zb (zq (zm (.tuple #[(.agg #[(ii r20), (.slice Ar10 lr10 cr10)]), (ii r22)])) (zq (zx (.agg #[(ii r20), (.slice Ar10 lr10 cr10)])) (zq (zx (ii r22)) (zn (ybg yan ?_))))); intro g3 w15 hN; replace hS : Sep w no O w15 (stl _ 12 (Res.box 24 g3 [(ii 0), (.slice none 0 0)])) := hS.new 12 rfl hN; clear hN; refine zb (zo (yaJ (b := g3) (o := 0) (cells := #[(ii r20), (.slice Ar10 lr10 cr10)]) rfl rfl yan rfl rfl (yaC (hS.bx 12 rfl) (Nat.le_of_ble_eq_true rfl)) ?_)); intro w16 e1; replace hS := hS.bstn 12 rfl 0 [(ii r20), (.slice Ar10 lr10 cr10)] e1; clear e1; refine zb (zq (za (ii r22)) (yaa (zs (zn (yak rfl (am0) yd5 ((ybO h (yaF _)).mono ?_)))))); rintro _ w17 ⟨r23, r24, Ar11, lr11, cr11, rfl, hC, h⟩; replace hS := hS.call1 (hC.widen (ybv (yat (fP (fI .i64) (fP (fI .i64) (fI .i64))) _ _ _ _ _) ybE) hS.blt) 13 0 rfl; clear hC; refine ⟨_, rfl, ?_⟩; refine zb (zn (yaU (l := [(0, (ii 1)), (1, (ii 2)), (2, (ii 3))]) (cells := [(ii 1), (ii 2), (ii 3)]) (bp3 rfl rfl rfl) underlying35 yag rfl rfl ?_)); intro g4 w18 hN; replace hS := hS.litf (n := 3) 14 rfl (fI .i64) hN ([1, 2, 3] : List Int) rfl (by decide) rfl; clear hN; refine zb (zn (yak rfl (am3 rfl rfl rfl) enter_16 ((ydL h (yaF _) (hS.rdo 13 rfl) (hS.rdo 14 rfl)).mono ?_))); rintro _ w19 ⟨r25, r26, Ar12, lr12, cr12, rfl, hC, h⟩; replace hS := hS.call1 (hC.widen (ybv (yat (fI .i64) _ _ _ _ _) ybE) hS.blt) 15 0 rfl; clear hC; refine ⟨_, rfl, ?_⟩; refine zb (zq (zm (.tuple #[(.slice Ar12 lr12 cr12), (ii r26)])) (zq (zx (.slice Ar12 lr12 cr12)) (zq (zx (ii r26)) ?_)))
  refine zq (za (.slice Ar12 lr12 cr12)) (zq (za (ii r26)) (yaa (zs (zq (yaz (vs := [(ii r20), (.slice Ar10 lr10 cr10)]) rfl underlying24 rfl yan ⟨Row.cell (hS.bx 12 rfl) (i := 0) rfl, Row.cell (hS.bx 12 rfl) (i := 1) rfl, trivial⟩) (zn (yak rfl (am1 rfl) ygx ((yc8 h (yaF _) (hS.rdo 11 rfl)).mono ?_))))))); rintro _ w20 ⟨r27, r28, Ar13, lr13, cr13, rfl, hC, h⟩; replace hS := hS.call1 (hC.widen (ybv (yat (fP (fI .i64) (fI .i64)) _ _ _ _ _) ybE) hS.blt) 16 0 rfl; clear hC; refine ⟨_, rfl, ?_⟩; refine zb (zq (zm (.tuple #[(.slice Ar13 lr13 cr13), (ii r28)])) (zq (zx (.slice Ar13 lr13 cr13)) (zq (zx (ii r28)) (zq (za (.slice Ar13 lr13 cr13)) (zq (za (ii r28)) (yaa (zs (zq (zm (ii r5)) (zq (zm (ii r9)) ?_))))))))); obtain ⟨hi, h⟩ := h; refine zq (zA hi) (zq (zm (ii r14)) ?_); obtain ⟨hi2, h⟩ := h; refine zq (zA hi2) (zq (zm (ii r17)) ?_); obtain ⟨hi3, h⟩ := h; refine zq (zA hi3) (zq (zm (ii r22)) ?_); obtain ⟨hi4, h⟩ := h; refine zq (zA hi4) (zq (zm (ii r26)) ?_); obtain ⟨hi5, h⟩ := h; refine zq (zA hi5) (zq (zm (ii r28)) ?_); obtain ⟨hi6, h⟩ := h; refine zq (zA hi6) (zq zE (zq (zm (.bool (decide (((((((r5 + r9) + r14) + r17) + r22) + r26) + r28) = 0)))) ?_)); by_cases hp : ((((((r5 + r9) + r14) + r17) + r22) + r26) + r28) = 0
  · replace h := h.1 hp; refine rl_q (yad rfl (yac rfl (congrArg Value.bool (decide_eq_true hp)))) rfl rfl (yaz (vs := [(ii r3), (.slice Ar2 lr2 cr2)]) rfl underlying24 rfl yan ⟨Row.cell (hS.bx 2 rfl) (i := 0) rfl, Row.cell (hS.bx 2 rfl) (i := 1) rfl, trivial⟩) (rl_n (yad rfl (yac rfl (congrArg Value.bool (decide_eq_true hp)))) rfl rfl rfl (ybw (l := [(0, (ii 0)), (1, (ii 1)), (2, (ii 2))]) (cells := [(ii 0), (ii 1), (ii 2)]) (places := [(0, 1), (1, 1), (2, 1)]) (bp3 rfl rfl rfl) underlying75 yaX (by kernel_rfl) rfl ?_)); refine zb (rl_n (yad rfl (yac rfl (congrArg Value.bool (decide_eq_true hp)))) rfl rfl rfl (yaU (l := [(0, (.agg #[(ii 0), (ii 1), (ii 2)]))]) (cells := [(ii 0), (ii 1), (ii 2)]) (bp1 rfl) underlying22 yaX rfl rfl ?_)); intro g5 w21 hN; replace hS := hS.litf (n := 1) 17 rfl (fP (fI .i64) (fP (fI .i64) (fI .i64))) hN ([(0, 1, 2)] : List E3) rfl (by decide) rfl; clear hN; refine zb (rl_n (yad rfl (yac rfl (congrArg Value.bool (decide_eq_true hp)))) rfl rfl rfl (ybw (l := [(0, (ii 2)), (1, (.slice (some ⟨g5, 0, none⟩) 1 1))]) (cells := [(ii 2), (.slice (some ⟨g5, 0, none⟩) 1 1)]) (places := [(0, 1), (1, 1)]) (bp2 rfl rfl) underlying24 yan (by kernel_rfl) rfl ?_)); refine zb (rl_n (yad rfl (yac rfl (congrArg Value.bool (decide_eq_true hp)))) rfl rfl rfl (yak rfl (am2 rfl rfl) ygq ((yep h (yaF _) (hS.rdo 1 rfl) (hS.rdo 17 rfl)).mono ?_))); rintro _ w22 ⟨r29, rfl, hC, h⟩; replace hS := hS.pur hC.pure; clear hC; refine ⟨_, rfl, ?_⟩; refine zb (zq (yaw (v := (.bool (r29))) (congrArg Value.bool (decide_eq_true hp)) rfl) (zq (zm (.bool (r29))) ?_)); by_cases hp2 : r29 = true
    · replace h := h.1 hp2; refine rl_q (yad rfl (yac rfl (congrArg Value.bool hp2))) rfl rfl (zm (.slice Ar4 lr4 cr4)) (rl_n (yad rfl (yac rfl (congrArg Value.bool hp2))) rfl rfl rfl (yaU (l := [(0, (ii 0)), (1, (ii 0)), (2, (ii 1))]) (cells := [(ii 0), (ii 0), (ii 1)]) (bp3 rfl rfl rfl) underlying27 yag rfl rfl ?_)); intro g6 w23 hN; replace hS := hS.litf (n := 3) 18 rfl (fI .i64) hN ([0, 0, 1] : List Int) rfl (by decide) rfl; clear hN; refine zb (rl_n (yad rfl (yac rfl (congrArg Value.bool hp2))) rfl rfl rfl (yak rfl (am2 rfl rfl) enter_53 ((yct h (yaF _) (hS.rdo 4 rfl) (hS.rdo 18 rfl)).mono ?_))); rintro _ w24 ⟨r30, rfl, hC, h⟩; replace hS := hS.pur hC.pure; clear hC; refine ⟨_, rfl, ?_⟩; refine zb (zq (yaw (v := (.bool (r30))) (congrArg Value.bool hp2) rfl) (zq (zm (.bool (r30))) ?_)); by_cases hp3 : r30 = true
      · replace h := h.1 hp3; refine rl_q (yad rfl (yac rfl (congrArg Value.bool hp3))) rfl rfl (zm (.slice Ar7 lr7 cr7)) (rl_n (yad rfl (yac rfl (congrArg Value.bool hp3))) rfl rfl rfl (yaU (l := [(0, (ii (-1))), (1, (ii 0)), (2, (ii 1))]) (cells := [(ii (-1)), (ii 0), (ii 1)]) (bp3 rfl rfl rfl) underlying27 yag rfl rfl ?_)); intro g7 w25 hN; replace hS := hS.litf (n := 3) 19 rfl (fI .i64) hN ([-1, 0, 1] : List Int) rfl (by decide) rfl; clear hN; refine zb (rl_n (yad rfl (yac rfl (congrArg Value.bool hp3))) rfl rfl rfl (yak rfl (am2 rfl rfl) enter_53 ((yct h (yaF _) (hS.rdo 7 rfl) (hS.rdo 19 rfl)).mono ?_))); rintro _ w26 ⟨r31, rfl, hC, h⟩; replace hS := hS.pur hC.pure; clear hC; refine ⟨_, rfl, ?_⟩; refine zb (zq (yaw (v := (.bool (r31))) (congrArg Value.bool hp3) rfl) (zq (zm (.bool (r31))) ?_)); by_cases hp4 : r31 = true
        · replace h := h.1 hp4; refine rl_q (yad rfl (yac rfl (congrArg Value.bool hp4))) rfl rfl (yaz (vs := [(ii r15), (.slice Ar8 lr8 cr8)]) rfl underlying24 rfl yan ⟨Row.cell (hS.bx 9 rfl) (i := 0) rfl, Row.cell (hS.bx 9 rfl) (i := 1) rfl, trivial⟩) (rl_n (yad rfl (yac rfl (congrArg Value.bool hp4))) rfl rfl rfl (ybw (l := [(2, (ii 1))]) (cells := [(ii 0), (ii 0), (ii 1)]) (places := [(0, 1), (1, 1), (2, 1)]) (bp1 rfl) underlying75 yaX (by kernel_rfl) rfl ?_)); refine zb (rl_n (yad rfl (yac rfl (congrArg Value.bool hp4))) rfl rfl rfl (yaU (l := [(0, (.agg #[(ii 0), (ii 0), (ii 1)]))]) (cells := [(ii 0), (ii 0), (ii 1)]) (bp1 rfl) underlying22 yaX rfl rfl ?_)); intro g8 w27 hN; replace hS := hS.litf (n := 1) 20 rfl (fP (fI .i64) (fP (fI .i64) (fI .i64))) hN ([(0, 0, 1)] : List E3) rfl (by decide) rfl; clear hN; refine zb (rl_n (yad rfl (yac rfl (congrArg Value.bool hp4))) rfl rfl rfl (ybw (l := [(0, (ii 1)), (1, (.slice (some ⟨g8, 0, none⟩) 1 1))]) (cells := [(ii 1), (.slice (some ⟨g8, 0, none⟩) 1 1)]) (places := [(0, 1), (1, 1)]) (bp2 rfl rfl) underlying24 yan (by kernel_rfl) rfl ?_)); refine zb (rl_n (yad rfl (yac rfl (congrArg Value.bool hp4))) rfl rfl rfl (yak rfl (am2 rfl rfl) ygq ((yep h (yaF _) (hS.rdo 8 rfl) (hS.rdo 20 rfl)).mono ?_))); rintro _ w28 ⟨r32, rfl, hC, h⟩; replace hS := hS.pur hC.pure; clear hC; refine ⟨_, rfl, ?_⟩; refine zb (zq (yaw (v := (.bool (r32))) (congrArg Value.bool hp4) rfl) (zq (zm (.bool (r32))) ?_)); by_cases hp5 : r32 = true
          · replace h := h.1 hp5; refine rl_q (yad rfl (yac rfl (congrArg Value.bool hp5))) rfl rfl (zm (.slice Ar13 lr13 cr13)) (rl_n (yad rfl (yac rfl (congrArg Value.bool hp5))) rfl rfl rfl (yb9 (l := [(0, (ii 0)), (1, (ii 3))]) (cells := [(ii 0), (ii 3)]) (bp2 rfl rfl) underlying45 yal yag (by kernel_rfl) ?_)); refine zb (rl_n (yad rfl (yac rfl (congrArg Value.bool hp5))) rfl rfl rfl (yb9 (l := [(0, (ii 0)), (1, (ii 4))]) (cells := [(ii 0), (ii 4)]) (bp2 rfl rfl) underlying45 yal yag (by kernel_rfl) ?_)); refine zb (rl_n (yad rfl (yac rfl (congrArg Value.bool hp5))) rfl rfl rfl (yb9 (l := [(0, (ii 1)), (1, (ii 3))]) (cells := [(ii 1), (ii 3)]) (bp2 rfl rfl) underlying45 yal yag (by kernel_rfl) ?_)); refine zb (rl_n (yad rfl (yac rfl (congrArg Value.bool hp5))) rfl rfl rfl (yb9 (l := [(0, (ii 1)), (1, (ii 5))]) (cells := [(ii 1), (ii 5)]) (bp2 rfl rfl) underlying45 yal yag (by kernel_rfl) ?_)); refine zb (rl_n (yad rfl (yac rfl (congrArg Value.bool hp5))) rfl rfl rfl (yb9 (l := [(0, (ii 2)), (1, (ii 4))]) (cells := [(ii 2), (ii 4)]) (bp2 rfl rfl) underlying45 yal yag (by kernel_rfl) ?_)); refine zb (rl_n (yad rfl (yac rfl (congrArg Value.bool hp5))) rfl rfl rfl (yb9 (l := [(0, (ii 2)), (1, (ii 5))]) (cells := [(ii 2), (ii 5)]) (bp2 rfl rfl) underlying45 yal yag (by kernel_rfl) ?_)); refine zb (rl_n (yad rfl (yac rfl (congrArg Value.bool hp5))) rfl rfl rfl (yaU (l := [(0, (.agg #[(ii 0), (ii 3)])), (1, (.agg #[(ii 0), (ii 4)])), (2, (.agg #[(ii 1), (ii 3)])), (3, (.agg #[(ii 1), (ii 5)])), (4, (.agg #[(ii 2), (ii 4)])), (5, (.agg #[(ii 2), (ii 5)]))]) (cells := [(ii 0), (ii 3), (ii 0), (ii 4), (ii 1), (ii 3), (ii 1), (ii 5), (ii 2), (ii 4), (ii 2), (ii 5)]) (bp6 rfl rfl rfl rfl rfl rfl) underlying46 yal rfl rfl ?_)); intro g9 w29 hN; replace hS := hS.litf (n := 6) 21 rfl (fP (fI .i64) (fI .i64)) hN ([(0, 3), (0, 4), (1, 3), (1, 5), (2, 4), (2, 5)] : List (Int × Int)) rfl (by decide) rfl; clear hN; refine zb (rl_n (yad rfl (yac rfl (congrArg Value.bool hp5))) rfl rfl rfl (yak rfl (am2 rfl rfl) enter_54 ((yez h (yaF _) (hS.rdo 16 rfl) (hS.rdo 21 rfl)).mono ?_))); rintro _ w30 ⟨r33, rfl, hC, h⟩; replace hS := hS.pur hC.pure; clear hC; refine ⟨_, rfl, ?_⟩; refine zb (zq (yaw (v := (.bool (r33))) (congrArg Value.bool hp5) rfl) (zq (zm (.bool (r33))) ?_)); by_cases hp6 : r33 = true
            · replace h := h.1 hp6; refine rl_q (yad rfl (yac rfl (congrArg Value.bool hp6))) rfl rfl (zm (.slice Ar12 lr12 cr12)) (rl_n (yad rfl (yac rfl (congrArg Value.bool hp6))) rfl rfl rfl (yaU (l := [(0, (ii 3)), (1, (ii 3))]) (cells := [(ii 3), (ii 3)]) (bp2 rfl rfl) underlying35 yag rfl rfl ?_)); intro g10 w31 hN; replace hS := hS.litf (n := 2) 22 rfl (fI .i64) hN ([3, 3] : List Int) rfl (by decide) rfl; clear hN; refine zb (rl_n (yad rfl (yac rfl (congrArg Value.bool hp6))) rfl rfl rfl (yak rfl (am2 rfl rfl) enter_37 ((ydf h (yaF _) (hS.rdo 15 rfl) (hS.rdo 22 rfl)).mono ?_))); rintro _ w32 ⟨r34, rfl, hC, h⟩; replace hS := hS.pur hC.pure; clear hC; refine ⟨_, rfl, ?_⟩; exact zb (zq (yaw (v := (.bool (r34))) (congrArg Value.bool hp6) rfl) (zq (za (.bool (r34))) (yaa (yai rfl rfl ⟨_, rfl, (hS.sel [] (by decide)), h⟩))))
            · replace h := h.2 hp6; exact rl_p (yab rfl (yac rfl (congrArg Value.bool (Bool.eq_false_iff.2 hp6))) rfl) rfl (rl_p (yab rfl (yac rfl (congrArg Value.bool (Bool.eq_false_iff.2 hp6))) rfl) rfl (rl_p (yab rfl (yac rfl (congrArg Value.bool (Bool.eq_false_iff.2 hp6))) rfl) rfl (zq (yap (v := (.bool (false))) (congrArg Value.bool (Bool.eq_false_iff.2 hp6)) rfl) (zq (za (.bool (false))) (yaa (yai rfl rfl ⟨_, rfl, (hS.sel [] (by decide)), h⟩))))))
          · replace h := h.2 hp5; exact rl_p (yab rfl (yac rfl (congrArg Value.bool (Bool.eq_false_iff.2 hp5))) rfl) rfl (rl_p (yab rfl (yac rfl (congrArg Value.bool (Bool.eq_false_iff.2 hp5))) rfl) rfl (rl_p (yab rfl (yac rfl (congrArg Value.bool (Bool.eq_false_iff.2 hp5))) rfl) rfl (rl_p (yab rfl (yac rfl (congrArg Value.bool (Bool.eq_false_iff.2 hp5))) rfl) rfl (rl_p (yab rfl (yac rfl (congrArg Value.bool (Bool.eq_false_iff.2 hp5))) rfl) rfl (rl_p (yab rfl (yac rfl (congrArg Value.bool (Bool.eq_false_iff.2 hp5))) rfl) rfl (rl_p (yab rfl (yac rfl (congrArg Value.bool (Bool.eq_false_iff.2 hp5))) rfl) rfl (rl_p (yab rfl (yac rfl (congrArg Value.bool (Bool.eq_false_iff.2 hp5))) rfl) rfl (rl_p (yab rfl (yac rfl (congrArg Value.bool (Bool.eq_false_iff.2 hp5))) rfl) rfl (zq (yap (v := (.bool (false))) (congrArg Value.bool (Bool.eq_false_iff.2 hp5)) rfl) (zq (zm (.bool (false))) (rl_p (yab rfl (yac rfl rfl) rfl) rfl (rl_p (yab rfl (yac rfl rfl) rfl) rfl (rl_p (yab rfl (yac rfl rfl) rfl) rfl (zq (yap (v := (.bool (false))) rfl rfl) (zq (za (.bool (false))) (yaa (yai rfl rfl ⟨_, rfl, (hS.sel [] (by decide)), h⟩)))))))))))))))))
        · replace h := h.2 hp4; exact rl_p (yab rfl (yac rfl (congrArg Value.bool (Bool.eq_false_iff.2 hp4))) rfl) rfl (rl_p (yab rfl (yac rfl (congrArg Value.bool (Bool.eq_false_iff.2 hp4))) rfl) rfl (rl_p (yab rfl (yac rfl (congrArg Value.bool (Bool.eq_false_iff.2 hp4))) rfl) rfl (rl_p (yab rfl (yac rfl (congrArg Value.bool (Bool.eq_false_iff.2 hp4))) rfl) rfl (rl_p (yab rfl (yac rfl (congrArg Value.bool (Bool.eq_false_iff.2 hp4))) rfl) rfl (zq (yap (v := (.bool (false))) (congrArg Value.bool (Bool.eq_false_iff.2 hp4)) rfl) (zq (zm (.bool (false))) (rl_p (yab rfl (yac rfl rfl) rfl) rfl (rl_p (yab rfl (yac rfl rfl) rfl) rfl (rl_p (yab rfl (yac rfl rfl) rfl) rfl (rl_p (yab rfl (yac rfl rfl) rfl) rfl (rl_p (yab rfl (yac rfl rfl) rfl) rfl (rl_p (yab rfl (yac rfl rfl) rfl) rfl (rl_p (yab rfl (yac rfl rfl) rfl) rfl (rl_p (yab rfl (yac rfl rfl) rfl) rfl (rl_p (yab rfl (yac rfl rfl) rfl) rfl (zq (yap (v := (.bool (false))) rfl rfl) (zq (zm (.bool (false))) (rl_p (yab rfl (yac rfl rfl) rfl) rfl (rl_p (yab rfl (yac rfl rfl) rfl) rfl (rl_p (yab rfl (yac rfl rfl) rfl) rfl (zq (yap (v := (.bool (false))) rfl rfl) (zq (za (.bool (false))) (yaa (yai rfl rfl ⟨_, rfl, (hS.sel [] (by decide)), h⟩))))))))))))))))))))))))
      · replace h := h.2 hp3; exact rl_p (yab rfl (yac rfl (congrArg Value.bool (Bool.eq_false_iff.2 hp3))) rfl) rfl (rl_p (yab rfl (yac rfl (congrArg Value.bool (Bool.eq_false_iff.2 hp3))) rfl) rfl (rl_p (yab rfl (yac rfl (congrArg Value.bool (Bool.eq_false_iff.2 hp3))) rfl) rfl (zq (yap (v := (.bool (false))) (congrArg Value.bool (Bool.eq_false_iff.2 hp3)) rfl) (zq (zm (.bool (false))) (rl_p (yab rfl (yac rfl rfl) rfl) rfl (rl_p (yab rfl (yac rfl rfl) rfl) rfl (rl_p (yab rfl (yac rfl rfl) rfl) rfl (rl_p (yab rfl (yac rfl rfl) rfl) rfl (rl_p (yab rfl (yac rfl rfl) rfl) rfl (zq (yap (v := (.bool (false))) rfl rfl) (zq (zm (.bool (false))) (rl_p (yab rfl (yac rfl rfl) rfl) rfl (rl_p (yab rfl (yac rfl rfl) rfl) rfl (rl_p (yab rfl (yac rfl rfl) rfl) rfl (rl_p (yab rfl (yac rfl rfl) rfl) rfl (rl_p (yab rfl (yac rfl rfl) rfl) rfl (rl_p (yab rfl (yac rfl rfl) rfl) rfl (rl_p (yab rfl (yac rfl rfl) rfl) rfl (rl_p (yab rfl (yac rfl rfl) rfl) rfl (rl_p (yab rfl (yac rfl rfl) rfl) rfl (zq (yap (v := (.bool (false))) rfl rfl) (zq (zm (.bool (false))) (rl_p (yab rfl (yac rfl rfl) rfl) rfl (rl_p (yab rfl (yac rfl rfl) rfl) rfl (rl_p (yab rfl (yac rfl rfl) rfl) rfl (zq (yap (v := (.bool (false))) rfl rfl) (zq (za (.bool (false))) (yaa (yai rfl rfl ⟨_, rfl, (hS.sel [] (by decide)), h⟩)))))))))))))))))))))))))))))
    · replace h := h.2 hp2; exact rl_p (yab rfl (yac rfl (congrArg Value.bool (Bool.eq_false_iff.2 hp2))) rfl) rfl (rl_p (yab rfl (yac rfl (congrArg Value.bool (Bool.eq_false_iff.2 hp2))) rfl) rfl (rl_p (yab rfl (yac rfl (congrArg Value.bool (Bool.eq_false_iff.2 hp2))) rfl) rfl (zq (yap (v := (.bool (false))) (congrArg Value.bool (Bool.eq_false_iff.2 hp2)) rfl) (zq (zm (.bool (false))) (rl_p (yab rfl (yac rfl rfl) rfl) rfl (rl_p (yab rfl (yac rfl rfl) rfl) rfl (rl_p (yab rfl (yac rfl rfl) rfl) rfl (zq (yap (v := (.bool (false))) rfl rfl) (zq (zm (.bool (false))) (rl_p (yab rfl (yac rfl rfl) rfl) rfl (rl_p (yab rfl (yac rfl rfl) rfl) rfl (rl_p (yab rfl (yac rfl rfl) rfl) rfl (rl_p (yab rfl (yac rfl rfl) rfl) rfl (rl_p (yab rfl (yac rfl rfl) rfl) rfl (zq (yap (v := (.bool (false))) rfl rfl) (zq (zm (.bool (false))) (rl_p (yab rfl (yac rfl rfl) rfl) rfl (rl_p (yab rfl (yac rfl rfl) rfl) rfl (rl_p (yab rfl (yac rfl rfl) rfl) rfl (rl_p (yab rfl (yac rfl rfl) rfl) rfl (rl_p (yab rfl (yac rfl rfl) rfl) rfl (rl_p (yab rfl (yac rfl rfl) rfl) rfl (rl_p (yab rfl (yac rfl rfl) rfl) rfl (rl_p (yab rfl (yac rfl rfl) rfl) rfl (rl_p (yab rfl (yac rfl rfl) rfl) rfl (zq (yap (v := (.bool (false))) rfl rfl) (zq (zm (.bool (false))) (rl_p (yab rfl (yac rfl rfl) rfl) rfl (rl_p (yab rfl (yac rfl rfl) rfl) rfl (rl_p (yab rfl (yac rfl rfl) rfl) rfl (zq (yap (v := (.bool (false))) rfl rfl) (zq (za (.bool (false))) (yaa (yai rfl rfl ⟨_, rfl, (hS.sel [] (by decide)), h⟩))))))))))))))))))))))))))))))))))
  · replace h := h.2 hp; exact rl_p (yab rfl (yac rfl (congrArg Value.bool (decide_eq_false hp))) rfl) rfl (rl_p (yab rfl (yac rfl (congrArg Value.bool (decide_eq_false hp))) rfl) rfl (rl_p (yab rfl (yac rfl (congrArg Value.bool (decide_eq_false hp))) rfl) rfl (rl_p (yab rfl (yac rfl (congrArg Value.bool (decide_eq_false hp))) rfl) rfl (rl_p (yab rfl (yac rfl (congrArg Value.bool (decide_eq_false hp))) rfl) rfl (zq (yap (v := (.bool (false))) (congrArg Value.bool (decide_eq_false hp)) rfl) (zq (zm (.bool (false))) (rl_p (yab rfl (yac rfl rfl) rfl) rfl (rl_p (yab rfl (yac rfl rfl) rfl) rfl (rl_p (yab rfl (yac rfl rfl) rfl) rfl (zq (yap (v := (.bool (false))) rfl rfl) (zq (zm (.bool (false))) (rl_p (yab rfl (yac rfl rfl) rfl) rfl (rl_p (yab rfl (yac rfl rfl) rfl) rfl (rl_p (yab rfl (yac rfl rfl) rfl) rfl (zq (yap (v := (.bool (false))) rfl rfl) (zq (zm (.bool (false))) (rl_p (yab rfl (yac rfl rfl) rfl) rfl (rl_p (yab rfl (yac rfl rfl) rfl) rfl (rl_p (yab rfl (yac rfl rfl) rfl) rfl (rl_p (yab rfl (yac rfl rfl) rfl) rfl (rl_p (yab rfl (yac rfl rfl) rfl) rfl (zq (yap (v := (.bool (false))) rfl rfl) (zq (zm (.bool (false))) (rl_p (yab rfl (yac rfl rfl) rfl) rfl (rl_p (yab rfl (yac rfl rfl) rfl) rfl (rl_p (yab rfl (yac rfl rfl) rfl) rfl (rl_p (yab rfl (yac rfl rfl) rfl) rfl (rl_p (yab rfl (yac rfl rfl) rfl) rfl (rl_p (yab rfl (yac rfl rfl) rfl) rfl (rl_p (yab rfl (yac rfl rfl) rfl) rfl (rl_p (yab rfl (yac rfl rfl) rfl) rfl (rl_p (yab rfl (yac rfl rfl) rfl) rfl (zq (yap (v := (.bool (false))) rfl rfl) (zq (zm (.bool (false))) (rl_p (yab rfl (yac rfl rfl) rfl) rfl (rl_p (yab rfl (yac rfl rfl) rfl) rfl (rl_p (yab rfl (yac rfl rfl) rfl) rfl (zq (yap (v := (.bool (false))) rfl rfl) (zq (za (.bool (false))) (yaa (yai rfl rfl ⟨_, rfl, (hS.sel [] (by decide)), h⟩)))))))))))))))))))))))))))))))))))))))))
end Go.Proofs.Ytinoedockljfeaa

/- The forms. -/

/- The graph with some single edges: the reference and the program. -/
namespace Go.Proofs.Ytinoedockljfeaa
open Go Go.RowKit Go.Shelf Go.Proofs.Try
set_option linter.unusedVariables false
set_option linter.unusedSimpArgs false
def yfK (T : List (List Int)) (k j : Nat) : Option E3 := if 0 < gi (gx T k) (k + j) then some ((k : Int), ((k + j : Nat) : Int), gi (gx T k) (k + j)) else none
def rowJ (d : Nat) (T : List (List Int)) (k : Nat) : List E3 := (List.range (d - k)).filterMap (yfK T k)
def ydO (d : Nat) (T : List (List Int)) : List E3 := (List.range d).flatMap (rowJ d T)
def isE (a b : Int) (e : Int × Int) : Bool := decide (mnF e.1 e.2 = a ∧ mxF e.1 e.2 = b)
def cntE (l : List (Int × Int)) (a b : Int) : Int := (l.countP (isE a b) : Int)
def rowT (d : Nat) (l : List (Int × Int)) (a : Nat) : List Int := (List.range d).map fun (b : Nat) => cntE l (a : Int) (b : Int)
def tabE (d : Nat) (l : List (Int × Int)) : List (List Int) := (List.range d).map (rowT d l)
theorem yfs (d : Nat) (l : List (Int × Int)) (a : Nat) : (rowT d l a).length = d := by simp [rowT]
theorem yfv (d : Nat) (l : List (Int × Int)) : (tabE d l).length = d := by simp [tabE]
theorem yfn {d : Nat} {l : List (Int × Int)} {a : Nat} (h : a < d) : gx (tabE d l) a = rowT d l a := by
  rw [ybx (by rw [yfv]; exact h)]; simp [tabE]
theorem yfr {d : Nat} {l : List (Int × Int)} {a b : Nat} (h : b < d) : gi (rowT d l a) b = cntE l a b := by
  rw [ybl (by rw [yfs]; exact h)]; simp [rowT]
theorem ye8 (l : List (Int × Int)) (e : Int × Int) (a b : Int) : cntE (l ++ [e]) a b = cntE l a b + if mnF e.1 e.2 = a ∧ mxF e.1 e.2 = b then 1 else 0 := by
  unfold cntE
  rw [List.countP_append]
  by_cases h : mnF e.1 e.2 = a ∧ mxF e.1 e.2 = b
  · simp [List.countP_cons, isE, h]
  · simp [List.countP_cons, isE, h]
theorem yfG (l : List (Int × Int)) (a b : Int) : 0 ≤ cntE l a b := Int.natCast_nonneg _
theorem yfJ (l : List (Int × Int)) (a b : Int) : cntE l a b ≤ l.length := Int.ofNat_le.2 List.countP_le_length
structure BagOk (d : Nat) (l : List (Int × Int)) (M : List (List Int × Int)) : Prop where
  key : KOk 2 M
  at_ : ∀ p ∈ M, ∃ a b : Nat, a ≤ b ∧ b < d ∧ p.1 = [(a : Int), (b : Int)] ∧ p.2 = cntE l a b ∧ 0 < p.2
  get : ∀ a b : Int, (mget M [a, b]).getD 0 = cntE l a b
  len : M.length ≤ l.length
theorem BagOk.nil (d : Nat) : BagOk d [] [] := ⟨KOk.nil 2, fun p h => by simp at h, fun a b => by simp [mget, cntE], Nat.le_refl _⟩
theorem keyOk2 {d a b : Nat} (hd : d ≤ 12) (h1 : a ≤ b) (h2 : b < d) : yeS 2 [(a : Int), (b : Int)] := by
  refine ⟨rfl, fun x hx => ?_⟩
  simp only [List.mem_cons, List.not_mem_nil, or_false] at hx
  rcases hx with rfl | rfl <;> exact ⟨by omega, by omega⟩
theorem BagOk.put {d : Nat} {l : List (Int × Int)} {M : List (List Int × Int)} (h : BagOk d l M) (hd : d ≤ 12) {e : Int × Int} {a b : Nat} (h1 : a ≤ b) (h2 : b < d) (ha : mnF e.1 e.2 = a) (hb : mxF e.1 e.2 = b) : BagOk d (l ++ [e]) (mput M [(a : Int), (b : Int)] (cntE l a b + 1)) := by
  have hk := h.key.put (keyOk2 hd h1 h2) (cntE l a b + 1)
  refine ⟨hk, fun p hp => ?_, fun x y => ?_, by have := h.len; rw [mput_length, List.length_append, List.length_singleton]; split <;> omega⟩
  · obtain ⟨j, hj⟩ := List.getElem?_of_mem hp
    have hg := mget_at hk.1 (k := p.1) (v := p.2) hj
    rw [ydG] at hg
    by_cases q : [(a : Int), (b : Int)] = p.1
    · rw [if_pos q] at hg
      refine ⟨a, b, h1, h2, q.symm, ?_, ?_⟩
      · rw [ye8, if_pos ⟨ha, hb⟩]; exact (Option.some.inj hg).symm
      · rw [← Option.some.inj hg]; have := yfG l a b; omega
    · rw [if_neg q] at hg
      obtain ⟨x, y, h3, h4, h5, h6, h7⟩ := h.at_ _ (mget_mem hg)
      refine ⟨x, y, h3, h4, h5, ?_, h7⟩
      rw [ye8, if_neg, Int.add_zero]
      · exact h6
      · rintro ⟨q1, q2⟩
        rw [ha] at q1; rw [hb] at q2
        have h5 : p.1 = [(x : Int), (y : Int)] := h5
        exact q (by rw [h5, q1, q2])
  · rw [ydG, ye8, ha, hb, ← h.get x y]
    by_cases q : (a : Int) = x ∧ (b : Int) = y
    · rw [if_pos (by rw [q.1, q.2]), if_pos q, h.get x y, ← q.1, ← q.2]; rfl
    · rw [if_neg (fun z => q (by simpa using z)), if_neg q, Int.add_zero]
def eM (p : List Int × Int) : E3 := (gi p.1 0, gi p.1 1, p.2)
theorem yhy : ∀ {l K : List Nat}, l.Nodup → (∀ x ∈ l, x ∈ K) → l.length ≤ K.length
  | [], K, _, _ => Nat.zero_le _
  | a :: t, K, hn, hs => by
    rw [List.nodup_cons] at hn
    have ha : a ∈ K := hs a (by simp)
    have h2 := yhy (l := t) (K := K.erase a) hn.2 fun x hx => (List.mem_erase_of_ne (by rintro rfl; exact hn.1 hx)).2 (hs x (by simp [hx]))
    rw [List.length_erase_of_mem ha] at h2
    have : 0 < K.length := List.length_pos_of_mem ha
    rw [List.length_cons]; omega
theorem seen_lt {n j : Nat} {seen : List Nat} (hn : seen.Nodup) (hs : ∀ x ∈ seen, x < n) (hj : j < n) (hnj : j ∉ seen) : seen.length < n := by
  have := yhy (l := j :: seen) (K := List.range n) (List.nodup_cons.2 ⟨hnj, hn⟩) fun x hx => by
    rcases List.mem_cons.1 hx with rfl | hx
    · exact List.mem_range.2 hj
    · exact List.mem_range.2 (hs x hx)
  simp at this; omega
theorem ygN {d : Nat} {l : List (Int × Int)} {x : E3} : x ∈ ydO d (tabE d l) ↔ ∃ a b : Nat, a ≤ b ∧ b < d ∧ 0 < cntE l a b ∧ x = ((a : Int), (b : Int), cntE l a b) := by
  unfold ydO
  simp only [List.mem_flatMap, List.mem_range, rowJ, List.mem_filterMap]
  constructor
  · rintro ⟨a, ha, j, hj, hx⟩
    unfold yfK at hx
    rw [yfn ha, yfr (by omega)] at hx
    split at hx
    · rename_i hp
      exact ⟨a, a + j, by omega, by omega, hp, (Option.some.inj hx).symm⟩
    · cases hx
  · rintro ⟨a, b, h1, h2, h3, rfl⟩
    refine ⟨a, by omega, b - a, by omega, ?_⟩
    unfold yfK
    rw [yfn (by omega), yfr (by omega), show a + (b - a) = b by omega, if_pos h3]
def ltE (x y : E3) : Prop := x.1 < y.1 ∨ x.1 = y.1 ∧ x.2.1 < y.2.1
theorem yes {d : Nat} {T : List (List Int)} : (ydO d T).Pairwise ltE := by
  unfold ydO
  rw [List.pairwise_flatMap]
  refine ⟨fun a _ => ?_, ?_⟩
  · unfold rowJ
    refine List.Pairwise.filterMap (R := fun a b => a < b) (S := ltE) (yfK T a) ?_ List.pairwise_lt_range
    intro x y hxy u hu v hv
    unfold yfK at hu hv
    split at hu
    · split at hv
      · cases hu; cases hv
        refine .inr ⟨rfl, ?_⟩
        show ((a + x : Nat) : Int) < ((a + y : Nat) : Int)
        omega
      · cases hv
    · cases hu
  · refine List.pairwise_lt_range.imp ?_
    intro a b hab u hu v hv
    simp only [rowJ, List.mem_filterMap] at hu hv
    obtain ⟨x, _, hu⟩ := hu
    obtain ⟨y, _, hv⟩ := hv
    unfold yfK at hu hv
    split at hu
    · split at hv
      · cases hu; cases hv
        refine .inl ?_
        show (a : Int) < (b : Int)
        omega
      · cases hv
    · cases hu
theorem BagOk.mem {d : Nat} {l : List (Int × Int)} {M : List (List Int × Int)} (h : BagOk d l M) (x : E3) : x ∈ M.map eM ↔ x ∈ ydO d (tabE d l) := by
  rw [ygN, List.mem_map]
  constructor
  · rintro ⟨p, hp, rfl⟩
    obtain ⟨a, b, h1, h2, h3, h4, h5⟩ := h.at_ p hp
    exact ⟨a, b, h1, h2, by rw [← h4]; exact h5, by unfold eM; rw [h3, h4]; rfl⟩
  · rintro ⟨a, b, h1, h2, h3, rfl⟩
    have hg := h.get a b
    cases hq : mget M [(a : Int), (b : Int)] with
    | none => rw [hq] at hg; simp at hg; omega
    | some v =>
      rw [hq] at hg
      have hg : v = cntE l a b := hg
      exact ⟨_, mget_mem hq, by unfold eM; rw [hg]; rfl⟩
theorem BagOk.nodup {d : Nat} {l : List (Int × Int)} {M : List (List Int × Int)} (h : BagOk d l M) : (M.map eM).Nodup := by
  unfold List.Nodup
  rw [List.pairwise_map]
  refine h.key.1.imp_of_mem ?_
  intro p q hp hq hne he
  obtain ⟨a, b, _, _, h3, _, _⟩ := h.at_ p hp
  obtain ⟨a', b', _, _, h3', _, _⟩ := h.at_ q hq
  apply hne
  unfold eM at he
  rw [h3, h3'] at he ⊢
  have e1 : (a : Int) = a' := congrArg Prod.fst he
  have e2 : (b : Int) = b' := congrArg (fun z : E3 => z.2.1) he
  rw [e1, e2]
theorem sorted_unique {d : Nat} {T : List (List Int)} {zs : List E3} (hp : zs.Perm (ydO d T)) (hs : zs.Pairwise (fun a b => ¬ yc6 b.1 b.2.1 a.1 a.2.1 < 0)) : zs = ydO d T := by
  have hsd := yes (d := d) (T := T)
  have hJ : (ydO d T).Pairwise (fun a b : E3 => ¬ yc6 b.1 b.2.1 a.1 a.2.1 < 0) := hsd.imp fun {a b} h => by
    rw [ycF]
    unfold ltE at h
    omega
  refine List.Perm.eq_of_pairwise (le := fun a b : E3 => ¬ yc6 b.1 b.2.1 a.1 a.2.1 < 0) (fun a b ha hb h1 h2 => ?_) hs hJ hp
  rw [ycF] at h1 h2
  have ha := hp.subset ha
  have e : a.1 = b.1 ∧ a.2.1 = b.2.1 := by omega
  rcases Classical.em (a = b) with q | q
  · exact q
  · exfalso
    have key : ∀ x y : E3, x ∈ ydO d T → y ∈ ydO d T → x ≠ y → x.1 = y.1 ∧ x.2.1 = y.2.1 → False := by
      intro x y hx hy hne he
      have p1 : (ydO d T).Pairwise (fun x y : E3 => x ≠ y → ¬ (x.1 = y.1 ∧ x.2.1 = y.2.1)) := hsd.imp fun {a b} h _ he => by unfold ltE at h; omega
      have p2 : (ydO d T).Pairwise (flip fun x y : E3 => x ≠ y → ¬ (x.1 = y.1 ∧ x.2.1 = y.2.1)) := hsd.imp fun {a b} h => by
        show b ≠ a → ¬ (b.1 = a.1 ∧ b.2.1 = a.2.1)
        intro _ he; unfold ltE at h; omega
      have := List.Pairwise.forall_of_forall_of_flip (R := fun x y : E3 => x ≠ y → ¬ (x.1 = y.1 ∧ x.2.1 = y.2.1)) (fun z _ h => absurd rfl h) p1 p2
      exact this hx hy hne he
    exact key a b ha hb q e
theorem p_bag_graph {d : Nat} {l : List (Int × Int)} {M : List (List Int × Int)} (h : BagOk d l M) (hn : l.length ≤ 4096) {R : Int → List E3 → Prop} (hR : R d (ydO d (tabE d l))) : ybT M d R := by
  have hML := h.len
  refine ⟨fun m g seen => seen.Nodup ∧ (∀ j ∈ seen, j < M.length) ∧ g = seen.map (fun j => eM (M.getD j default)) ∧ m + seen.length = M.length, ⟨M.length, List.nodup_nil, by simp, rfl, by simp⟩, ?_⟩
  rintro m g seen ⟨h1, h2, rfl, h3⟩
  refine ⟨h.key, fun j ka kb kv hj hns => ?_, fun hall => ?_⟩
  · have hjl : j < M.length := (List.getElem?_eq_some_iff.1 hj).1
    have hlt := seen_lt h1 h2 hjl hns
    refine ⟨by rw [List.length_map]; omega, m - 1, by omega, ?_, ?_, ?_, ?_⟩
    · rw [List.nodup_append]
      exact ⟨h1, by simp, fun a ha b hb => by rw [List.mem_singleton] at hb; subst hb; exact fun q => hns (q ▸ ha)⟩
    · intro x hx
      rcases List.mem_append.1 hx with hx | hx
      · exact h2 x hx
      · rw [List.mem_singleton] at hx; subst hx; exact hjl
    · rw [List.map_append]
      simp [List.getD_eq_getElem?_getD, hj, eM, gi]
    · rw [List.length_append, List.length_singleton]; omega
  · have hp : seen.Perm (List.range M.length) := (List.perm_ext_iff_of_nodup h1 List.nodup_range).2 fun a => ⟨fun q => List.mem_range.2 (h2 a q), fun q => hall a (List.mem_range.1 q)⟩
    have he : (List.range M.length).map (fun j => eM (M.getD j default)) = M.map eM := by
      apply List.ext_getElem?
      intro k
      by_cases hk : k < M.length
      · simp [hk, List.getD_eq_getElem?_getD]
      · simp [hk]
    have hp2 : (seen.map fun j => eM (M.getD j default)).Perm (ydO d (tabE d l)) := by
      refine (hp.map _).trans ?_
      rw [he]
      exact (List.perm_ext_iff_of_nodup h.nodup (yes.imp fun {a b} q => by rintro rfl; unfold ltE at q; omega)).2 h.mem
    refine ⟨by rw [List.length_map]; have := seen.length; omega, fun zs hz hs => ?_⟩
    rw [sorted_unique (hz.trans hp2) hs]
    exact hR
theorem p_graph_Make {d : Nat} (h1 : 1 ≤ d) (hd : d ≤ 12) {l : List (Int × Int)} (hl : ∀ e ∈ l, (0 ≤ e.1 ∧ e.1 < d) ∧ 0 ≤ e.2 ∧ e.2 < d) (hn : l.length ≤ 4096) (hm : ∀ a b, cntE l a b ≤ 50) {R : Int → List E3 → Int → Prop} (h : R d (ydO d (tabE d l)) 0) : ybB d l R := by
  refine ⟨True, fun _ => ⟨fun q => by omega, fun _ => ?_⟩, fun q => by omega, fun _ => ⟨fun q => by omega, fun _ => trivial⟩⟩
  refine ⟨fun m v M => ∃ k : Nat, v = k ∧ k + m = l.length ∧ BagOk d (l.take k) M, ⟨l.length, 0, rfl, by omega, BagOk.nil d⟩, ?_⟩
  rintro m v M ⟨k, rfl, hk, hM⟩
  refine ⟨fun hlt => ?_, fun hge => ?_⟩
  · have hkl : k < l.length := by omega
    rw [Int.toNat_natCast]
    have hx := hl (gx l k) (by rw [ybx hkl]; exact List.getElem_mem hkl)
    have htk : l.take (k + 1) = l.take k ++ [gx l k] := by rw [List.take_add_one, List.getElem?_eq_getElem hkl, ybx hkl]; rfl
    generalize gx l k = e at hx htk ⊢
    obtain ⟨a, ha⟩ : ∃ a : Nat, mnF e.1 e.2 = a := ⟨(mnF e.1 e.2).toNat, by unfold mnF; split <;> omega⟩
    obtain ⟨b, hb⟩ : ∃ b : Nat, mxF e.1 e.2 = b := ⟨(mxF e.1 e.2).toNat, by unfold mxF; split <;> omega⟩
    have hab : a ≤ b := by unfold mnF at ha; unfold mxF at hb; split at ha <;> split at hb <;> omega
    have hbd : b < d := by unfold mxF at hb; split at hb <;> omega
    have hg : (mget M [(a : Int), (b : Int)]).getD 0 = cntE (l.take k) a b := hM.get a b
    have hput := hM.put hd hab hbd ha hb
    have hc1 := yfG (l.take k) a b
    have hc2 := yfJ (l.take k) a b
    have hc3 : (l.take k).length ≤ 4096 := by rw [List.length_take]; omega
    have hK := keyOk2 hd hab hbd
    have hin : In64 (cntE (l.take k) a b + 1) := ⟨by omega, by omega⟩
    refine ⟨by omega, True, fun _ => ?_, by decide, ?_⟩
    · refine ⟨fun M' => M' = mput M [(a : Int), (b : Int)] (cntE (l.take k) a b + 1), fun M' hM' => ?_, by decide, by decide, ?_⟩
      · subst hM'
        exact ⟨⟨by omega, by omega⟩, m - 1, by omega, k + 1, by omega, by omega, by rw [htk]; exact hput⟩
      · unfold ybU
        rw [ha, hb]
        refine ⟨⟨hM.key, hK, by rw [hg]; exact hin, by rw [hg]⟩, hM.key, hK, hM.key.put hK _, ?_, ?_⟩
        · rw [ydG, if_pos rfl, Option.getD_some, hg]; exact hin
        · show _ = _
          rw [ydG, if_pos rfl, Option.getD_some, hg]
    · unfold ya4
      obtain ⟨⟨x1, x2⟩, x3, x4⟩ := hx
      exact ⟨fun _ => ⟨fun _ => ⟨by decide, fun _ => ⟨fun _ => trivial, fun q => absurd (decide_eq_true x4) q⟩, fun q => absurd x3 q⟩, fun q => absurd (decide_eq_true x2) q⟩, fun q => absurd x1 q⟩
  · have hk2 : l.take k = l := List.take_of_length_le (by omega)
    rw [hk2] at hM
    refine ⟨fun m seen => seen.Nodup ∧ (∀ j ∈ seen, j < M.length) ∧ m + seen.length = M.length, ⟨M.length, List.nodup_nil, by simp, by simp⟩, ?_⟩
    rintro m seen ⟨q1, q2, q3⟩
    refine ⟨hM.key, fun j ka kb kv hj hns => ?_, fun _ => p_bag_graph hM hn h⟩
    have hjl : j < M.length := (List.getElem?_eq_some_iff.1 hj).1
    have hlt := seen_lt q1 q2 hjl hns
    have h50 : kv ≤ 50 := by
      obtain ⟨a, b, _, _, _, h6, _⟩ := hM.at_ _ (List.mem_of_getElem? hj)
      have h6 : kv = cntE l a b := h6
      rw [h6]; exact hm a b
    refine ⟨fun q => by omega, fun _ => ⟨m - 1, by omega, ?_, ?_, ?_⟩⟩
    · rw [List.nodup_append]
      exact ⟨q1, by simp, fun a ha b hb => by rw [List.mem_singleton] at hb; subst hb; exact fun q => hns (q ▸ ha)⟩
    · intro x hx
      rcases List.mem_append.1 hx with hx | hx
      · exact q2 x hx
      · rw [List.mem_singleton] at hx; subst hx; exact hjl
    · rw [List.length_append, List.length_singleton]; omega
end Go.Proofs.Ytinoedockljfeaa

/- The facts of a graph that is made of ends: in normal form, its size, its genus, its degrees. -/
namespace Go.Proofs.Ytinoedockljfeaa
open Go Go.RowKit Go.Shelf Go.Proofs.Try
set_option linter.unusedVariables false
set_option linter.unusedSimpArgs false
def sF : List E3 → List E3
  | [] => []
  | x :: t => List.replicate x.2.2.toNat (x.1, x.2.1, 1) ++ sF t
theorem yeU : ∀ (a b : List E3), sF (a ++ b) = sF a ++ sF b
  | [], b => rfl
  | x :: t, b => by rw [List.cons_append, sF, sF, yeU t b, List.append_assoc]
theorem sF_take {es : List E3} {k : Nat} (hk : k < es.length) : sF (es.take (k + 1)) = sF (es.take k) ++ List.replicate (ge es k).2.2.toNat ((ge es k).1, (ge es k).2.1, 1) := by
  rw [List.take_add_one, List.getElem?_eq_getElem hk, ← ydH hk, yeU]
  simp [sF]
theorem sF_pre {es : List E3} {k : Nat} (hk : k < es.length) {j : Nat} (hj : j ≤ (ge es k).2.2.toNat) : sF (es.take k) ++ List.replicate j ((ge es k).1, (ge es k).2.1, 1) <+: sF es := by
  have h1 : es = es.take (k + 1) ++ es.drop (k + 1) := (List.take_append_drop _ _).symm
  have h2 : sF es = sF (es.take k) ++ List.replicate (ge es k).2.2.toNat ((ge es k).1, (ge es k).2.1, 1) ++ sF (es.drop (k + 1)) := by
    conv => lhs; rw [h1]
    rw [yeU, sF_take hk]
  obtain ⟨i, hi⟩ : ∃ i, (ge es k).2.2.toNat = j + i := ⟨(ge es k).2.2.toNat - j, by omega⟩
  rw [h2, hi, ← List.replicate_append_replicate]
  exact ⟨List.replicate i ((ge es k).1, (ge es k).2.1, 1) ++ sF (es.drop (k + 1)), by simp only [List.append_assoc]⟩
theorem sF_few {n : Nat} : ∀ {es : List E3}, EOk n es → (sF es).length ≤ 50 * es.length
  | [], _ => Nat.le_refl _
  | x :: t, h => by
    have hx := h x (by simp)
    have := sF_few (es := t) fun z hz => h z (by simp [hz])
    rw [sF, List.length_append, List.length_replicate, List.length_cons]
    omega
def gmap (y : Int × Int × Int) : E3 := (y.2.1, y.2.2, 1)
theorem yem {n : Nat} {es : List E3} (hE : EOk n es) (hl : es.length ≤ 1000) : ybC (n : Int) es (fun l => l.map gmap <+: sF es) (fun l => l.map gmap = sF es) := by
  unfold ybC
  refine ⟨fun m pre e2 v => Cnt es.length (fun k => pre.map gmap = sF (es.take k) ∧ 0 ≤ e2 ∧ e2 ≤ 50 * k) m v, Cnt.start ⟨rfl, by omega, by omega⟩, ?_⟩
  rintro m pre e2 _ ⟨k, rfl, rfl, hk, hpre, he0, he1⟩
  simp only [Int.toNat_natCast]
  refine ⟨fun hlt => ⟨by omega, ?_⟩, fun hge => ?_⟩
  · have hkl : k < es.length := by omega
    have hx := hE _ (List.mem_of_getElem? (ycW hkl))
    refine ⟨fun m pre e3 v => Cnt (ge es k).2.2.toNat (fun j => pre.map gmap = sF (es.take k) ++ List.replicate j ((ge es k).1, (ge es k).2.1, 1) ∧ 0 ≤ e3 ∧ e3 ≤ 50 * k + j) m v, Cnt.start ⟨by simpa using hpre, he0, by omega⟩, ?_⟩
    rintro m3 pre3 e3 _ ⟨j, rfl, rfl, hj, hp3, h30, h31⟩
    have hstep : ∀ e : Int, (pre3 ++ [(e, (ge es k).1, (ge es k).2.1)]).map gmap = sF (es.take k) ++ List.replicate (j + 1) ((ge es k).1, (ge es k).2.1, 1) := fun e => by
      rw [List.map_append, hp3, List.replicate_succ', List.append_assoc]; rfl
    refine ⟨fun h1 => ⟨?_, ⟨i64 (by omega), Cnt.next (by omega) (by omega) ⟨hstep e3, by omega, by omega⟩⟩, trivial⟩, fun h1 => Cnt.next (by omega) (by omega) ⟨?_, by omega, by omega⟩⟩
    · show (pre3 ++ [(e3, (ge es k).1, (ge es k).2.1)]).map gmap <+: sF es
      rw [hstep]; exact sF_pre hkl (by omega)
    · have e : j = (ge es k).2.2.toNat := by omega
      rw [sF_take hkl, hp3, e]
  · have e : k = es.length := by omega
    rw [e, List.take_length] at hpre
    exact hpre
def yc4 (d : Nat) (l : List (Int × Int)) : Prop := ∀ e ∈ l, (0 ≤ e.1 ∧ e.1 < d) ∧ 0 ≤ e.2 ∧ e.2 < d
def made (d : Nat) (l : List (Int × Int)) : List E3 := ydO d (tabE d l)
theorem gchk_zero {n : Int} : ∀ (es : List E3) (a b : Int), (∀ x ∈ es, (0 ≤ x.1 ∧ x.1 < n) ∧ (0 ≤ x.2.1 ∧ x.2.1 < n) ∧ 1 ≤ x.2.2 ∧ x.2.2 ≤ 50 ∧ x.1 ≤ x.2.1) → es.Pairwise ltE → (∀ x ∈ es, yc6 a b x.1 x.2.1 < 0) → gchk n a b es = 0
  | [], _, _, _, _, _ => rfl
  | x :: t, a, b, h, hp, h0 => by
    have hx := h x (by simp)
    rw [gchk, if_pos ⟨hx.1, hx.2.1, hx.2.2.1, hx.2.2.2.1⟩, if_pos ⟨hx.2.2.2.2, h0 x (by simp)⟩]
    rw [List.pairwise_cons] at hp
    exact gchk_zero t _ _ (fun y hy => h y (by simp [hy])) hp.2 fun y hy => ycF.2 (by have := hp.1 y hy; unfold ltE at this; exact this)
theorem made_ok {d : Nat} (h1 : 1 ≤ d) (hd : d ≤ 12) {l : List (Int × Int)} (hm : ∀ a b, cntE l a b ≤ 50) : yaZ d (made d l) = 0 := by
  unfold yaZ
  rw [if_pos (by omega)]
  refine gchk_zero _ _ _ (fun x hx => ?_) yes fun x hx => ?_
  · obtain ⟨a, b, h2, h3, h4, rfl⟩ := ygN.1 hx
    have := hm a b
    simp only
    omega
  · obtain ⟨a, b, h2, h3, h4, rfl⟩ := ygN.1 hx
    exact ycF.2 (.inl (by simp only; omega))
theorem yfE (T : List (List Int)) (k : Nat) (hT : ∀ j, 0 ≤ gi (gx T k) j) : ∀ n, (((List.range n).filterMap (yfK T k)).map (·.2.2)).sum = sm n fun j => gi (gx T k) (k + j)
  | 0 => rfl
  | n + 1 => by
    rw [List.range_succ, List.filterMap_append, List.map_append, List.sum_append, yfE T k hT n, sm]
    congr 1
    have := hT (k + n)
    by_cases q : 0 < gi (gx T k) (k + n)
    · simp [yfK, q]
    · simp [yfK, q]; omega
theorem sum_joinE {d : Nat} (l : List (Int × Int)) : ((made d l).map (·.2.2)).sum = sm d fun a => sm (d - a) fun j => cntE l (a : Int) ((a + j : Nat) : Int) := by
  have key : ∀ k, k ≤ d → (((List.range k).flatMap (rowJ d (tabE d l))).map (·.2.2)).sum = sm k fun a => sm (d - a) fun j => cntE l (a : Int) ((a + j : Nat) : Int) := by
    intro k hk
    induction k with
    | zero => rfl
    | succ k ih =>
      rw [List.range_succ, List.flatMap_append, List.map_append, List.sum_append, ih (by omega), sm]
      congr 1
      simp only [List.flatMap_cons, List.flatMap_nil, List.append_nil]
      unfold rowJ
      rw [yfE _ _ (fun j => ?_)]
      · exact yaR fun j hj => by rw [yfn (by omega), yfr (by omega)]
      · rw [yfn (by omega)]
        by_cases q : j < d
        · rw [yfr q]; exact yfG _ _ _
        · unfold gi; rw [List.getD_eq_getElem?_getD, List.getElem?_eq_none (by rw [yfs]; omega)]; exact Int.le_refl 0
  exact key d (Nat.le_refl d)
theorem mn_nat {d : Nat} {e : Int × Int} (h : (0 ≤ e.1 ∧ e.1 < d) ∧ 0 ≤ e.2 ∧ e.2 < d) : ∃ a b : Nat, mnF e.1 e.2 = a ∧ mxF e.1 e.2 = b ∧ a ≤ b ∧ b < d := by
  refine ⟨(mnF e.1 e.2).toNat, (mxF e.1 e.2).toNat, ?_, ?_, ?_, ?_⟩ <;> simp only [mnF, mxF] <;> (try split) <;> (try split) <;> omega
theorem snoc_ind {α : Type} {P : List α → Prop} (h0 : P []) (h : ∀ l x, P l → P (l ++ [x])) (l : List α) : P l := by
  have : ∀ k, k ≤ l.length → P (l.take k) := by
    intro k
    induction k with
    | zero => intro _; exact h0
    | succ k ih =>
      intro hk
      rw [List.take_add_one, List.getElem?_eq_getElem (by omega)]
      exact h _ _ (ih (by omega))
  have := this l.length (Nat.le_refl _)
  rwa [List.take_length] at this
theorem sum_made {d : Nat} (l : List (Int × Int)) : yc4 d l → ((made d l).map (·.2.2)).sum = l.length := by
  rw [sum_joinE]
  refine snoc_ind (P := fun l => yc4 d l → (sm d fun a => sm (d - a) fun j => cntE l (a : Int) ((a + j : Nat) : Int)) = l.length) (fun _ => ?_) (fun l x ih hl => ?_) l
  · simp only [cntE, List.countP_nil, Int.natCast_zero, List.length_nil]
    rw [yaR (g := fun _ => 0) fun i _ => yc7 _, yc7]
  · have ih := ih fun e he => hl e (by simp [he])
    obtain ⟨a, b, ha, hb, hab, hbd⟩ := mn_nat (hl x (by simp))
    have e1 : ∀ i, (sm (d - i) fun j => cntE (l ++ [x]) (i : Int) ((i + j : Nat) : Int)) = (sm (d - i) fun j => cntE l (i : Int) ((i + j : Nat) : Int)) + if i = a then 1 else 0 := by
      intro i
      rw [← (show (sm (d - i) fun j => if a = i ∧ b = i + j then (1 : Int) else 0) = if i = a then 1 else 0 from ?_), ← ydn]
      · refine yaR fun j _ => ?_
        rw [ye8, ha, hb]
        congr 1
        by_cases q : a = i ∧ b = i + j
        · rw [if_pos q, if_pos (by omega)]
        · rw [if_neg q, if_neg (by omega)]
      · by_cases q : i = a
        · subst q
          rw [if_pos rfl]
          refine Eq.trans (yaR fun j _ => ?_) (yfO (1 : Int) (show b - i < d - i by omega))
          by_cases q2 : j = b - i
          · rw [if_pos q2, if_pos (by omega)]
          · rw [if_neg q2, if_neg (by omega)]
        · rw [if_neg q]
          exact Eq.trans (yaR fun j _ => by rw [if_neg (by omega)]) (yc7 (d - i))
    rw [yaR fun i _ => e1 i, ydn, ih, yfO (1 : Int) (show a < d by omega), List.length_append, List.length_singleton]
    omega
def Joins (l : List (Int × Int)) (v u : Nat) : Prop := ((v : Int), (u : Int)) ∈ l ∨ ((u : Int), (v : Int)) ∈ l
end Go.Proofs.Ytinoedockljfeaa

/- What the functions of layer 12 (contract) come to: ends, lists laid together, vertices that move, graphs that are made. -/
namespace Go.Proofs.Ytinoedockljfeaa
open Go Go.RowKit Go.Shelf Go.Proofs.Try
set_option linter.unusedVariables false
set_option linter.unusedSimpArgs false
theorem sF_ends : ∀ es : List E3, sF es = (yaI es).map fun e => (e.1, e.2, 1)
  | [] => rfl
  | x :: t => by
    have e : yaI (x :: t) = List.replicate x.2.2.toNat (x.1, x.2.1) ++ yaI t := by unfold yaI; rw [List.flatMap_cons]
    rw [sF, sF_ends t, e, List.map_append, List.map_replicate]
theorem yds {n : Int} {es : List E3} {R : List (Int × Int) → Int → Prop} (hl : es.length ≤ 100) (he : yaZ n es ≠ 0 → R [] (yaZ n es)) (h : yaZ n es = 0 → R (yaI es) 0) : ybI n es R := by
  unfold ybI
  refine yhc (by omega) ⟨fun q => ?_, fun q => he q⟩
  have hn : (1 : Int) ≤ n ∧ n ≤ 12 := by
    unfold yaZ at q; split at q
    · assumption
    · cases q
  obtain ⟨n, rfl⟩ : ∃ k : Nat, n = k := ⟨n.toNat, by omega⟩
  obtain ⟨hE, hn1, hn12⟩ := yfb q
  show ∃ Pr Rr : List (Int × Int × Int) → Prop, _
  refine ⟨_, _, yem hE (by omega), fun pre out => out = pre.map fun y => (y.2.1, y.2.2), rfl, ?_, ?_⟩
  · rintro pre e a b out rfl hPr
    have hPr : (pre ++ [(e, a, b)]).map gmap <+: sF es := hPr
    have h2 := hPr.length_le
    have h3 := sF_few hE
    rw [List.length_map, List.length_append] at h2
    simp only [List.length_singleton] at h2
    refine ⟨by rw [List.length_map]; omega, ?_⟩
    show _ = List.map _ _
    rw [List.map_append]; rfl
  · rintro ys out rfl hR
    have hR : ys.map gmap = sF es := hR
    have e : ys.map (fun y => (y.2.1, y.2.2)) = yaI es := by
      have h2 : (ys.map gmap).map (fun y : E3 => (y.1, y.2.1)) = (sF es).map fun y => (y.1, y.2.1) := by rw [hR]
      rw [sF_ends, List.map_map, List.map_map] at h2
      have e1 : ((fun y : E3 => (y.1, y.2.1)) ∘ gmap) = fun y : Int × Int × Int => (y.2.1, y.2.2) := rfl
      have e2 : ((fun y : E3 => (y.1, y.2.1)) ∘ fun e : Int × Int => (e.1, e.2, 1)) = id := rfl
      rw [e1, e2, List.map_id] at h2
      exact h2
    rw [e]; exact h q
structure GrOk (n : Nat) (es : List E3) (E : List (Int × Int)) : Prop where
  g : yaZ n es = 0
  e : yaI es = E
  one : 1 ≤ n
  few : n ≤ 12
  ok : yc4 n E
  len : E.length ≤ 50 * es.length
theorem yga {n : Int} {es : List E3} (q : yaZ n es = 0) : ∃ k : Nat, n = k ∧ GrOk k es (yaI es) := by
  have hn : (1 : Int) ≤ n ∧ n ≤ 12 := by
    unfold yaZ at q; split at q
    · assumption
    · cases q
  obtain ⟨n, rfl⟩ : ∃ k : Nat, n = k := ⟨n.toNat, by omega⟩
  obtain ⟨hE, hn1, hn12⟩ := yfb q
  refine ⟨n, rfl, q, rfl, hn1, hn12, fun e he => ?_, ?_⟩
  · unfold yaI at he
    obtain ⟨x, hx, hr⟩ := List.mem_flatMap.1 he
    rw [(List.mem_replicate.1 hr).2]
    have := hE x hx
    simp only; omega
  · exact (yc2 es fun x hx => by have := hE x hx; omega).2
theorem GrOk.mult {n : Nat} {es : List E3} {E : List (Int × Int)} (h : GrOk n es E) : ∀ x ∈ es, 1 ≤ x.2.2 ∧ x.2.2 ≤ 50 := fun x hx => by
  obtain ⟨hE, _, _⟩ := yfb h.g
  have := hE x hx; omega
theorem GrOk.size {n : Nat} {es : List E3} {E : List (Int × Int)} (h : GrOk n es E) : (es.map (·.2.2)).sum = (E.length : Int) := by
  rw [← h.e]; exact (yc2 es h.mult).1.symm
theorem p_ends8 {n : Nat} {es : List E3} {E : List (Int × Int)} (h : GrOk n es E) (hl : es.length ≤ 100) {R : List (Int × Int) → Prop} (hR : R E) : ybW n es R :=
  p_r08_Ends (by omega) h.mult (by rw [h.e]; exact hR)
theorem yhn {n : Nat} {es : List E3} {E : List (Int × Int)} (h : GrOk n es E) (hl : es.length ≤ 100) {R : Int → Prop} (hR : R (E.length : Int)) : ycj n es R :=
  p_r08_Size (by omega) h.mult (by rw [h.size]; exact hR)
theorem gchk_le {n : Int} : ∀ (es : List E3) (a b : Int), gchk n a b es = 0 → ∀ x ∈ es, x.1 ≤ x.2.1
  | [], _, _, _, x, hx => by simp at hx
  | y :: t, a, b, h, x, hx => by
    rw [gchk] at h
    split at h
    · split at h
      · rename_i h2
        rcases List.mem_cons.1 hx with rfl | hx
        · exact h2.1
        · exact gchk_le t _ _ h x hx
      · cases h
    · cases h
theorem GrOk.le {n : Nat} {es : List E3} {E : List (Int × Int)} (h : GrOk n es E) : ∀ e ∈ E, e.1 ≤ e.2 := fun e he => by
  rw [← h.e] at he
  unfold yaI at he
  obtain ⟨x, hx, hr⟩ := List.mem_flatMap.1 he
  rw [(List.mem_replicate.1 hr).2]
  exact gchk_le es _ _ (ydX h.g) x hx
def sglF (n : Int) (es : List E3) (e : Int) : Int := if yaZ n es ≠ 0 then yaZ n es else if e < 0 ∨ ((yaI es).length : Int) ≤ e then 2 else 0
theorem ydb {n : Int} {es : List E3} {e : Int} (h : sglF n es e = 0) : yaZ n es = 0 ∧ 0 ≤ e ∧ e < ((yaI es).length : Int) := by
  unfold sglF at h
  split at h
  · rename_i q; exact absurd h q
  · rename_i q
    split at h
    · cases h
    · exact ⟨Classical.byContradiction q, by omega, by omega⟩
theorem ybX {n : Int} {es : List E3} {e : Int} {R : List (Int × Int) → Int → Prop} (hl : es.length ≤ 100) (he : sglF n es e ≠ 0 → R [] (sglF n es e)) (h : sglF n es e = 0 → R (yaI es) 0) : ya9 n es e R := by
  refine yds hl (fun q => ⟨fun q2 => absurd q2 q, fun _ => ?_⟩) fun q => ⟨fun _ => ⟨fun q2 => ?_, fun q2 => ⟨fun q3 => ?_, fun q3 => ?_⟩⟩, fun q2 => absurd rfl q2⟩
  · have e1 : sglF n es e = yaZ n es := by unfold sglF; rw [if_pos q]
    rw [e1] at he; exact he q
  · have e1 : sglF n es e = 2 := by unfold sglF; rw [if_neg (fun z => z q), if_pos (.inl q2)]
    rw [e1] at he; exact he (by decide)
  · have e1 : sglF n es e = 2 := by unfold sglF; rw [if_neg (fun z => z q), if_pos (.inr q3)]
    rw [e1] at he; exact he (by decide)
  · exact h (by unfold sglF; rw [if_neg (fun z => z q), if_neg (by omega)])
theorem p_grow2 {n : Int} (hn : 0 ≤ n ∧ n ≤ 1000000) {R : List (Int × Int) → Prop} (h : R []) : ybd n R := by
  refine ⟨True, fun _ => ⟨⟨by decide, by decide⟩, ⟨by omega, by omega⟩, fun q => ⟨⟨by decide, by decide⟩, ⟨by omega, ?_⟩, ⟨by decide, Int.natCast_nonneg _⟩, ?_⟩, fun _ => h⟩, fun q => by omega, fun _ => trivial⟩
  · simp only [List.length_nil]; omega
  · have e : ((0 : Nat) : Int).toNat = 0 := rfl
    rw [e, List.take_zero]; exact h
theorem p_concat2 {x y : List (Int × Int)} (hx : x.length ≤ 100000) (hy : y.length ≤ 100000) {R : List (Int × Int) → Prop} (h : R (x ++ y)) : ya2 [x, y] R := by
  have g0 : gx [x, y] 0 = x := rfl
  have g1 : gx [x, y] 1 = y := rfl
  refine ⟨fun m s v => Cnt 2 (fun k => s = if k = 0 then 0 else if k = 1 then (x.length : Int) else (x.length : Int) + y.length) m v, Cnt.start rfl, ?_⟩
  rintro m s _ ⟨k, rfl, rfl, hk, hs⟩
  simp only [Int.toNat_natCast]
  refine ⟨fun hlt => ?_, fun hge => ?_⟩
  · have hk2 : k < 2 := by have : ([x, y].length : Nat) = 2 := rfl; omega
    have hb : (gx [x, y] k).length ≤ 100000 := by rcases (show k = 0 ∨ k = 1 by omega) with rfl | rfl <;> assumption
    have hsb : 0 ≤ s ∧ s ≤ 300000 := by rw [hs]; split <;> (try split) <;> omega
    refine ⟨⟨by omega, hlt⟩, ⟨by omega, by omega⟩, fun q => by omega, fun _ => Cnt.next hk2 (by omega) ?_⟩
    rcases (show k = 0 ∨ k = 1 by omega) with rfl | rfl
    · rw [hs, g0]; simp
    · rw [hs, g1]; simp
  · have hk2 : k = 2 := by have : ([x, y].length : Nat) = 2 := rfl; omega
    subst hk2
    have hs : s = (x.length : Int) + y.length := hs
    refine p_grow2 (by omega) ⟨fun m nl v => Cnt 2 (fun k => nl = if k = 0 then [] else if k = 1 then x else x ++ y) m v, Cnt.start rfl, ?_⟩
    rintro m nl _ ⟨k, rfl, rfl, hk, hs2⟩
    simp only [Int.toNat_natCast]
    refine ⟨fun hlt => ?_, fun hge => ?_⟩
    · have hk2 : k < 2 := by have : ([x, y].length : Nat) = 2 := rfl; omega
      refine ⟨⟨by omega, hlt⟩, ?_, Cnt.next hk2 (by omega) ?_⟩
      · rcases (show k = 0 ∨ k = 1 by omega) with rfl | rfl
        · rw [hs2, g0]; simp; omega
        · rw [hs2, g1]; simp; omega
      · rcases (show k = 0 ∨ k = 1 by omega) with rfl | rfl
        · rw [hs2, g0]; simp
        · rw [hs2, g1]; simp
    · have hk2 : k = 2 := by have : ([x, y].length : Nat) = 2 := rfl; omega
      subst hk2
      rw [hs2]; exact h
def mvF (a b v : Int) : Int := if a = b ∨ v < b then v else if v = b then a else v - 1
theorem ycV {v a b : Int} (hv : -1000 ≤ v ∧ v ≤ 1000) {R : Int → Prop} (h : R (mvF a b v)) : yaD v a b R := by
  unfold mvF at h
  refine ⟨fun q => ?_, fun q => ⟨fun q2 => ?_, fun q2 => ⟨fun q3 => ?_, fun q3 => ⟨⟨by omega, by omega⟩, ?_⟩⟩⟩⟩
  · rw [if_pos (.inl q)] at h; exact h
  · rw [if_pos (.inr q2)] at h; exact h
  · rw [if_neg (by omega), if_pos q3] at h; exact h
  · rw [if_neg (by omega), if_neg q3] at h; exact h
def sndF (f : Int → Int) (e : Int × Int) : Int × Int := (mnF (f e.1) (f e.2), mxF (f e.1) (f e.2))
theorem ydx {E : List (Int × Int)} {F : Int → (Int → Prop) → Prop} {f : Int → Int} (hl : E.length ≤ 100000) (hF : ∀ e ∈ E, ∀ R' : Int → Prop, (R' (f e.1) → F e.1 R') ∧ (R' (f e.2) → F e.2 R')) {R : List (Int × Int) → Prop} (h : R (E.map (sndF f))) : ybm E F R := by
  refine ⟨fun m out v => Cnt E.length (fun k => out = (E.take k).map (sndF f)) m v, Cnt.start rfl, ?_⟩
  rintro m out _ ⟨k, rfl, rfl, hk, rfl⟩
  simp only [Int.toNat_natCast]
  refine ⟨fun hlt => ?_, fun hge => ?_⟩
  · have hkl : k < E.length := by omega
    have hm : gx E k ∈ E := by rw [ybx hkl]; exact List.getElem_mem hkl
    refine ⟨⟨by omega, hlt⟩, by decide, by decide, (hF _ hm _).1 ((hF _ hm _).2 ⟨by rw [List.length_map, List.length_take]; omega, Cnt.next hkl (by omega) ?_⟩)⟩
    rw [List.take_add_one, List.getElem?_eq_getElem hkl, ybx hkl, List.map_append]
    rfl
  · have e : k = E.length := by omega
    rw [e, List.take_length]; exact h
def plcF (n : Nat) (a b : Int) : List Int := (List.range n).map fun v : Nat => mvF a b v
theorem ydE (n : Nat) (a b : Int) : (plcF n a b).length = n := by simp [plcF]
theorem gi_plcF {n k : Nat} (a b : Int) (h : k < n) : gi (plcF n a b) k = mvF a b k := by
  rw [ybl (by rw [ydE]; exact h)]; simp [plcF]
theorem plcF_snoc (n : Nat) (a b : Int) : plcF (n + 1) a b = plcF n a b ++ [mvF a b n] := by simp [plcF, List.range_succ]
theorem ydg {n : Nat} {a b : Int} (hn : n ≤ 12) {R : List Int → Prop} (h : R (plcF n a b)) : ybz n (fun x R => yaD x a b R) R := by
  refine ⟨fun m out v => Cnt n (fun k => out = plcF k a b) m v, Cnt.start rfl, ?_⟩
  rintro m out _ ⟨k, rfl, rfl, hk, rfl⟩
  refine ⟨fun hlt => ycV (by omega) ⟨by rw [ydE]; omega, Cnt.next (by omega) (by omega) (plcF_snoc k a b).symm⟩, fun hge => ?_⟩
  have e : k = n := by omega
  rw [e]; exact h
def Many (l : List (Int × Int)) : Prop := ∃ a b : Int, 50 < cntE l a b
theorem many_ends {d : Nat} {l : List (Int × Int)} (hl : yc4 d l) (h : Many l) : ∃ a b : Nat, a ≤ b ∧ b < d ∧ 50 < cntE l a b := by
  obtain ⟨a, b, h⟩ := h
  unfold cntE at h
  have h2 : 0 < l.countP (isE a b) := by omega
  obtain ⟨e, he, hp⟩ := List.countP_pos_iff.1 h2
  have hp : mnF e.1 e.2 = a ∧ mxF e.1 e.2 = b := of_decide_eq_true hp
  obtain ⟨a', b', h3, h4, h5, h6⟩ := mn_nat (hl e he)
  refine ⟨a', b', h5, h6, ?_⟩
  unfold cntE
  rw [← h3, ← h4, hp.1, hp.2]; exact h
theorem not_many {l : List (Int × Int)} (h : ¬ Many l) : ∀ a b, cntE l a b ≤ 50 := fun a b => Classical.byContradiction fun q => h ⟨a, b, by omega⟩
theorem yeg {d : Nat} (h1 : 1 ≤ d) (hd : d ≤ 12) {l : List (Int × Int)} (hl : yc4 d l) (hn : l.length ≤ 4096) {R : Int → List E3 → Int → Prop} (hm : Many l → R 0 [] 5) (h : ¬ Many l → R d (made d l) 0) : ybB d l R := by
  by_cases q : Many l
  case neg => exact p_graph_Make h1 hd hl hn (not_many q) (h q)
  have hm := hm q
  obtain ⟨a0, b0, h3, h4, h5⟩ := many_ends hl q
  refine ⟨True, fun _ => ⟨fun q => by omega, fun _ => ?_⟩, fun q => by omega, fun _ => ⟨fun q => by omega, fun _ => trivial⟩⟩
  refine ⟨fun m v M => ∃ k : Nat, v = k ∧ k + m = l.length ∧ BagOk d (l.take k) M, ⟨l.length, 0, rfl, by omega, BagOk.nil d⟩, ?_⟩
  rintro m v M ⟨k, rfl, hk, hM⟩
  refine ⟨fun hlt => ?_, fun hge => ?_⟩
  · have hkl : k < l.length := by omega
    rw [Int.toNat_natCast]
    have hx := hl (gx l k) (by rw [ybx hkl]; exact List.getElem_mem hkl)
    have htk : l.take (k + 1) = l.take k ++ [gx l k] := by rw [List.take_add_one, List.getElem?_eq_getElem hkl, ybx hkl]; rfl
    generalize gx l k = e at hx htk ⊢
    obtain ⟨a, b, ha, hb, hab, hbd⟩ := mn_nat hx
    have hg : (mget M [(a : Int), (b : Int)]).getD 0 = cntE (l.take k) a b := hM.get a b
    have hput := hM.put hd hab hbd ha hb
    have hc1 := yfG (l.take k) a b
    have hc2 := yfJ (l.take k) a b
    have hc3 : (l.take k).length ≤ 4096 := by rw [List.length_take]; omega
    have hK := keyOk2 hd hab hbd
    have hin : In64 (cntE (l.take k) a b + 1) := ⟨by omega, by omega⟩
    refine ⟨by omega, True, fun _ => ?_, by decide, ?_⟩
    · refine ⟨fun M' => M' = mput M [(a : Int), (b : Int)] (cntE (l.take k) a b + 1), fun M' hM' => ?_, by decide, by decide, ?_⟩
      · subst hM'
        exact ⟨⟨by omega, by omega⟩, m - 1, by omega, k + 1, by omega, by omega, by rw [htk]; exact hput⟩
      · unfold ybU
        rw [ha, hb]
        refine ⟨⟨hM.key, hK, by rw [hg]; exact hin, by rw [hg]⟩, hM.key, hK, hM.key.put hK _, ?_, ?_⟩
        · rw [ydG, if_pos rfl, Option.getD_some, hg]; exact hin
        · show _ = _
          rw [ydG, if_pos rfl, Option.getD_some, hg]
    · unfold ya4
      obtain ⟨⟨x1, x2⟩, x3, x4⟩ := hx
      exact ⟨fun _ => ⟨fun _ => ⟨by decide, fun _ => ⟨fun _ => trivial, fun q => absurd (decide_eq_true x4) q⟩, fun q => absurd x3 q⟩, fun q => absurd (decide_eq_true x2) q⟩, fun q => absurd x1 q⟩
  · have hk2 : l.take k = l := List.take_of_length_le (by omega)
    rw [hk2] at hM
    have hin : ∃ (j : Nat) (p : List Int × Int), M[j]? = some p ∧ p.2 = cntE l a0 b0 := by
      have hg := hM.get a0 b0
      cases hq : mget M [(a0 : Int), (b0 : Int)] with
      | none => rw [hq] at hg; simp at hg; omega
      | some v =>
        rw [hq] at hg
        have hg : v = cntE l a0 b0 := hg
        obtain ⟨j, hj⟩ := List.getElem?_of_mem (mget_mem hq)
        exact ⟨j, _, hj, hg⟩
    obtain ⟨j0, p0, hj0, hp0⟩ := hin
    refine ⟨fun m seen => seen.Nodup ∧ (∀ j ∈ seen, j < M.length) ∧ m + seen.length = M.length ∧ j0 ∉ seen, ⟨M.length, List.nodup_nil, by simp, by simp, by simp⟩, ?_⟩
    rintro m seen ⟨q1, q2, q3, q4⟩
    refine ⟨hM.key, fun j ka kb kv hj hns => ?_, fun hall => absurd (hall j0 (List.getElem?_eq_some_iff.1 hj0).1) q4⟩
    have hjl : j < M.length := (List.getElem?_eq_some_iff.1 hj).1
    have hlt := seen_lt q1 q2 hjl hns
    refine ⟨fun _ => hm, fun q9 => ⟨m - 1, by omega, ?_, ?_, ?_, ?_⟩⟩
    · rw [List.nodup_append]
      exact ⟨q1, by simp, fun a ha b hb => by rw [List.mem_singleton] at hb; subst hb; exact fun q => hns (q ▸ ha)⟩
    · intro x hx
      rcases List.mem_append.1 hx with hx | hx
      · exact q2 x hx
      · rw [List.mem_singleton] at hx; subst hx; exact hjl
    · rw [List.length_append, List.length_singleton]; omega
    · intro hx
      rcases List.mem_append.1 hx with hx | hx
      · exact q4 hx
      · rw [List.mem_singleton] at hx
        subst hx
        rw [hj0] at hj
        have e : p0 = ([ka, kb], kv) := Option.some.inj hj
        rw [e] at hp0
        have hp0 : kv = cntE l a0 b0 := hp0
        omega
end Go.Proofs.Ytinoedockljfeaa

/- What Delete, Contract, Vertices, Merge, Subdivide, Spread and Collect come to: program and reference. -/
namespace Go.Proofs.Ytinoedockljfeaa
open Go Go.RowKit Go.Shelf Go.Proofs.Try
set_option linter.unusedVariables false
set_option linter.unusedSimpArgs false
theorem cnt_ends {n : Int} : ∀ (es : List E3) (a0 b0 a b : Int), gchk n a0 b0 es = 0 → cntE (yaI es) a b ≤ 50 ∧ (¬ yc6 a0 b0 a b < 0 → cntE (yaI es) a b = 0)
  | [], a0, b0, a, b, _ => by simp [yaI, cntE]
  | x :: t, a0, b0, a, b, h => by
    rw [gchk] at h
    split at h
    case isFalse => cases h
    rename_i h1
    split at h
    case isFalse => cases h
    rename_i h2
    obtain ⟨i1, i2⟩ := cnt_ends t x.1 x.2.1 a b h
    have e : yaI (x :: t) = List.replicate x.2.2.toNat (x.1, x.2.1) ++ yaI t := by unfold yaI; rw [List.flatMap_cons]
    have em : mnF x.1 x.2.1 = x.1 := by simp only [mnF]; split <;> omega
    have ex : mxF x.1 x.2.1 = x.2.1 := by simp only [mxF]; split <;> omega
    have ec : cntE (yaI (x :: t)) a b = (if x.1 = a ∧ x.2.1 = b then (x.2.2.toNat : Int) else 0) + cntE (yaI t) a b := by
      rw [e]
      unfold cntE
      rw [List.countP_append, List.countP_replicate]
      have : isE a b (x.1, x.2.1) = decide (x.1 = a ∧ x.2.1 = b) := by unfold isE; rw [em, ex]
      rw [this]
      by_cases q : x.1 = a ∧ x.2.1 = b <;> simp [q]
    rw [ec]
    have hp := h2.2
    rw [ycF] at hp i2
    rw [ycF]
    by_cases q : x.1 = a ∧ x.2.1 = b
    · have := i2 (by omega)
      rw [if_pos q, this]
      refine ⟨by omega, fun z => by omega⟩
    · rw [if_neg q]
      refine ⟨by omega, fun z => ?_⟩
      have := i2 (by omega)
      omega
theorem GrOk.cnt {n : Nat} {es : List E3} {E : List (Int × Int)} (h : GrOk n es E) : ∀ a b, cntE E a b ≤ 50 := fun a b => by
  rw [← h.e]; exact (cnt_ends es _ _ a b (ydX h.g)).1
theorem cntE_sub {l m : List (Int × Int)} (h : l.Sublist m) (a b : Int) : cntE l a b ≤ cntE m a b := by
  unfold cntE
  exact Int.ofNat_le.2 (h.countP_le)
def othF (E : List (Int × Int)) (e : Nat) : List (Int × Int) := E.take e ++ E.drop (e + 1)
theorem ygR (E : List (Int × Int)) (e : Nat) : (othF E e).Sublist E := by
  unfold othF
  have := List.take_append_drop e E
  conv => rhs; rw [← this]
  refine List.Sublist.append_left ?_ _
  rw [← List.drop_drop]
  exact List.drop_sublist 1 _
theorem ygg {E : List (Int × Int)} {e : Nat} (h : e < E.length) : (othF E e).length = E.length - 1 := by
  unfold othF
  rw [List.length_append, List.length_take, List.length_drop]; omega
theorem yc4.oth {n : Nat} {E : List (Int × Int)} (h : yc4 n E) (e : Nat) : yc4 n (othF E e) := fun x hx => h x ((ygR E e).subset hx)
theorem oth_few {n : Nat} {es : List E3} {E : List (Int × Int)} (h : GrOk n es E) (e : Nat) : ¬ Many (othF E e) := fun ⟨a, b, q⟩ => by
  have := cntE_sub (ygR E e) a b
  have := h.cnt a b
  omega
section
variable {n : Int} {es : List E3} {e : Int}
theorem p_c_Delete (hl : es.length ≤ 40) {R : Int → List E3 → Int → Prop} (he : sglF n es e ≠ 0 → R 0 [] (sglF n es e)) (h : sglF n es e = 0 → R n (made n.toNat (othF (yaI es) e.toNat)) 0) : yfY n es e R := by
  refine ybX (by omega) (fun q => ⟨fun q2 => absurd q2 q, fun _ => he q⟩) fun q => ⟨fun _ => ?_, fun q2 => absurd rfl q2⟩
  have h := h q
  obtain ⟨q1, q2, q3⟩ := ydb q
  obtain ⟨k, rfl, G⟩ := yga q1
  obtain ⟨e, rfl⟩ : ∃ m : Nat, e = m := ⟨e.toNat, by omega⟩
  have hlen := G.len
  rw [Int.toNat_natCast, Int.toNat_natCast] at h
  have et : ((e : Int) + 1).toNat = e + 1 := by omega
  rw [Int.toNat_natCast, et]
  refine ⟨⟨by omega, by omega⟩, ⟨by omega, by omega⟩, ⟨by omega, by omega⟩, p_concat2 (by rw [List.length_take]; omega) (by rw [List.length_drop]; omega) ?_⟩
  exact yeg G.one G.few (G.ok.oth e) (by rw [ygg (by omega)]; omega) (fun z => absurd z (oth_few G e)) fun _ => h
theorem mvF_in {k : Nat} {a b v : Int} (ha : 0 ≤ a) (hab : a ≤ b) (hb : b < k) (hv : 0 ≤ v ∧ v < k) : 0 ≤ mvF a b v ∧ mvF a b v < ((if a = b then k else k - 1 : Nat) : Int) := by
  unfold mvF
  split
  · split <;> omega
  · split
    · rw [if_neg (by omega)]; omega
    · rw [if_neg (by omega)]; omega
theorem sndF_ok {k d : Nat} {f : Int → Int} {E : List (Int × Int)} (hE : yc4 k E) (hf : ∀ v : Int, 0 ≤ v ∧ v < k → 0 ≤ f v ∧ f v < d) : yc4 d (E.map (sndF f)) := fun x hx => by
  obtain ⟨y, hy, rfl⟩ := List.mem_map.1 hx
  obtain ⟨h1, h2⟩ := hE y hy
  have a1 := hf _ h1
  have a2 := hf _ h2
  simp only [sndF, mnF, mxF]
  split <;> split <;> omega
theorem gx_ok {k : Nat} {E : List (Int × Int)} (hE : yc4 k E) {m : Nat} (hm : m < E.length) : (0 ≤ (gx E m).1 ∧ (gx E m).1 < k) ∧ 0 ≤ (gx E m).2 ∧ (gx E m).2 < k := hE _ (by rw [ybx hm]; exact List.getElem_mem hm)
theorem ygQ {a b : Int} (h : a ≤ b) : mnF a b = a ∧ mxF a b = b := by simp only [mnF, mxF]; constructor <;> split <;> omega
def conD (k : Nat) (x : Int × Int) : Nat := if x.1 = x.2 then k else k - 1
def conL (E : List (Int × Int)) (m : Nat) : List (Int × Int) := (othF E m).map (sndF (mvF (gx E m).1 (gx E m).2))
theorem p_fewer {k : Nat} (hk : k ≤ 12) {x : Int × Int} (h1 : 1 ≤ k) {R : Int → Prop} (h : R (conD k x)) : ybf k x.1 x.2 R := by
  unfold conD at h
  refine ⟨fun q => ?_, fun q => ⟨⟨by omega, by omega⟩, ?_⟩⟩
  · rw [if_pos q] at h; exact h
  · rw [if_neg q] at h
    have e : ((k - 1 : Nat) : Int) = (k : Int) - 1 := by omega
    rwa [e] at h
theorem conD_in {k : Nat} {E : List (Int × Int)} {m : Nat} (hE : yc4 k E) (hle : ∀ e ∈ E, e.1 ≤ e.2) (hm : m < E.length) (hk : k ≤ 12) : 1 ≤ conD k (gx E m) ∧ conD k (gx E m) ≤ 12 ∧ yc4 (conD k (gx E m)) (conL E m) := by
  have hx := gx_ok hE hm
  have hl := hle (gx E m) (by rw [ybx hm]; exact List.getElem_mem hm)
  refine ⟨?_, ?_, sndF_ok (hE.oth m) fun v hv => ?_⟩
  · unfold conD; split <;> omega
  · unfold conD; split <;> omega
  · unfold conD
    exact mvF_in hx.1.1 hl hx.2.2 hv
theorem yh1 {E : List (Int × Int)} {m : Nat} (h : m < E.length) : (conL E m).length = E.length - 1 := by unfold conL; rw [List.length_map, ygg h]
theorem yen (hl : es.length ≤ 40) {R : Int → List E3 → Int → Prop} (he : sglF n es e ≠ 0 → R 0 [] (sglF n es e)) (hm : sglF n es e = 0 → Many (conL (yaI es) e.toNat) → R 0 [] 5)
    (h : sglF n es e = 0 → ¬ Many (conL (yaI es) e.toNat) → R (conD n.toNat (gx (yaI es) e.toNat)) (made (conD n.toNat (gx (yaI es) e.toNat)) (conL (yaI es) e.toNat)) 0) : ya0 n es e R := by
  refine ybX (by omega) (fun q => ⟨fun q2 => absurd q2 q, fun _ => he q⟩) fun q => ⟨fun _ => ?_, fun q2 => absurd rfl q2⟩
  replace h := h q
  replace hm := hm q
  clear he
  obtain ⟨q1, q2, q3⟩ := ydb q
  obtain ⟨k, rfl, G⟩ := yga q1
  obtain ⟨e, rfl⟩ : ∃ m : Nat, e = m := ⟨e.toNat, by omega⟩
  have hlen := G.len
  have hee : e < (yaI es).length := by omega
  simp only [Int.toNat_natCast] at h hm
  have et : ((e : Int) + 1).toNat = e + 1 := by omega
  rw [Int.toNat_natCast, et]
  obtain ⟨c1, c2, c3⟩ := conD_in G.ok G.le hee G.few
  have hx := gx_ok G.ok hee
  have hxl := G.le (gx (yaI es) e) (by rw [ybx hee]; exact List.getElem_mem hee)
  have key : ∀ J2 : Int → Int → List E3 → Prop, (∀ v v2 v3, R v2 v3 v → J2 v v2 v3) → ((0 ≤ (e : Int) ∧ (e : Int) ≤ (((yaI es).length : Nat) : Int)) ∧ (In64 ((e : Int) + 1) ∧ ((0 ≤ ((e : Int) + 1) ∧ ((e : Int) + 1) ≤ (((yaI es).length : Nat) : Int)) ∧ ybf k (gx (yaI es) e).1 (gx (yaI es) e).2 (fun (r3 : Int) => ya2 ([((yaI es).take e), ((yaI es).drop (e + 1))]) (fun (r4 : List (Int × Int)) => (yaB (gx (yaI es) e).1 (gx (yaI es) e).2 (fun (r5 : Int) (r6 : Int) => ybm r4 (fun x R => yaD x r5 r6 R) (fun (r7 : List (Int × Int)) => ybB r3 r7 (fun (r8 : Int) (r9 : List (Int × Int × Int)) (r10 : Int) => J2 r10 r8 r9))))))))) := by
    intro J2 hJ
    refine ⟨⟨by omega, by omega⟩, ⟨by omega, by omega⟩, ⟨by omega, by omega⟩, p_fewer G.few G.one (p_concat2 (by rw [List.length_take]; omega) (by rw [List.length_drop]; omega) ?_)⟩
    unfold yaB
    rw [(ygQ hxl).1, (ygQ hxl).2]
    refine ydx (by have := ygg hee; unfold othF at this; rw [this]; omega) (fun y hy R' => ?_) (yeg c1 c2 c3 (by rw [yh1 hee]; omega) (fun z => hJ _ _ _ (hm z)) fun z => hJ _ _ _ (h z))
    have := (G.ok.oth e) y hy
    have hk := G.few
    exact ⟨fun z => ycV (by omega) z, fun z => ycV (by omega) z⟩
  exact ⟨⟨by omega, by omega⟩, by decide, by decide, fun v v2 v3 => R v2 v3 v, fun v v2 v3 z => z, key _ fun _ _ _ z => z, key _ fun _ _ _ z => z⟩
theorem ygc (hl : es.length ≤ 40) {R : List Int → Int → Prop} (he : sglF n es e ≠ 0 → R [] (sglF n es e)) (h : sglF n es e = 0 → R (plcF n.toNat (gx (yaI es) e.toNat).1 (gx (yaI es) e.toNat).2) 0) : ybn n es e R := by
  refine ybX (by omega) (fun q => ⟨fun q2 => absurd q2 q, fun _ => he q⟩) fun q => ⟨fun _ => ?_, fun q2 => absurd rfl q2⟩
  have h := h q
  obtain ⟨q1, q2, q3⟩ := ydb q
  obtain ⟨k, rfl, G⟩ := yga q1
  obtain ⟨e, rfl⟩ : ∃ m : Nat, e = m := ⟨e.toNat, by omega⟩
  have hee : e < (yaI es).length := by omega
  simp only [Int.toNat_natCast] at h ⊢
  have hxl := G.le (gx (yaI es) e) (by rw [ybx hee]; exact List.getElem_mem hee)
  refine ⟨⟨by omega, by omega⟩, by decide, by decide, ?_⟩
  unfold yaB
  rw [(ygQ hxl).1, (ygQ hxl).2]
  exact ydg G.few h
end
def mrgF (n : Int) (es : List E3) (a b : Int) : Int := if yaZ n es ≠ 0 then yaZ n es else if (a < 0 ∨ n ≤ a) ∨ (b < 0 ∨ n ≤ b) then 2 else if a = b then 7 else 0
def mrgL (es : List E3) (a b : Int) : List (Int × Int) := (yaI es).map (sndF (mvF (mnF a b) (mxF a b)))
section
variable {n : Int} {es : List E3} {a b : Int}
theorem mrg_in {k : Nat} {E : List (Int × Int)} (G : GrOk k es E) (hne : a ≠ b) (ha : 0 ≤ a ∧ a < k) (hb : 0 ≤ b ∧ b < k) : 1 ≤ k - 1 ∧ yc4 (k - 1) (mrgL es a b) := by
  refine ⟨by omega, ?_⟩
  unfold mrgL
  rw [G.e]
  refine sndF_ok G.ok fun v hv => ?_
  have h1 : 0 ≤ mnF a b ∧ mnF a b < mxF a b ∧ mxF a b < k := by simp only [mnF, mxF]; split <;> split <;> omega
  have := mvF_in (k := k) h1.1 (by omega) h1.2.2 hv
  rwa [if_neg (by omega)] at this
theorem ygB (hl : es.length ≤ 40) {R : Int → List E3 → Int → Prop} (he : mrgF n es a b ≠ 0 → R 0 [] (mrgF n es a b)) (hm : mrgF n es a b = 0 → Many (mrgL es a b) → R 0 [] 5) (h : mrgF n es a b = 0 → ¬ Many (mrgL es a b) → R (n - 1) (made (n.toNat - 1) (mrgL es a b)) 0) : yfZ n es a b R := by
  refine yds (by omega) (fun q => ⟨fun q2 => absurd q2 q, fun _ => ?_⟩) fun q => ⟨fun _ => ?_, fun q2 => absurd rfl q2⟩
  · have e1 : mrgF n es a b = yaZ n es := by unfold mrgF; rw [if_pos q]
    rw [e1] at he; exact he q
  obtain ⟨k, rfl, G⟩ := yga q
  have hlen := G.len
  have hk1 := G.one
  have hk2 := G.few
  have g0 : gi [a, b] 0 = a := rfl
  have g1 : gi [a, b] 1 = b := rfl
  have h2 : ((a < 0 ∨ (k : Int) ≤ a) ∨ (b < 0 ∨ (k : Int) ≤ b)) → R 0 [] 2 := fun z => by
    have e1 : mrgF k es a b = 2 := by unfold mrgF; rw [if_neg (fun z => z q), if_pos z]
    rw [e1] at he; exact he (by decide)
  refine ⟨fun m v => Cnt 2 (fun j => (0 < j → 0 ≤ a ∧ a < k) ∧ (1 < j → 0 ≤ b ∧ b < k)) m v, Cnt.start ⟨fun z => by omega, fun z => by omega⟩, ?_⟩
  rintro m _ ⟨j, rfl, rfl, hj, hI1, hI2⟩
  simp only [Int.toNat_natCast]
  refine ⟨fun hlt => ?_, fun hge => ?_⟩
  · rcases (show j = 0 ∨ j = 1 by omega) with rfl | rfl
    · rw [g0]
      exact ⟨⟨by omega, by omega⟩, fun z => h2 (.inl (.inl z)), fun z => ⟨fun z2 => h2 (.inl (.inr z2)), fun z2 => Cnt.next (by omega) (by omega) ⟨fun _ => ⟨by omega, by omega⟩, fun z => by omega⟩⟩⟩
    · rw [g1]
      exact ⟨⟨by omega, by omega⟩, fun z => h2 (.inr (.inl z)), fun z => ⟨fun z2 => h2 (.inr (.inr z2)), fun z2 => Cnt.next (by omega) (by omega) ⟨fun _ => hI1 (by omega), fun _ => ⟨by omega, by omega⟩⟩⟩⟩
  · have ha := hI1 (by omega)
    have hb := hI2 (by omega)
    refine ⟨fun z => ?_, fun z => ⟨⟨by omega, by omega⟩, ?_⟩⟩
    · have e1 : mrgF k es a b = 7 := by unfold mrgF; rw [if_neg (fun z => z q), if_neg (by omega), if_pos z]
      rw [e1] at he; exact he (by decide)
    · have e1 : mrgF k es a b = 0 := by unfold mrgF; rw [if_neg (fun z => z q), if_neg (by omega), if_neg z]
      have h := h e1
      have hm := hm e1
      obtain ⟨c1, c3⟩ := mrg_in G z ha hb
      have ed : (k : Int) - 1 = ((k - 1 : Nat) : Int) := by omega
      rw [Int.toNat_natCast, ed] at h
      rw [ed]
      refine ydx (by omega) (fun y hy R' => ?_) (yeg c1 (by omega) c3 (by unfold mrgL; rw [List.length_map]; omega) hm h)
      have := G.ok y hy
      exact ⟨fun z => ycV (by omega) z, fun z => ycV (by omega) z⟩
end
end Go.Proofs.Ytinoedockljfeaa

/- What Subdivide, Spread and Collect come to: program and reference. -/
namespace Go.Proofs.Ytinoedockljfeaa
open Go Go.RowKit Go.Shelf Go.Proofs.Try
set_option linter.unusedVariables false
set_option linter.unusedSimpArgs false
def finF (n : Int) (es : List E3) (k : Int) : Int := if yaZ n es ≠ 0 then yaZ n es else if k < 1 ∨ 12 < k then 2 else if 12 < n + (k - 1) * ((yaI es).length : Int) then 5 else 0
section
variable {n : Int} {es : List E3} {k : Int}
theorem fin_mul {k : Int} (h : ¬ (k < 1 ∨ 12 < k)) {L : Nat} (hL : L ≤ 2000) : 0 ≤ (k - 1) * (L : Int) ∧ (k - 1) * (L : Int) ≤ 22000 := by
  have h1 := Int.mul_nonneg (show 0 ≤ k - 1 by omega) (show (0 : Int) ≤ L by omega)
  have h2 := Int.mul_le_mul (show k - 1 ≤ 11 by omega) (show (L : Int) ≤ 2000 by omega) (by omega) (by decide)
  omega
theorem p_c_finer (hl : es.length ≤ 40) {R : List (Int × Int) → Int → Prop} (he : finF n es k ≠ 0 → R [] (finF n es k)) (h : finF n es k = 0 → R (yaI es) 0) : ybZ n es k R := by
  refine yds (by omega) (fun q => ⟨fun q2 => absurd q2 q, fun _ => ?_⟩) fun q => ⟨fun _ => ?_, fun q2 => absurd rfl q2⟩
  · have e1 : finF n es k = yaZ n es := by unfold finF; rw [if_pos q]
    rw [e1] at he; exact he q
  obtain ⟨N, rfl, G⟩ := yga q
  have hlen := G.len
  have hn := G.few
  have h2 : (k < 1 ∨ 12 < k) → R [] 2 := fun z => by
    have e1 : finF N es k = 2 := by unfold finF; rw [if_neg (fun z => z q), if_pos z]
    rw [e1] at he; exact he (by decide)
  refine ⟨¬ (k < 1 ∨ 12 < k), fun z => ?_, fun z => h2 (.inl z), fun z => ⟨fun z2 => h2 (.inr z2), fun z2 => by omega⟩⟩
  have hb := fin_mul z (L := (yaI es).length) (by omega)
  refine ⟨⟨by omega, by omega⟩, ⟨by omega, by omega⟩, ⟨by omega, by omega⟩, fun z2 => ?_, fun z2 => ?_⟩
  · have e1 : finF N es k = 5 := by unfold finF; rw [if_neg (fun z => z q), if_neg z, if_pos z2]
    rw [e1] at he; exact he (by decide)
  · exact h (by unfold finF; rw [if_neg (fun z => z q), if_neg z, if_neg z2])
theorem yfF (hl : es.length ≤ 40) (h : finF n es k = 0) : ∃ N j : Nat, n = N ∧ k = ((j + 1 : Nat) : Int) ∧ GrOk N es (yaI es) ∧ j ≤ 11 ∧ N + j * (yaI es).length ≤ 12 := by
  unfold finF at h
  split at h
  · rename_i q; exact absurd h q
  rename_i q
  have q : yaZ n es = 0 := Classical.byContradiction q
  split at h
  · cases h
  split at h
  · cases h
  rename_i q1 q2
  obtain ⟨N, rfl, G⟩ := yga q
  obtain ⟨j, hj⟩ : ∃ j : Nat, k = ((j + 1 : Nat) : Int) := ⟨(k - 1).toNat, by omega⟩
  refine ⟨N, j, rfl, hj, G, by omega, ?_⟩
  have e : (k - 1) * ((yaI es).length : Int) = ((j * (yaI es).length : Nat) : Int) := by
    rw [show k - 1 = (j : Int) by omega]; exact (Int.natCast_mul _ _).symm
  rw [e] at q2
  omega
end
def atF (a : Int) (nx j : Nat) : Int := if j = 0 then a else ((nx + j - 1 : Nat) : Int)
def wyF (a : Int) (nx j : Nat) : List (Int × Int) := (List.range j).map fun i => (atF a nx i, ((nx + i : Nat) : Int))
theorem wyF_snoc (a : Int) (nx j : Nat) : wyF a nx (j + 1) = wyF a nx j ++ [(atF a nx j, ((nx + j : Nat) : Int))] := by simp [wyF, List.range_succ]
theorem wyF_len (a : Int) (nx j : Nat) : (wyF a nx j).length = j := by simp [wyF]
def pthF (E : List (Int × Int)) (N j i : Nat) : List (Int × Int) := wyF (gx E i).1 (N + i * j) j ++ [(atF (gx E i).1 (N + i * j) j, (gx E i).2)]
def subF (E : List (Int × Int)) (N j i : Nat) : List (Int × Int) := (List.range i).flatMap (pthF E N j)
theorem ye5 (E : List (Int × Int)) (N j i : Nat) : subF E N j (i + 1) = subF E N j i ++ pthF E N j i := by simp [subF, List.range_succ, List.flatMap_append]
theorem pthF_len (E : List (Int × Int)) (N j i : Nat) : (pthF E N j i).length = j + 1 := by simp [pthF, wyF_len]
theorem yfC (E : List (Int × Int)) (N j : Nat) : ∀ i, (subF E N j i).length = i * (j + 1)
  | 0 => by simp [subF]
  | i + 1 => by rw [ye5, List.length_append, yfC E N j i, pthF_len, Nat.add_mul]; omega
theorem atF_in {a : Int} {nx j d : Nat} (ha : 0 ≤ a ∧ a < d) (h : nx + j ≤ d) : 0 ≤ atF a nx j ∧ atF a nx j < d := by
  unfold atF; split <;> omega
theorem subF_ok {E : List (Int × Int)} {N j : Nat} (hE : yc4 N E) : yc4 (N + E.length * j) (subF E N j E.length) := fun x hx => by
  unfold subF at hx
  obtain ⟨i, hi, hx⟩ := List.mem_flatMap.1 hx
  have hi := List.mem_range.1 hi
  have hm : (i + 1) * j ≤ E.length * j := Nat.mul_le_mul_right j hi
  rw [Nat.add_mul] at hm
  have hg := gx_ok hE hi
  unfold pthF at hx
  rcases List.mem_append.1 hx with hx | hx
  · unfold wyF at hx
    obtain ⟨t, ht, rfl⟩ := List.mem_map.1 hx
    have ht := List.mem_range.1 ht
    have := atF_in (a := (gx E i).1) (nx := N + i * j) (j := t) (d := N + E.length * j) (by omega) (by omega)
    simp only; omega
  · rw [List.mem_singleton] at hx
    subst hx
    have := atF_in (a := (gx E i).1) (nx := N + i * j) (j := j) (d := N + E.length * j) (by omega) (by omega)
    simp only; omega
theorem subF_zero (E : List (Int × Int)) (N : Nat) : subF E N 0 E.length = E := by
  have key : ∀ i, i ≤ E.length → subF E N 0 i = E.take i := by
    intro i
    induction i with
    | zero => intro _; simp [subF]
    | succ i ih =>
      intro hi
      have e : pthF E N 0 i = [gx E i] := by simp [pthF, wyF, atF]
      rw [ye5, ih (by omega), e, List.take_add_one, List.getElem?_eq_getElem (show i < E.length by omega), ybx (show i < E.length by omega)]
      rfl
  rw [key _ (Nat.le_refl _), List.take_length]
theorem subF_few {es : List E3} {E : List (Int × Int)} {N j : Nat} (G : GrOk N es E) (h : N + j * E.length ≤ 12) : ¬ Many (subF E N j E.length) := fun ⟨a, b, q⟩ => by
  rcases Nat.eq_zero_or_pos j with rfl | hj
  · rw [subF_zero] at q
    have := G.cnt a b; omega
  · have h1 := yfJ (subF E N j E.length) a b
    rw [yfC, Nat.mul_add, Nat.mul_one] at h1
    have h2 : E.length ≤ j * E.length := Nat.le_mul_of_pos_left _ hj
    rw [Nat.mul_comm E.length j] at h1
    omega
section
variable {n : Int} {es : List E3} {k : Int}
theorem yfw (hl : es.length ≤ 40) {R : Int → List E3 → Int → Prop} (he : finF n es k ≠ 0 → R 0 [] (finF n es k))
    (h : finF n es k = 0 → R ((n.toNat + (yaI es).length * (k.toNat - 1) : Nat) : Int) (made (n.toNat + (yaI es).length * (k.toNat - 1)) (subF (yaI es) n.toNat (k.toNat - 1) (yaI es).length)) 0) : ybj n es k R := by
  refine p_c_finer hl (fun q => ⟨fun q2 => absurd q2 q, fun _ => he q⟩) fun q => ⟨fun _ => ?_, fun q2 => absurd rfl q2⟩
  replace h := h q
  clear he
  obtain ⟨N, j, rfl, rfl, G, hj, h12⟩ := yfF hl q
  have hlen := G.len
  have ek : ((j + 1 : Nat) : Int).toNat - 1 = j := by omega
  rw [Int.toNat_natCast, ek] at h
  generalize hEE : yaI es = E at *
  have hN1 := G.one
  have hjl : E.length * j = j * E.length := Nat.mul_comm _ _
  refine ⟨fun m out next v => Cnt E.length (fun i => out = subF E N j i ∧ next = ((N + i * j : Nat) : Int)) m v, Cnt.start ⟨rfl, by simp⟩, ?_⟩
  rintro m out next _ ⟨i, rfl, rfl, hi, rfl, rfl⟩
  simp only [Int.toNat_natCast]
  have hsl := yfC E N j i
  have him : i * (j + 1) ≤ E.length * (j + 1) := Nat.mul_le_mul_right _ hi
  have hmm : E.length * (j + 1) = E.length * j + E.length := by rw [Nat.mul_add, Nat.mul_one]
  refine ⟨fun hlt => ?_, fun hge => ?_⟩
  · have hil : i < E.length := by omega
    have hm : (i + 1) * j ≤ E.length * j := Nat.mul_le_mul_right j hil
    have hm2 : (i + 1) * j = i * j + j := by rw [Nat.add_mul, Nat.one_mul]
    have hg := gx_ok G.ok hil
    refine ⟨⟨by omega, hlt⟩, by decide, ⟨by omega, by omega⟩, fun m3 out2 next2 at2 t => Cnt j (fun t => out2 = subF E N j i ++ wyF (gx E i).1 (N + i * j) t ∧ next2 = ((N + i * j + t : Nat) : Int) ∧ at2 = atF (gx E i).1 (N + i * j) t) m3 t, Cnt.start ⟨by simp [wyF], by simp, by simp [atF]⟩, ?_⟩
    rintro m3 out2 next2 at2 _ ⟨t, rfl, rfl, ht, rfl, rfl, rfl⟩
    have hwl := wyF_len (gx E i).1 (N + i * j) t
    refine ⟨fun hlt2 => ⟨by rw [List.length_append]; omega, ⟨by omega, by omega⟩, Cnt.next (by omega) (by omega) ⟨?_, by omega, ?_⟩⟩, fun hge2 => ⟨by decide, by rw [List.length_append]; omega, Cnt.next hil (by omega) ⟨?_, ?_⟩⟩⟩
    · rw [wyF_snoc, List.append_assoc]
    · simp [atF]
    · have : t = j := by omega
      subst this
      rw [ye5, pthF, List.append_assoc]
    · have : t = j := by omega
      subst this
      omega
  · have e : i = E.length := by omega
    subst e
    have hok := subF_ok (j := j) G.ok
    exact yeg (by omega) (by omega) hok (by omega) (fun z => absurd z (subF_few G h12)) fun _ => h
end
def chpF (n : Int) (d : List Int) : Int := if (d.length : Int) ≠ n then 8 else if ∃ x ∈ d, x < -1048576 ∨ 1048576 < x then 2 else 0
theorem yfL {n : Int} {es : List E3} {d : List Int} (hl : d.length ≤ 1000000) {R : Int → Prop} (h : R (chpF n d)) : ybF n es d R := by
  refine ⟨fun q => ?_, fun q => ?_⟩
  · refine ycA (p := fun x => decide (x < -1048576 ∨ 1048576 < x)) (by omega) (fun x R' hR => ⟨fun z => ?_, fun z => ?_⟩) ?_
    · rw [decide_eq_true (.inl z)] at hR; exact hR
    · rw [show decide (x < -1048576 ∨ 1048576 < x) = decide (1048576 < x) from by
        by_cases z2 : 1048576 < x
        · rw [decide_eq_true z2, decide_eq_true (.inr z2)]
        · rw [decide_eq_false z2, decide_eq_false (by omega)]] at hR
      exact hR
    · refine ⟨fun z => ?_, fun z => ?_⟩
      · have e1 : chpF n d = 2 := by
          unfold chpF
          rw [if_neg (fun z => z q), if_pos]
          obtain ⟨x, hx, hp⟩ := List.any_eq_true.1 z
          exact ⟨x, hx, of_decide_eq_true hp⟩
        rw [e1] at h; exact h
      · have e1 : chpF n d = 0 := by
          unfold chpF
          rw [if_neg (fun z => z q), if_neg]
          rintro ⟨x, hx, hp⟩
          exact z (List.any_eq_true.2 ⟨x, hx, decide_eq_true hp⟩)
        rw [e1] at h; exact h
  · have e1 : chpF n d = 8 := by unfold chpF; rw [if_pos q]
    rw [e1] at h; exact h
theorem chp_zero {n : Int} {d : List Int} (h : chpF n d = 0) : (d.length : Int) = n ∧ ∀ k, k < d.length → -1048576 ≤ gi d k ∧ gi d k ≤ 1048576 := by
  unfold chpF at h
  split at h
  · cases h
  · rename_i q
    split at h
    · cases h
    · rename_i q2
      refine ⟨Classical.byContradiction q, fun k hk => ?_⟩
      have : ¬ (gi d k < -1048576 ∨ 1048576 < gi d k) := fun z => q2 ⟨_, gi_mem hk, z⟩
      omega
section
variable {n : Int} {es : List E3} {k : Int} {d : List Int}
end
def colF (m : Nat) (f : Int → Int) (d : List Int) : Nat → List Int
  | 0 => List.replicate m 0
  | k + 1 => (colF m f d k).set (f k).toNat (gi (colF m f d k) (f k).toNat + gi d k)
theorem yd0 (m : Nat) (f : Int → Int) (d : List Int) : ∀ k, (colF m f d k).length = m
  | 0 => by simp [colF]
  | k + 1 => by rw [colF, List.length_set, yd0 m f d k]
theorem colF_bound {m : Nat} {f : Int → Int} {d : List Int} (hd : ∀ k, k < d.length → -1048576 ≤ gi d k ∧ gi d k ≤ 1048576) : ∀ k, k ≤ d.length → ∀ i, i < m → -1048576 * (k : Int) ≤ gi (colF m f d k) i ∧ gi (colF m f d k) i ≤ 1048576 * (k : Int)
  | 0, _, i, hi => by
    have : gi (colF m f d 0) i = 0 := by rw [colF, ybl (by simpa using hi)]; simp
    omega
  | k + 1, hk, i, hi => by
    have ih := colF_bound (m := m) (f := f) hd k (by omega)
    have h1 := hd k (by omega)
    have h0 := ih i hi
    rw [colF]
    by_cases q : (f k).toNat < m
    · rw [ydQ (by rw [yd0]; exact q)]
      have h2 := ih _ q
      split <;> omega
    · rw [List.set_eq_of_length_le (by rw [yd0]; omega)]
      omega
section
variable {n : Int} {es : List E3} {e : Int} {d : List Int}
def cltF (n : Int) (es : List E3) (e : Int) (d : List Int) : List Int := colF (conD n.toNat (gx (yaI es) e.toNat)) (mvF (gx (yaI es) e.toNat).1 (gx (yaI es) e.toNat).2) d n.toNat
theorem col_loop {N m : Nat} {f : Int → Int} {P : List Int} {R : List Int → Prop} (hN : N ≤ 12) (hP : P.length = N) (hPf : ∀ k, k < N → gi P k = f k) (hf : ∀ v : Int, 0 ≤ v ∧ v < N → 0 ≤ f v ∧ f v < m) (hdl : d.length = N) (hd : ∀ k, k < d.length → -1048576 ≤ gi d k ∧ gi d k ≤ 1048576) (h : R (colF m f d N)) {t : Int} (ht : t = N) :
    (∃ I2 : Nat → Int → (List Int) → Prop, (∃ m0, I2 m0 0 (List.replicate m (0 : Int))) ∧ ∀ (m2 : Nat) (v : Int) (v2 : List Int), I2 m2 v v2 → 
    ((v < t →
    ((0 ≤ v ∧ v < ((P.length : Nat) : Int)) ∧
    ((0 ≤ (gi P v.toNat) ∧ (gi P v.toNat) < ((v2.length : Nat) : Int)) ∧
    ((0 ≤ v ∧ v < ((d.length : Nat) : Int)) ∧
    (In64 ((gi v2 (gi P v.toNat).toNat) + (gi d v.toNat)) ∧
    (In64 (v + 1) ∧
    ∃ m3, m3 < m2 ∧ I2 m3 (v + 1) (v2.set (gi P v.toNat).toNat ((gi v2 (gi P v.toNat).toNat) + (gi d v.toNat))))))))) ∧
    (¬ (v < t) →
    R v2))) := by
  subst ht
  refine ⟨fun q v out => Cnt N (fun k => out = colF m f d k) q v, Cnt.start rfl, ?_⟩
  rintro q _ out ⟨k, rfl, rfl, hk, rfl⟩
  simp only [Int.toNat_natCast]
  refine ⟨fun hlt => ?_, fun hge => ?_⟩
  · have hkN : k < N := by omega
    rw [hPf k hkN, yd0]
    have h1 := hf k (by omega)
    have h2 := hd k (by omega)
    have h3 := colF_bound (m := m) (f := f) hd k (by omega) (f k).toNat (by omega)
    refine ⟨⟨by omega, by omega⟩, h1, ⟨by omega, by omega⟩, ⟨by omega, by omega⟩, Cnt.next hkN (by omega) rfl⟩
  · have : k = N := by omega
    subst this; exact h
theorem yfT (hl : es.length ≤ 40) (hdl : d.length ≤ 40) {R : List Int → Int → Prop} (he : sglF n es e ≠ 0 → R [] (sglF n es e)) (hc : sglF n es e = 0 → chpF n d ≠ 0 → R [] (chpF n d))
    (h : sglF n es e = 0 → chpF n d = 0 → (chpF ((cltF n es e d).length : Int) (cltF n es e d) = 0 → R (cltF n es e d) 0) ∧ (chpF ((cltF n es e d).length : Int) (cltF n es e d) ≠ 0 → R [] 11)) : ybt n es e d R := by
  refine ybX (by omega) (fun q => ⟨fun q2 => absurd q2 q, fun _ => he q⟩) fun q => ⟨fun _ => yfL (by omega) ⟨fun q2 => ?_, fun q2 => hc q q2⟩, fun q2 => absurd rfl q2⟩
  replace h := h q q2
  clear he hc
  obtain ⟨q1, q4, q3⟩ := ydb q
  obtain ⟨k, rfl, G⟩ := yga q1
  obtain ⟨e, rfl⟩ : ∃ m : Nat, e = m := ⟨e.toNat, by omega⟩
  have hee : e < (yaI es).length := by omega
  obtain ⟨d1, d2⟩ := chp_zero q2
  have hxl := G.le (gx (yaI es) e) (by rw [ybx hee]; exact List.getElem_mem hee)
  have hx := gx_ok G.ok hee
  obtain ⟨c1, c2, c3⟩ := conD_in G.ok G.le hee G.few
  unfold cltF at h
  simp only [Int.toNat_natCast] at h ⊢
  refine ⟨⟨by omega, by omega⟩, by decide, by decide, p_fewer G.few G.one ⟨⟨by omega, by omega⟩, ?_⟩⟩
  unfold yaB
  rw [(ygQ hxl).1, (ygQ hxl).2, Int.toNat_natCast]
  refine ydg G.few (col_loop G.few (ydE k _ _) (fun j hj => gi_plcF _ _ hj) (fun v hv => ?_) (by omega) d2 ?_ (by rw [ydE]))
  · unfold conD; exact mvF_in hx.1.1 hxl hx.2.2 hv
  · exact yfL (by rw [yd0]; omega) h
end
end Go.Proofs.Ytinoedockljfeaa

/- What Singles comes to: a stable sort of few numbers; program and reference. -/
namespace Go.Proofs.Ytinoedockljfeaa
open Go Go.RowKit Go.Shelf Go.Proofs.Try
set_option linter.unusedVariables false
set_option linter.unusedSimpArgs false
theorem swap_list (P S : List Int) (x y : Int) : ((P ++ y :: x :: S).set (P.length + 1) y).set P.length x = P ++ x :: y :: S := by
  rw [List.set_append_right _ _ (by omega), show P.length + 1 - P.length = 1 by omega, List.set_append_right _ _ (Nat.le_refl _), Nat.sub_self]
  rfl
theorem gi_app (P : List Int) (x : Int) (S : List Int) : gi (P ++ x :: S) P.length = x := by
  rw [ybl (by simp)]; simp
theorem gi_app1 (P : List Int) (x y : Int) (S : List Int) : gi (P ++ y :: x :: S) (P.length + 1) = x := by
  rw [ybl (by simp)]; simp [List.getElem_append]
theorem p_insertion {data : List Int} {F : Int → Int → (Int → Prop) → Prop} {c : Int → Int → Int} {lt : Int → Int → Prop} (hl : data.length ≤ 1000) (hF : ∀ x ∈ data, ∀ y ∈ data, ∀ R' : Int → Prop, R' (c x y) → F x y R')
    (h1 : ∀ x ∈ data, ∀ y ∈ data, c x y < 0 → lt x y) (h2 : data.Pairwise fun x y => ¬ c y x < 0 → lt x y) (ht : ∀ x y z, lt x y → lt y z → lt x z) {R : List Int → Prop} (h : ∀ y : List Int, y.Perm data → y.Pairwise lt → R y) {b : Int} (hb : b = data.length) : yaG data 0 b F R := by
  subst hb
  refine ⟨⟨by decide, by decide⟩, ?_⟩
  by_cases h0 : data = []
  · subst h0
    refine ⟨fun m i d => i = 1 ∧ d = [], ⟨0, rfl, rfl⟩, ?_⟩
    rintro m i d ⟨rfl, rfl⟩
    exact ⟨fun q => by simp at q, fun _ => h [] (List.Perm.refl _) List.Pairwise.nil⟩
  have hpos : 0 < data.length := List.length_pos_iff.2 h0
  refine ⟨fun m i d2 => ∃ (k : Nat) (A : List Int), i = k ∧ 1 ≤ k ∧ k + m = data.length ∧ d2 = A ++ data.drop k ∧ A.Perm (data.take k) ∧ A.Pairwise lt, ⟨data.length - 1, 1, data.take 1, rfl, by omega, by omega, (List.take_append_drop 1 data).symm, List.Perm.refl _, ?_⟩, ?_⟩
  · cases data with
    | nil => exact absurd rfl h0
    | cons x t => simp
  rintro m i d2 ⟨k, A, rfl, hk1, hkm, rfl, hA, hAs⟩
  have hAl : A.length = k := by rw [hA.length_eq, List.length_take]; omega
  refine ⟨fun hlt => ?_, fun hge => ?_⟩
  · have hkl : k < data.length := by omega
    obtain ⟨x, hx⟩ : ∃ x, data.drop k = x :: data.drop (k + 1) := ⟨_, List.drop_eq_getElem_cons hkl⟩
    have hxm : x ∈ data := List.mem_of_mem_drop (by rw [hx]; simp)
    have hAm : ∀ y ∈ A, y ∈ data := fun y hy => List.mem_of_mem_take (hA.subset hy)
    have hbefore : ∀ y ∈ A, ¬ c x y < 0 → lt y x := fun y hy => by
      have h3 := h2
      rw [← List.take_append_drop k data, hx, List.pairwise_append] at h3
      exact h3.2.2 y (hA.subset hy) x (by simp)
    refine ⟨fun m3 j d3 => ∃ (p : Nat) (P S : List Int), j = p ∧ m3 = p ∧ P.length = p ∧ A = P ++ S ∧ d3 = P ++ x :: (S ++ data.drop (k + 1)) ∧ ∀ y ∈ S, lt x y, ⟨k, k, A, [], rfl, rfl, hAl, by simp, by rw [hx]; simp, by simp⟩, ?_⟩
    rintro m3 j d3 ⟨p, P, S, rfl, hmp, hP, hPS, rfl, hS⟩
    have hPl : P.length + S.length = k := by rw [← hAl, hPS, List.length_append]
    have hdone : (∀ y ∈ P, lt y x) → In64 ((k : Int) + 1) ∧ ∃ m5, m5 < m ∧ ∃ (k2 : Nat) (A : List Int), ((k : Int) + 1) = k2 ∧ 1 ≤ k2 ∧ k2 + m5 = data.length ∧ P ++ x :: (S ++ data.drop (k + 1)) = A ++ data.drop k2 ∧ A.Perm (data.take k2) ∧ A.Pairwise lt := by
      intro hPx
      refine ⟨⟨by omega, by omega⟩, m - 1, by omega, k + 1, P ++ x :: S, by omega, by omega, by omega, by simp, ?_, ?_⟩
      · have e1 : data.take (k + 1) = data.take k ++ [x] := by
          rw [List.take_add_one, List.getElem?_eq_getElem hkl]
          have : data[k] = x := by rw [List.drop_eq_getElem_cons hkl] at hx; exact (List.cons.inj hx).1
          rw [this]; rfl
        rw [e1]
        refine List.Perm.trans List.perm_middle ?_
        rw [← hPS]
        exact (List.perm_append_singleton x A).symm.trans (hA.append_right [x])
      · rw [hPS, List.pairwise_append] at hAs
        rw [List.pairwise_append, List.pairwise_cons]
        exact ⟨hAs.1, ⟨hS, hAs.2.1⟩, fun y hy z hz => by
          rcases List.mem_cons.1 hz with rfl | hz
          · exact hPx y hy
          · exact hAs.2.2 y hy z hz⟩
    refine ⟨0 < p ∧ ∃ P' y, P = P' ++ [y] ∧ c x y < 0, fun ⟨hp, P', y, hPy, hc⟩ => ?_, fun hp => ?_, fun hp => ?_⟩
    · subst hPy
      have hP' : P'.length = p - 1 := by rw [List.length_append, List.length_singleton] at hP; omega
      have e1 : ((p : Int) - 1).toNat = P'.length := by omega
      have e2 : ((p : Int)).toNat = P'.length + 1 := by omega
      have e3 : (P' ++ [y]) ++ x :: (S ++ data.drop (k + 1)) = P' ++ y :: x :: (S ++ data.drop (k + 1)) := by simp
      have hlen : (P' ++ y :: x :: (S ++ data.drop (k + 1))).length = P'.length + 2 + S.length + (data.length - (k + 1)) := by simp; omega
      rw [e3, e1, e2, gi_app, gi_app1, List.length_set, hlen, swap_list]
      refine ⟨⟨by omega, by omega⟩, ⟨by omega, by omega⟩, ⟨by omega, by omega⟩, ⟨by omega, by omega⟩, p - 1, by omega, p - 1, P', y :: S, by omega, rfl, hP', by rw [hPS]; simp, by simp, fun z hz => ?_⟩
      rcases List.mem_cons.1 hz with rfl | hz
      · exact h1 _ hxm _ (hAm _ (by rw [hPS]; simp)) hc
      · exact hS z hz
    · obtain ⟨P', y, hPy⟩ : ∃ P' y, P = P' ++ [y] := by
        have hne : P ≠ [] := by rintro rfl; simp at hP; omega
        exact ⟨P.dropLast, P.getLast hne, (List.dropLast_concat_getLast hne).symm⟩
      subst hPy
      have hP' : P'.length = p - 1 := by rw [List.length_append, List.length_singleton] at hP; omega
      have e1 : ((p : Int) - 1).toNat = P'.length := by omega
      have e2 : ((p : Int)).toNat = P'.length + 1 := by omega
      have e3 : (P' ++ [y]) ++ x :: (S ++ data.drop (k + 1)) = P' ++ y :: x :: (S ++ data.drop (k + 1)) := by simp
      have hlen : (P' ++ y :: x :: (S ++ data.drop (k + 1))).length = P'.length + 2 + S.length + (data.length - (k + 1)) := by simp; omega
      have hym : y ∈ data := hAm _ (by rw [hPS]; simp)
      rw [e3] at hdone ⊢
      rw [e1, e2, gi_app, gi_app1, hlen]
      refine ⟨⟨by omega, by omega⟩, ⟨by omega, by omega⟩, ⟨by omega, by omega⟩, hF x hxm y hym _ ⟨fun q => ⟨by omega, P', y, rfl, q⟩, fun q => hdone fun z hz => ?_⟩⟩
      have hyx := hbefore y (by rw [hPS]; simp) q
      rcases List.mem_append.1 hz with hz | hz
      · rw [hPS, List.pairwise_append] at hAs
        rw [List.pairwise_append] at hAs
        exact ht _ _ _ (hAs.1.2.2 z hz y (by simp)) hyx
      · rw [List.mem_singleton] at hz; subst hz; exact hyx
    · have hp0 : p = 0 := by omega
      have hPn : P = [] := List.eq_nil_of_length_eq_zero (by omega)
      subst hPn
      exact hdone fun z hz => by simp at hz
  · have e : k = data.length := by omega
    subst e
    rw [List.drop_length, List.append_nil]
    rw [List.take_length] at hA
    exact h A hA hAs
theorem p_stable {data : List Int} {F : Int → Int → (Int → Prop) → Prop} {c : Int → Int → Int} {lt : Int → Int → Prop} (hl : data.length ≤ 19) (hF : ∀ x ∈ data, ∀ y ∈ data, ∀ R' : Int → Prop, R' (c x y) → F x y R')
    (h1 : ∀ x ∈ data, ∀ y ∈ data, c x y < 0 → lt x y) (h2 : data.Pairwise fun x y => ¬ c y x < 0 → lt x y) (ht : ∀ x y z, lt x y → lt y z → lt x z) {R : List Int → Prop} (h : ∀ y : List Int, y.Perm data → y.Pairwise lt → R y) : ya5 data F R := by
  refine ⟨fun m a b d => a = 0 ∧ b = 20 ∧ d = data, ⟨0, rfl, rfl, rfl⟩, ?_⟩
  rintro m a b d ⟨rfl, rfl, rfl⟩
  refine ⟨fun q => by omega, fun _ => p_insertion (by omega) hF h1 h2 ht (fun y hy hs => ⟨fun m b => b = 20, ⟨0, rfl⟩, ?_⟩) rfl⟩
  rintro m b rfl
  exact ⟨fun q => by omega, fun _ => h y hy hs⟩
def bfF (K : List (Int × Int)) (i j : Int) : Prop := ((gx K i.toNat).1 < (gx K j.toNat).1 ∨ (gx K i.toNat).1 = (gx K j.toNat).1 ∧ (gx K i.toNat).2 < (gx K j.toNat).2) ∨ gx K i.toNat = gx K j.toNat ∧ i < j
instance (K : List (Int × Int)) (i j : Int) : Decidable (bfF K i j) := by unfold bfF; exact inferInstance
def lesF (m e : Nat) : List Int := (List.range m).map fun i => if i = e then -1 else if i < e then (i : Int) else (i : Int) - 1
def numF (K : List (Int × Int)) (e i k : Nat) : Nat := (List.range k).countP fun j => decide (j ≠ e ∧ bfF K j i)
def shoF (K : List (Int × Int)) (m e : Nat) : List Int := (List.range m).map fun i => if i = e then -1 else (numF K e i m : Int)
theorem yeh (m e : Nat) : (lesF m e).length = m := by simp [lesF]
theorem numF_succ (K : List (Int × Int)) (e i k : Nat) : numF K e i (k + 1) = numF K e i k + if k ≠ e ∧ bfF K k i then 1 else 0 := by
  unfold numF
  rw [List.range_succ, List.countP_append]
  by_cases q : k ≠ e ∧ bfF K k i
  · rw [if_pos q]; simp [q]
  · rw [if_neg q]; simp [q]
section
variable {n : Int} {es : List E3} {e : Int}
def rstF (e k : Nat) : List Int := ((List.range k).filter fun i => decide (i ≠ e)).map fun i : Nat => (i : Int)
theorem yeN (e k : Nat) : rstF e (k + 1) = rstF e k ++ if k = e then [] else [(k : Int)] := by
  unfold rstF
  rw [List.range_succ, List.filter_append, List.map_append]
  by_cases q : k = e
  · simp [q]
  · simp [q]
theorem rstF_len (e : Nat) : ∀ k, (rstF e k).length = if k ≤ e then k else k - 1
  | 0 => by simp [rstF]
  | k + 1 => by
    rw [yeN, List.length_append, rstF_len e k]
    by_cases q : k = e
    · subst q; rw [if_pos (Nat.le_refl _), if_pos rfl, if_neg (by omega)]; simp
    · rw [if_neg q]
      split
      · rw [if_pos (by omega)]; simp
      · rw [if_neg (by omega)]; simp; omega
theorem yeJ {e k : Nat} {x : Int} : x ∈ rstF e k ↔ ∃ i : Nat, x = i ∧ i < k ∧ i ≠ e := by
  unfold rstF
  simp only [List.mem_map, List.mem_filter, List.mem_range, decide_eq_true_eq]
  constructor
  · rintro ⟨i, ⟨h1, h2⟩, rfl⟩; exact ⟨i, rfl, h1, h2⟩
  · rintro ⟨i, rfl, h1, h2⟩; exact ⟨i, ⟨h1, h2⟩, rfl⟩
theorem ye2 (e k : Nat) : (rstF e k).Pairwise (· < ·) := by
  unfold rstF
  rw [List.pairwise_map]
  exact (List.pairwise_lt_range.filter _).imp fun h => by omega
theorem ygV {K : List (Int × Int)} {x y z : Int} (h1 : bfF K x y) (h2 : bfF K y z) : bfF K x z := by
  unfold bfF at *
  rcases h1 with h1 | ⟨h1, h3⟩
  · rcases h2 with h2 | ⟨h2, h4⟩
    · exact .inl (by omega)
    · rw [← h2]; exact .inl h1
  · rcases h2 with h2 | ⟨h2, h4⟩
    · rw [h1]; exact .inl h2
    · exact .inr ⟨h1.trans h2, by omega⟩
theorem ygW {K : List (Int × Int)} {x : Int} (h : bfF K x x) : False := by
  unfold bfF at h
  rcases h with h | ⟨_, h⟩ <;> omega
theorem cnt_sorted {K : List (Int × Int)} {y : List Int} (hs : y.Pairwise (bfF K)) {j : Nat} (hj : j < y.length) : y.countP (fun x => decide (bfF K x (gi y j))) = j := by
  have e : y = y.take j ++ gi y j :: y.drop (j + 1) := by
    rw [ybl hj, ← List.drop_eq_getElem_cons hj, List.take_append_drop]
  have h2 := hs
  rw [e, List.pairwise_append, List.pairwise_cons] at h2
  generalize hx : gi y j = x at h2 e ⊢
  have h3 : y.countP (fun z => decide (bfF K z x)) = (y.take j).countP (fun z => decide (bfF K z x)) + (x :: y.drop (j + 1)).countP (fun z => decide (bfF K z x)) := by
    conv => lhs; rw [e]
    exact List.countP_append
  rw [h3]
  have a1 : (y.take j).countP (fun z => decide (bfF K z x)) = j := by
    have : (y.take j).countP (fun z => decide (bfF K z x)) = (y.take j).length := List.countP_eq_length.2 fun z hz => decide_eq_true (h2.2.2 z hz x (by simp))
    rw [this, List.length_take]; omega
  have a2 : (x :: y.drop (j + 1)).countP (fun z => decide (bfF K z x)) = 0 := by
    rw [List.countP_eq_zero]
    intro z hz hb
    have hb := of_decide_eq_true hb
    rcases List.mem_cons.1 hz with rfl | hz
    · exact ygW hb
    · exact ygW (ygV hb (h2.2.1.1 z hz))
  rw [a1, a2, Nat.add_zero]
theorem num_rst (K : List (Int × Int)) (e i k : Nat) : numF K e i k = (rstF e k).countP fun x => decide (bfF K x i) := by
  induction k with
  | zero => rfl
  | succ k ih =>
    rw [numF_succ, yeN, List.countP_append, ← ih]
    congr 1
    by_cases q : k = e
    · rw [if_pos q, if_neg (fun z => z.1 q)]; rfl
    · rw [if_neg q]
      by_cases q2 : bfF K k i
      · rw [if_pos ⟨q, q2⟩]; simp [q2]
      · rw [if_neg (fun z => q2 z.2)]; simp [q2]
theorem ydV (hl : es.length ≤ 40) (hsm : yaZ n es = 0 → (yaI es).length ≤ 20) {R : List Int → List Int → Int → Prop} (he : sglF n es e ≠ 0 → R [] [] (sglF n es e))
    (h : sglF n es e = 0 → R (lesF (yaI es).length e.toNat) (shoF ((yaI es).map (sndF (mvF (gx (yaI es) e.toNat).1 (gx (yaI es) e.toNat).2))) (yaI es).length e.toNat) 0) : ybe n es e R := by
  refine ybX (by omega) (fun q => ⟨fun q2 => absurd q2 q, fun _ => he q⟩) fun q => ⟨fun _ => ?_, fun q2 => absurd rfl q2⟩
  replace h := h q
  clear he
  obtain ⟨q1, q2, q3⟩ := ydb q
  obtain ⟨k, rfl, G⟩ := yga q1
  obtain ⟨e, rfl⟩ : ∃ m : Nat, e = m := ⟨e.toNat, by omega⟩
  replace hsm := hsm q1
  have hlen := G.len
  have hee : e < (yaI es).length := by omega
  rw [Int.toNat_natCast] at h
  generalize hEE : yaI es = E at *
  have hxl := G.le (gx E e) (by rw [ybx hee]; exact List.getElem_mem hee)
  have hx := gx_ok G.ok hee
  rw [Int.toNat_natCast]
  refine ⟨⟨by omega, by omega⟩, by decide, by decide, ?_⟩
  unfold yaB
  rw [(ygQ hxl).1, (ygQ hxl).2]
  have hk := G.few
  refine ydx (by omega) (fun y hy R' => by
    have := G.ok y hy
    exact ⟨fun z => ycV (by omega) z, fun z => ycV (by omega) z⟩) ?_
  generalize hK : E.map (sndF (mvF (gx E e).1 (gx E e).2)) = K at h ⊢
  have hKl : K.length = E.length := by rw [← hK, List.length_map]
  refine ⟨fun v v2 => v = List.replicate E.length 0 ∧ v2 = List.replicate E.length 0, ?_, ⟨⟨by omega, by omega⟩, by rw [Int.toNat_natCast]; exact ⟨rfl, rfl⟩⟩, ⟨by omega, by omega⟩, by rw [Int.toNat_natCast]; exact ⟨rfl, rfl⟩⟩
  rintro v v2 ⟨rfl, rfl⟩
  refine ⟨fun q v3 v4 v5 => Cnt E.length (fun i => v3 = rstF e i ∧ v5.length = E.length ∧ ∀ t, t < i → t ≠ e → gi v5 t = if t < e then (t : Int) else (t : Int) - 1) q v4, Cnt.start ⟨rfl, by simp, fun t ht => by omega⟩, ?_⟩
  rintro q v3 _ v5 ⟨i, rfl, rfl, hi, rfl, h5l, h5⟩
  simp only [Int.toNat_natCast]
  have hrs := yeN e i
  have hrl := rstF_len e i
  refine ⟨fun hlt => ⟨fun z => Cnt.next (by omega) (by omega) ⟨?_, h5l, fun t ht hne => h5 t (by omega) hne⟩, fun z => ⟨⟨by omega, by omega⟩, by rw [hrl]; split <;> omega, Cnt.next (by omega) (by omega) ⟨?_, by rw [List.length_set]; exact h5l, fun t ht hne => ?_⟩⟩⟩, fun hge => ?_⟩
  · rw [hrs, if_pos (by omega), List.append_nil]
  · rw [hrs, if_neg (by omega)]
  · rw [ydQ (by omega)]
    by_cases z2 : t = i
    · subst z2
      rw [if_pos rfl, hrl]
      split
      · rw [if_pos (by omega)]
      · rw [if_neg (by omega)]; omega
    · rw [if_neg z2]; exact h5 t (by omega) hne
  · have ei : i = E.length := by omega
    subst ei
    rw [if_neg (by omega)] at hrl
    refine p_stable (lt := bfF K) (c := fun x y => yc6 (gx K x.toNat).1 (gx K x.toNat).2 (gx K y.toNat).1 (gx K y.toNat).2) (by omega) (fun x hx y hy R' hR => ?_) (fun x hx y hy hc => .inl (ycF.1 hc)) ?_ (fun x y z => ygV) fun y hyp hys => ?_
    · obtain ⟨i1, rfl, i2, _⟩ := yeJ.1 hx
      obtain ⟨j1, rfl, j2, _⟩ := yeJ.1 hy
      simp only [Int.toNat_natCast] at hR
      refine ⟨⟨by omega, by omega⟩, by decide, ⟨by omega, by omega⟩, by decide, ?_⟩
      simp only [Int.toNat_natCast]
      exact ycH (ycH (p_cmp_Or2 hR))
    · refine (ye2 e E.length).imp fun {a b} hab hc => ?_
      rw [ycF] at hc
      unfold bfF
      by_cases z : (gx K a.toNat).1 < (gx K b.toNat).1 ∨ (gx K a.toNat).1 = (gx K b.toNat).1 ∧ (gx K a.toNat).2 < (gx K b.toNat).2
      · exact .inl z
      · exact .inr ⟨Prod.ext (by omega) (by omega), hab⟩
    · have hyl : y.length = E.length - 1 := by rw [hyp.length_eq, hrl]
      have hyd : y.Nodup := hyp.nodup_iff.2 ((ye2 e E.length).imp fun h => by omega)
      have hyi : ∀ j, j < y.length → ∃ t : Nat, gi y j = t ∧ t < E.length ∧ t ≠ e := fun j hj => yeJ.1 (hyp.subset (gi_mem hj))
      refine ⟨fun q v6 v7 => Cnt y.length (fun j => v7.length = E.length ∧ ∀ t, t < j → gi v7 (gi y t).toNat = (t : Int)) q v6, Cnt.start ⟨by simp, fun t ht => by omega⟩, ?_⟩
      rintro q _ v7 ⟨j, rfl, rfl, hj, h7l, h7⟩
      simp only [Int.toNat_natCast]
      refine ⟨fun hlt => ?_, fun hge => ?_⟩
      · have hjl : j < y.length := by omega
        obtain ⟨t, ht1, ht2, _⟩ := hyi j hjl
        refine ⟨⟨by omega, by omega⟩, ⟨by omega, by omega⟩, Cnt.next hjl (by omega) ⟨by rw [List.length_set]; exact h7l, fun s hs => ?_⟩⟩
        obtain ⟨u, hu1, hu2, _⟩ := hyi s (by omega)
        rw [ydQ (by omega)]
        by_cases z : s = j
        · subst z; rw [if_pos rfl]
        · have : gi y s ≠ gi y j := fun w => by
            have h9 := List.pairwise_iff_getElem.1 hys s j (by omega) hjl (by omega)
            rw [← ybl (by omega), ← ybl hjl, w] at h9
            exact ygW h9
          rw [if_neg (by omega)]; exact h7 s (by omega)
      · have ej : j = y.length := by omega
        subst ej
        refine ⟨⟨by omega, by omega⟩, ⟨by omega, by omega⟩, ?_⟩
        have e1 : v5.set e (-1) = lesF E.length e := gi_ext (by rw [List.length_set, h5l, yeh]) fun t ht => by
          rw [List.length_set] at ht
          rw [ydQ (by omega), ybl (l := lesF E.length e) (by rw [yeh]; omega)]
          simp only [lesF, List.getElem_map, List.getElem_range]
          by_cases z : t = e
          · rw [if_pos z, if_pos z]
          · rw [if_neg z, if_neg z]; exact h5 t (by omega) z
        have e2 : v7.set e (-1) = shoF K E.length e := gi_ext (by rw [List.length_set, h7l]; simp [shoF]) fun t ht => by
          rw [List.length_set] at ht
          rw [ydQ (by omega), ybl (l := shoF K E.length e) (by simp [shoF]; omega)]
          simp only [shoF, List.getElem_map, List.getElem_range]
          by_cases z : t = e
          · rw [if_pos z, if_pos z]
          · rw [if_neg z, if_neg z]
            have hty : (t : Int) ∈ y := hyp.symm.subset (yeJ.2 ⟨t, rfl, by omega, z⟩)
            obtain ⟨s, hs, hst⟩ := List.mem_iff_getElem.1 hty
            have hgs : gi y s = (t : Int) := by rw [ybl hs]; exact hst
            have h8 := h7 s hs
            rw [hgs, Int.toNat_natCast] at h8
            rw [h8, num_rst]
            have h9 := cnt_sorted hys hs
            rw [hgs, hyp.countP_eq] at h9
            rw [h9]
        rw [e1, e2]; exact h
end
end Go.Proofs.Ytinoedockljfeaa

/- The laws on contract: the program's answers are the reference's. -/
namespace Go.Proofs.Ytinoedockljfeaa
open Go Go.RowKit Go.Shelf Go.Proofs.Try
set_option linter.unusedVariables false
set_option linter.unusedSimpArgs false
theorem yh7 {l : List (Int × Int)} (h : l.length ≤ 50) : ¬ Many l := fun ⟨a, b, q⟩ => by have := yfJ l a b; omega
theorem few_of {n : Int} {es : List E3} (h : smallF n es 6 9 = true) : es.length ≤ 40 ∧ (yaZ n es = 0 → n ≤ 6 ∧ (yaI es).length ≤ 9) := by
  unfold smallF at h
  obtain ⟨h1, h2⟩ := of_decide_eq_true h
  refine ⟨h1, fun q2 => ?_⟩
  have h2 := h2 q2
  obtain ⟨k, rfl, G⟩ := yga q2
  rw [G.size] at h2
  omega
theorem p_tri {R : Int → List E3 → Prop} (h : R 3 [(0, 1, 1), (0, 2, 1), (1, 2, 1)]) : ybi R := h
theorem aw_contract {R : Int → List E3 → Int → Prop} (h : R 2 [(0, 1, 2)] 0) : ya0 3 [(0, 1, 1), (0, 2, 1), (1, 2, 1)] 0 R := by
  refine yen (by decide) (fun q => absurd (by decide) q) (fun _ q => absurd q (yh7 (by decide))) fun _ _ => ?_
  have key : ∀ x y, x = 2 → y = [(0, 1, 2)] → R x y 0 := by rintro _ _ rfl rfl; exact h
  exact key _ _ (by decide) (by decide)
theorem aw_contract2 {R : Int → List E3 → Int → Prop} (h : R 1 [(0, 0, 1)] 0) : ya0 2 [(0, 1, 2)] 0 R := by
  refine yen (by decide) (fun q => absurd (by decide) q) (fun _ q => absurd q (yh7 (by decide))) fun _ _ => ?_
  have key : ∀ x y, x = 1 → y = [(0, 0, 1)] → R x y 0 := by rintro _ _ rfl rfl; exact h
  exact key _ _ (by decide) (by decide)
theorem aw_vertices {R : List Int → Int → Prop} (h : R [0, 0, 1] 0) : ybn 3 [(0, 1, 1), (0, 2, 1), (1, 2, 1)] 0 R := by
  refine ygc (by decide) (fun q => absurd (by decide) q) fun _ => ?_
  have key : ∀ x, x = [0, 0, 1] → R x 0 := by rintro _ rfl; exact h
  exact key _ (by decide)
theorem aw_singles {R : List Int → List Int → Int → Prop} (h : ∀ l, R l [-1, 0, 1] 0) : ybe 3 [(0, 1, 1), (0, 2, 1), (1, 2, 1)] 0 R := by
  refine ydV (by decide) (fun _ => by decide) (fun q => absurd (by decide) q) fun _ => ?_
  have key : ∀ x l, x = [-1, 0, 1] → R l x 0 := by rintro _ l rfl; exact h l
  exact key _ _ (by decide)
def fineG : List E3 := [(0, 3, 1), (0, 4, 1), (1, 3, 1), (1, 5, 1), (2, 4, 1), (2, 5, 1)]
theorem aw_subdivide {R : Int → List E3 → Int → Prop} (h : R 6 fineG 0) : ybj 3 [(0, 1, 1), (0, 2, 1), (1, 2, 1)] 2 R := by
  refine yfw (by decide) (fun q => absurd (by decide) q) fun _ => ?_
  have key : ∀ x y, x = 6 → y = fineG → R x y 0 := by rintro _ _ rfl rfl; exact h
  exact key _ _ (by decide) (by decide)
theorem aw_collect {R : List Int → Int → Prop} (h : R [3, 3] 0) : ybt 3 [(0, 1, 1), (0, 2, 1), (1, 2, 1)] 0 [1, 2, 3] R := by
  refine yfT (by decide) (by decide) (fun q => absurd (by decide) q) (fun _ q => absurd (by decide) q) fun _ _ => ⟨fun _ => ?_, fun q => absurd (by decide) q⟩
  have key : ∀ x, x = [3, 3] → R x 0 := by rintro _ rfl; exact h
  exact key _ (by decide)
theorem ygA {n : Int} {a b : List E3} {R : Bool → Prop} (hl : a.length ≤ 1000000000) (e : a = b) (h : R true) : ycN n a n b R := by
  subst e
  refine ⟨True, fun _ => ⟨Cnt a.length fun _ => True, Cnt.start trivial, ?_⟩, fun _ => ⟨fun _ => trivial, fun q => absurd rfl q⟩, fun q => absurd rfl q⟩
  rintro m _ ⟨k, rfl, rfl, hk, -⟩
  exact ⟨fun hlt => ⟨⟨by omega, by omega⟩, ⟨by omega, by omega⟩, fun _ => Cnt.next (by omega) (by omega) trivial, fun q => absurd rfl q⟩, fun _ => h⟩
theorem p_sameEnds {a b : List (Int × Int)} {R : Bool → Prop} (hl : a.length ≤ 1000000000) (e : a = b) (h : R true) : yci a b R := by
  subst e
  refine ⟨fun _ => ⟨Cnt a.length fun _ => True, Cnt.start trivial, ?_⟩, fun q => absurd rfl q⟩
  rintro m _ ⟨k, rfl, rfl, hk, -⟩
  exact ⟨fun hlt => ⟨⟨by omega, by omega⟩, ⟨by omega, by omega⟩, fun _ => Cnt.next (by omega) (by omega) trivial, fun q => absurd rfl q⟩, fun _ => h⟩
theorem yeX {R : Bool → Prop} (h : R true) : ycd R := by
  refine p_tri (aw_contract (p_tri (aw_vertices (p_tri (aw_singles fun l => aw_contract2 (p_tri (aw_subdivide (p_tri (aw_collect (yds (es := fineG) (by decide) (fun q => absurd (by decide) q) fun _ => ?_))))))))))
  refine ⟨⟨by decide, by decide⟩, ⟨by decide, by decide⟩, ⟨by decide, by decide⟩, ⟨by decide, by decide⟩, ⟨by decide, by decide⟩, ⟨by decide, by decide⟩, fun _ => ?_, fun q => absurd (by decide) q⟩
  refine ygA (by decide) rfl ⟨fun _ => ycX (by decide) ?_, fun q => absurd rfl q⟩
  rw [decide_eq_true (rfl : ([0, 0, 1] : List Int) = [0, 0, 1])]
  refine ⟨fun _ => ycX (by decide) ?_, fun q => absurd rfl q⟩
  rw [decide_eq_true (rfl : ([-1, 0, 1] : List Int) = [-1, 0, 1])]
  refine ⟨fun _ => ygA (by decide) rfl ⟨fun _ => p_sameEnds (by decide) (by decide) ⟨fun _ => ydq (by decide) ?_, fun q => absurd rfl q⟩, fun q => absurd rfl q⟩, fun q => absurd rfl q⟩
  rw [decide_eq_true (rfl : ([3, 3] : List Int) = [3, 3])]
  exact h
theorem yfN : ∀ (es : List E3), (∀ x ∈ es, 1 ≤ x.2.2) → (es.length : Int) ≤ (es.map (·.2.2)).sum
  | [], _ => by simp
  | x :: t, h => by
    have := yfN t fun y hy => h y (by simp [hy])
    have := h x (by simp)
    rw [List.length_cons, List.map_cons, List.sum_cons]; omega
theorem yht {d : Nat} {l : List (Int × Int)} (hl : yc4 d l) : (made d l).length ≤ l.length := by
  have h := yfN (made d l) fun x hx => by
    obtain ⟨a, b, _, _, h4, rfl⟩ := ygN.1 hx
    simp only; omega
  rw [sum_made l hl] at h
  omega
end Go.Proofs.Ytinoedockljfeaa

/- The law on what Delete, Contract, Vertices and Merge change. -/
namespace Go.Proofs.Ytinoedockljfeaa
open Go Go.RowKit Go.Shelf Go.Proofs.Try
set_option linter.unusedVariables false
set_option linter.unusedSimpArgs false
section
variable {n : Int} {es : List E3} {e a b : Int}
end
end Go.Proofs.Ytinoedockljfeaa
