/- Texts laid together: PSr, SpD, RkR, L38, Big. -/
import Derived.Test.YthgjegpemgokoaaGreatK5
/- Pure forms of functions, made by program (pf.py), each with the proof that the code does so. -/
namespace Go.Proofs.YthgjegpemgokoaaGreat
open Go Go.RowKit Go.Shelf Go.Proofs.Tryz
set_option linter.unusedVariables false
set_option maxRecDepth 100000
set_option maxHeartbeats 1000000
def ycW (g : Int) (g2 : List E3) (d : List Int) (R : (List (List Int)) → Prop) : Prop :=
yb5 d (fun r =>
(∃ fu, ybB fu g r (fun r2 =>
(∃ I2 : Nat → (List (List Int)) → Int → Prop, (∃ m0, I2 m0 ([]) 0) ∧ ∀ m2 out i, I2 m2 out i → 
((i < ((r2.length : Nat) : Int) →
((0 ≤ i ∧ i < ((r2.length : Nat) : Int)) ∧
ydw g g2 d (gx r2 i.toNat) (fun r3 =>
((r3 = true →
(out.length + 1 ≤ 1000000000 ∧
(In64 (i + 1) ∧
∃ m3, m3 < m2 ∧ I2 m3 (out ++ [(gx r2 i.toNat)]) (i + 1)))) ∧
(¬ (r3 = true) →
(In64 (i + 1) ∧
∃ m4, m4 < m2 ∧ I2 m4 out (i + 1))))))) ∧
(¬ (i < ((r2.length : Nat) : Int)) →
R out))))))
theorem pok_r37_Whole {O : Nat → Prop} {w : World} {g g2 d Ag lg cg Ad ld cd} {R : (List (List Int)) → Prop} (h : ycW g g2 d R) (hO : ∀ k, O k → k < w.heap.size) (hA0 : (FP.sl c3 Ag lg cg g2).P O w) (hA1 : (FP.sl cI Ad ld cd d).P O w) :
    Calls Tryz.prog 82 #[(.agg #[(ii g), (.slice Ag lg cg)]), (.slice Ad ld cd)] w fun e w' => ∃ r4 Ar2 lr2 cr2, e = .returned (.slice Ar2 lr2 cr2) ∧ Sep w no O w' (rl [Res.own (cL cI) 25 Ar2 lr2 cr2 r4]) ∧ R r4 := by
  unfold ycW at h; have hS : Sep w no O w (rl [Res.ro (FP.sl c3 Ag lg cg g2), Res.ro (FP.sl cI Ad ld cd d)]) := Sep.startl hO [(FP.sl c3 Ag lg cg g2), (FP.sl cI Ad ld cd d)] ⟨hA0, hA1, trivial⟩; refine yan (l := [(.agg #[(ii g), (.slice Ag lg cg)]), (.slice Ad ld cd)]) func82 rfl ntmps82 (Nat.le_of_ble_eq_true rfl) (zs (zn (ybR (v := (.agg #[(ii g), (.slice Ag lg cg)])) rfl ?_))); intro g3 w2 hN; replace hS : Sep w no O w2 (stl _ 2 (Res.box 24 g3 [(ii g), (.slice Ag lg cg)])) := hS.new 2 rfl hN; clear hN; refine zb (zq (za (.slice none 0 0)) (yaa (yaf (ya6 [0, 1, 2, 3, 4, 5] (fun i => match i with | 3 => [0, 1] | _ => []) yaG (by kernel_rfl) (by kernel_rfl) ?_)))); replace hS := hS.drew; refine zp (yam rfl underlying24 rfl yai) (zp (zl underlying3 (Row.cell (hS.bx 2 rfl) (i := 0) rfl)) (zp (zm (.slice Ad ld cd)) (rp_n rfl rfl rfl rfl (yal rfl (am1 rfl) enter_39 ((yd9 h (yaL _) (hS.rdr 1 rfl)).mono ?_))))); rintro _ w3 ⟨r, rfl, hC, h⟩; replace hS := hS.pur hC.pure; clear hC; refine ⟨_, rfl, ?_⟩; refine ⟨⟨fun hh => Bool.noConfusion (show false = true from hh), ⟨fun _ => (zl underlying3 (Row.cell (hS.bx 2 rfl) (i := 0) rfl)), ⟨fun _ => (yam rfl underlying24 rfl yai), trivial⟩⟩⟩, ?_⟩; obtain ⟨fu, h⟩ := h; refine rp_n rfl rfl rfl rfl (yal rfl (am2 rfl rfl) enter_137 ((pok_r37_Listed h hS.blt).mono ?_)); rintro _ w4 ⟨r2, Ar, lr, cr, rfl, hC, h⟩; replace hS := hS.call1 hC 3 0 rfl; clear hC; refine ⟨_, rfl, ?_⟩; refine zb (zp (za (.slice Ar lr cr)) (ybv (zs (zq (za (.slice none 0 0)) (yaa (yaf (zs (zq (za (ii 0)) (yaa (yaj ?_)))))))))); replace hS := hS.nil 4 rfl (cL cI) 25; obtain ⟨I2, ⟨m0, h0⟩, hr⟩ := h; refine yaC (fun m E ds w' => ∃ out i Aout lout cout, I2 m out i ∧ ds = [] ∧ E 1 = (Value.slice Ad ld cd) ∧ E 2 = (Value.pointer (some (⟨g3, 0, none⟩ : Addr))) ∧ E 5 = (Value.slice Ar lr cr) ∧ E 6 = (Value.slice Aout lout cout) ∧ E 7 = (ii i) ∧ Sep w no O w' (rl [Res.own (cL cI) 25 Aout lout cout out, Res.ro (FP.sl cI Ad ld cd d), Res.box 24 g3 [(ii g), (.slice Ag lg cg)], Res.ro (FP.sl c3 Ag lg cg g2), Res.own (cL cI) 25 Ar lr cr r2])) m0 ⟨_, _, _, _, _, h0, rfl, rfl, rfl, rfl, rfl, rfl, (hS.sel [4, 1, 2, 0, 3] (by decide))⟩ ?_; clear h0 hS; rintro m2 E ds w5 ⟨out, i, Aout, lout, cout, h, rfl, hE1, hE2, hE5, hE6, hE7, hS⟩ again; replace h := hr m2 out i h; clear hr; refine yaf (zs (zq (yac hE7) (zq (yac hE5) (zq (yaR (n := r2.length) rfl underlying48 (yaP (hS.rdo 4 rfl))) (zq zL (yaa ?_)))))); by_cases hp : i < ((r2.length : Nat) : Int)
  · replace h := h.1 hp; refine zc hp (yah (yaf (yaj (yaf (ya6 [0, 1, 2, 3, 4, 5, 6] st0 yaG (by kernel_rfl) (by kernel_rfl) ?_))))); replace hS := hS.drew; refine zp (yav (vs := [(ii g), (.slice Ag lg cg)]) hE2 underlying24 rfl yas ⟨Row.cell (hS.bx 2 rfl) (i := 0) rfl, Row.cell (hS.bx 2 rfl) (i := 1) rfl, trivial⟩) (zp (yac hE1) (zp (yac hE5) (zp (yac hE7) ?_))); obtain ⟨hx, h⟩ := h; refine zp (zi underlying48 ybl (yaT (hS.rdo 4 rfl) hx)) ?_; obtain ⟨A, l, c, hc, hq⟩ := hS.elo 4 rfl hx 5 rfl; replace hS := hq; clear hq; refine zp (yau (v := (.slice A l c)) rfl underlying25 rfl hc) (rp_n rfl rfl rfl rfl (yal rfl (am3 rfl rfl rfl) enter_138 ((pok_r25_Alike h (yaL _) (hS.rdr 3 rfl) (hS.rdr 1 rfl) (hS.rdr 5 rfl)).mono ?_))); rintro _ w6 ⟨r3, rfl, hC, h⟩; replace hS := hS.pur hC.pure; clear hC; refine ⟨_, rfl, ?_⟩; refine zb (ybv ?_); by_cases hp2 : r3 = true
    · replace h := h.1 hp2; refine yat (congrArg Value.bool hp2) (zr (zq (yac hE6) (zq (yac hE5) (zq (yac hE7) (zq (zi underlying48 ybl (yaT (hS.rdo 4 rfl) hx)) ?_))))); obtain ⟨A2, l2, c2, hc2, hq⟩ := hS.elo 4 rfl hx 6 rfl; replace hS := hq; clear hq; refine zq (yau (v := (.slice A2 l2 c2)) rfl underlying25 rfl hc2) (zn (yaB (l := [(0, (.slice A2 l2 c2))]) (cells := [(.slice A2 l2 c2)]) (bp1 rfl) underlying48 ybl rfl rfl ?_)); intro g4 w7 hN; replace hS := hS.lit (n := 1) (c := (cL cI)) 7 rfl hN ([(gx r2 i.toNat)] : List (List Int)) rfl (by decide) ⟨[(.slice A2 l2 c2)], _, rfl, (ro_R (hS.ro 6 rfl)), rfl⟩; clear hN; refine zb ?_; obtain ⟨hx2, h⟩ := h; refine zn (yeZ (c := (cL cI)) rfl rfl underlying48 underlying48 ybl rfl rfl (by decide) hS 0 rfl (hS.yo 7 rfl) hx2 ?_); clear hS; intro A3 c3 w8 hS; refine zb (zq (za (.slice A3 (lout + 1) c3)) (yaa (yag (zr (zq (yac hE7) ?_))))); obtain ⟨hi, h⟩ := h; refine zq (zA hi) (zq (za (ii (i + 1))) (yaa ?_)); obtain ⟨mq, hlt, h⟩ := h; exact again mq _ _ _ ⟨_, _, _, _, _, h, rfl, hE1, hE2, hE5, rfl, rfl, (hS.sel [0, 1, 2, 3, 4] (by decide))⟩ hlt
    · replace h := h.2 hp2; refine yaA (congrArg Value.bool (Bool.eq_false_iff.2 hp2)) (yah (yag (zr (zq (yac hE7) ?_)))); obtain ⟨hi2, h⟩ := h; refine zq (zA hi2) (zq (za (ii (i + 1))) (yaa ?_)); obtain ⟨mq, hlt, h⟩ := h; exact again mq _ _ _ ⟨_, _, _, _, _, h, rfl, hE1, hE2, hE5, hE6, rfl, (hS.sel [0, 1, 2, 3, 4] (by decide))⟩ hlt
  · replace h := h.2 hp; exact zd hp (yay rfl (zs (zq (yac hE6) (zq (za (.slice Aout lout cout)) (yaa (yak rfl rfl ⟨_, _, _, _, rfl, (hS.sel [0] (by decide)), h⟩))))))
def yhD (d : List Int) (R : Bool → Prop) : Prop :=
(∃ I2 : Nat → Int → Prop, (∃ m0, I2 m0 0) ∧ ∀ m2 v, I2 m2 v → 
((v < ((d.length : Nat) : Int) →
((0 ≤ v ∧ v < ((d.length : Nat) : Int)) ∧
(((gi d v.toNat) < 0 →
R false) ∧
(¬ ((gi d v.toNat) < 0) →
(In64 (v + 1) ∧
∃ m3, m3 < m2 ∧ I2 m3 (v + 1)))))) ∧
(¬ (v < ((d.length : Nat) : Int)) →
R true)))
theorem yid {O : Nat → Prop} {w : World} {d Ad ld cd} {R : Bool → Prop} (h : yhD d R) (hO : ∀ k, O k → k < w.heap.size) (hA0 : (FP.sl cI Ad ld cd d).P O w) :
    Calls Tryz.prog 85 #[(.slice Ad ld cd)] w fun e w' => ∃ r, e = .returned (.bool (r)) ∧ Sep w no O w' (rl []) ∧ R r := by
  unfold yhD at h; have hS : Sep w no O w (rl [Res.ro (FP.sl cI Ad ld cd d)]) := Sep.startl hO [(FP.sl cI Ad ld cd d)] ⟨hA0, trivial⟩; refine yan (l := [(.slice Ad ld cd)]) func85 rfl ntmps85 (Nat.le_of_ble_eq_true rfl) (zs (zq (za (.bool (false))) (yaa (yaf (zs (zq (za (ii 0)) (yaa (yaj ?_)))))))); obtain ⟨I2, ⟨m0, h0⟩, hr⟩ := h; refine yaC (fun m E ds w' => ∃ v, I2 m v ∧ ds = [] ∧ E 0 = (Value.slice Ad ld cd) ∧ E 3 = (ii v) ∧ Sep w no O w' (rl [Res.ro (FP.sl cI Ad ld cd d)])) m0 ⟨_, h0, rfl, rfl, rfl, (hS.sel [0] (by decide))⟩ ?_; clear h0 hS; rintro m2 E ds w2 ⟨v, h, rfl, hE0, hE3, hS⟩ again; replace h := hr m2 v h; clear hr; refine yaf (zs (zq (yac hE3) (zq (yac hE0) (zq (yaR (n := d.length) rfl underlying25 (yaP (hS.rdr 0 rfl))) (zq zL (yaa ?_)))))); by_cases hp : v < ((d.length : Nat) : Int)
  · replace h := h.1 hp; refine zc hp (yah (yaf (yaj (zs (zq (yac hE0) (zq (yac hE3) ?_)))))); obtain ⟨hx, h⟩ := h; refine zq (zi underlying25 yai (yaT (hS.rdr 0 rfl) hx)) (zq (yau (v := (ii (gi d v.toNat))) rfl underlying3 rfl (rd_1 (hS.rdr 0 rfl) hx (fun q => ybb q) rfl)) ?_); refine zq zL (yaa ?_); by_cases hp2 : (gi d v.toNat) < 0
    · replace h := h.1 hp2; exact zc hp2 (zs (zq (za (.bool (false))) (yaa (yak rfl rfl ⟨_, rfl, (hS.sel [] (by decide)), h⟩))))
    · replace h := h.2 hp2; refine zd hp2 (yah (yag (zr (zq (yac hE3) ?_)))); obtain ⟨hi, h⟩ := h; refine zq (zA hi) (zq (za (ii (v + 1))) (yaa ?_)); obtain ⟨mq, hlt, h⟩ := h; exact again mq _ _ _ ⟨_, h, rfl, hE0, rfl, (hS.sel [0] (by decide))⟩ hlt
  · replace h := h.2 hp; exact zd hp (yay rfl (zs (zq (za (.bool (true))) (yaa (yak rfl rfl ⟨_, rfl, (hS.sel [] (by decide)), h⟩)))))
def yh3 (g : Int) (g2 : List E3) (d : List Int) (e2 : List Int) (R : (List Int) → Bool → Int → Prop) : Prop :=
yh5 g g2 d e2 (fun r =>
((r = 0 →
yhD e2 (fun r2 =>
((r2 = true →
ycW g g2 d (fun r3 =>
(∃ I2 : Nat → Int → Prop, (∃ m0, I2 m0 0) ∧ ∀ m2 i, I2 m2 i → 
((i < ((r3.length : Nat) : Int) →
((0 ≤ i ∧ i < ((r3.length : Nat) : Int)) ∧
ydh (gx r3 i.toNat) e2 (-1) (fun r4 =>
yhD r4 (fun r5 =>
((r5 = true →
R (gx r3 i.toNat) true 0) ∧
(¬ (r5 = true) →
(In64 (i + 1) ∧
∃ m3, m3 < m2 ∧ I2 m3 (i + 1)))))))) ∧
(¬ (i < ((r3.length : Nat) : Int)) →
R ([]) false 0))))) ∧
(¬ (r2 = true) →
R ([]) false 15)))) ∧
(¬ (r = 0) →
R ([]) false r)))
theorem pok_r37_Above {O : Nat → Prop} {w : World} {g g2 d e2 Ag lg cg Ad ld cd Ae le ce} {R : (List Int) → Bool → Int → Prop} (h : yh3 g g2 d e2 R) (hO : ∀ k, O k → k < w.heap.size) (hA0 : (FP.sl c3 Ag lg cg g2).P O w) (hA1 : (FP.sl cI Ad ld cd d).P O w) (hA2 : (FP.sl cI Ae le ce e2).P O w) :
    Calls Tryz.prog 38 #[(.agg #[(ii g), (.slice Ag lg cg)]), (.slice Ad ld cd), (.slice Ae le ce)] w fun e w' => ∃ r6 r7 r8 Ar3 lr3 cr3, e = .returned (.tuple #[(.slice Ar3 lr3 cr3), (.bool (r7)), (ii r8)]) ∧ Sep w no O w' (rl [Res.ro (FP.sl cI Ar3 lr3 cr3 r6)]) ∧ R r6 r7 r8 := by
  unfold yh3 at h; have hS : Sep w no O w (rl [Res.ro (FP.sl c3 Ag lg cg g2), Res.ro (FP.sl cI Ad ld cd d), Res.ro (FP.sl cI Ae le ce e2)]) := Sep.startl hO [(FP.sl c3 Ag lg cg g2), (FP.sl cI Ad ld cd d), (FP.sl cI Ae le ce e2)] ⟨hA0, hA1, hA2, trivial⟩; refine yan (l := [(.agg #[(ii g), (.slice Ag lg cg)]), (.slice Ad ld cd), (.slice Ae le ce)]) func38 rfl ntmps38 (Nat.le_of_ble_eq_true rfl) (zs (zn (ybR (v := (.agg #[(ii g), (.slice Ag lg cg)])) rfl ?_))); intro g3 w2 hN; replace hS : Sep w no O w2 (stl _ 3 (Res.box 24 g3 [(ii g), (.slice Ag lg cg)])) := hS.new 3 rfl hN; clear hN; refine zb (zq (za (.slice none 0 0)) (zq (za (.bool (false))) (zq (za (ii 0)) (yaa (yaf (zs (zq (yav (vs := [(ii g), (.slice Ag lg cg)]) rfl underlying24 rfl yas ⟨Row.cell (hS.bx 3 rfl) (i := 0) rfl, Row.cell (hS.bx 3 rfl) (i := 1) rfl, trivial⟩) (zq (zm (.slice Ad ld cd)) (zq (zm (.slice Ae le ce)) (zn (yal rfl (am3 rfl rfl rfl) enter_89 ((pok_r35_Both h (yaL _) (hS.rdr 0 rfl) (hS.rdr 1 rfl) (hS.rdr 2 rfl)).mono ?_)))))))))))); rintro _ w3 ⟨r, rfl, hC, h⟩; replace hS := hS.pur hC.pure; clear hC; refine ⟨_, rfl, ?_⟩; refine zb (zq (za (ii r)) (yaa (zs (zq (zm (ii r)) (zq zN (yaa ?_)))))); by_cases hp : r = 0
  · replace h := h.1 hp; refine ze hp (yah (yaf (zs (zq (zm (.slice Ae le ce)) (zn (yal rfl (am1 rfl) enter_85 ((yid h (yaL _) (hS.rdr 2 rfl)).mono ?_))))))); rintro _ w4 ⟨r2, rfl, hC, h⟩; replace hS := hS.pur hC.pure; clear hC; refine ⟨_, rfl, ?_⟩; refine zb (zq (ydG rfl) (yaa ?_)); by_cases hp2 : r2 = true
    · replace h := h.1 hp2; refine yaA (congrArg Value.bool (congrArg Bool.not hp2)) (yah (zs (zq (yav (vs := [(ii g), (.slice Ag lg cg)]) rfl underlying24 rfl yas ⟨Row.cell (hS.bx 3 rfl) (i := 0) rfl, Row.cell (hS.bx 3 rfl) (i := 1) rfl, trivial⟩) (zq (zm (.slice Ad ld cd)) (zn (yal rfl (am2 rfl rfl) enter_82 ((pok_r37_Whole h hS.blt (hS.ro 0 rfl) (hS.ro 1 rfl)).mono ?_))))))); rintro _ w5 ⟨r3, Ar, lr, cr, rfl, hC, h⟩; replace hS := hS.call1 hC 4 0 rfl; clear hC; refine ⟨_, rfl, ?_⟩; refine zb (zq (za (.slice Ar lr cr)) (yaa (yaf (zs (zq (za (ii 0)) (yaa (yaj ?_))))))); obtain ⟨I2, ⟨m0, h0⟩, hr⟩ := h; refine yaC (fun m E ds w' => ∃ i, I2 m i ∧ ds = [] ∧ E 2 = (Value.slice Ae le ce) ∧ E 10 = (Value.slice Ar lr cr) ∧ E 11 = (ii i) ∧ Sep w no O w' (rl [Res.ro (FP.sl cI Ae le ce e2), Res.own (cL cI) 25 Ar lr cr r3])) m0 ⟨_, h0, rfl, rfl, rfl, rfl, (hS.sel [2, 4] (by decide))⟩ ?_; clear h0 hS; rintro m2 E ds w6 ⟨i, h, rfl, hE2, hE10, hE11, hS⟩ again; replace h := hr m2 i h; clear hr; refine yaf (zs (zq (yac hE11) (zq (yac hE10) (zq (yaR (n := r3.length) rfl underlying48 (yaP (hS.rdo 1 rfl))) (zq zL (yaa ?_)))))); by_cases hp3 : i < ((r3.length : Nat) : Int)
      · replace h := h.1 hp3; refine zc hp3 (yah (yaf (yaj (zs (zq (yac hE10) (zq (yac hE11) ?_)))))); obtain ⟨hx, h⟩ := h; refine zq (zi underlying48 ybl (yaT (hS.rdo 1 rfl) hx)) ?_; obtain ⟨A, l, c, hc, hq⟩ := hS.elo 1 rfl hx 2 rfl; replace hS := hq; clear hq; refine zq (yau (v := (.slice A l c)) rfl underlying25 rfl hc) (zq (yac hE2) (zn (yal rfl (am3 rfl rfl rfl) enter_90 ((yic h (yaL _) (hS.rdr 2 rfl) (hS.rdr 0 rfl)).mono ?_)))); rintro _ w7 ⟨r4, Ar2, lr2, cr2, rfl, hC, h⟩; replace hS := hS.call1 (hC.widen (yft (yb3 (fI .i64) _ _ _ _ _) yfP) hS.blt) 3 0 rfl; clear hC; refine ⟨_, rfl, ?_⟩; refine zb (zn (yal rfl (am1 rfl) enter_85 ((yid h (yaL _) (hS.rdo 3 rfl)).mono ?_))); rintro _ w8 ⟨r5, rfl, hC, h⟩; replace hS := hS.pur hC.pure; clear hC; refine ⟨_, rfl, ?_⟩; refine zb (yaa ?_); by_cases hp4 : r5 = true
        · replace h := h.1 hp4; refine yat (congrArg Value.bool hp4) (zs (zq (yac hE10) (zq (yac hE11) (zq (zi underlying48 ybl (yaT (hS.rdo 1 rfl) hx)) ?_)))); obtain ⟨A2, l2, c2, hc2, hq⟩ := hS.elo 1 rfl hx 4 rfl; replace hS := hq; clear hq; exact zq (yau (v := (.slice A2 l2 c2)) rfl underlying25 rfl hc2) (zq (za (.slice A2 l2 c2)) (zq (za (.bool (true))) (zq (za (ii 0)) (yaa (yfX rfl rfl rfl rfl ⟨_, _, _, _, _, _, rfl, (hS.sel [4] (by decide)), h⟩)))))
        · replace h := h.2 hp4; refine yaA (congrArg Value.bool (Bool.eq_false_iff.2 hp4)) (yah (yag (zr (zq (yac hE11) ?_)))); obtain ⟨hi, h⟩ := h; refine zq (zA hi) (zq (za (ii (i + 1))) (yaa ?_)); obtain ⟨mq, hlt, h⟩ := h; exact again mq _ _ _ ⟨_, h, rfl, hE2, hE10, rfl, (hS.sel [0, 1] (by decide))⟩ hlt
      · replace h := h.2 hp3; refine zd hp3 (yay rfl (zs (zq (za (.slice none 0 0)) (zq (za (.bool (false))) (zq (za (ii 0)) (yaa ?_)))))); replace hS := hS.addro 2 rfl _ (yh6 cI _ _); exact yfX rfl rfl rfl rfl ⟨_, _, _, _, _, _, rfl, (hS.sel [2] (by decide)), h⟩
    · replace h := h.2 hp2; refine yat (congrArg Value.bool (congrArg Bool.not (Bool.eq_false_iff.2 hp2))) (zs (zq (za (.slice none 0 0)) (zq (za (.bool (false))) (zq (za (ii 15)) (yaa ?_))))); replace hS := hS.addro 4 rfl _ (yh6 cI _ _); exact yfX rfl rfl rfl rfl ⟨_, _, _, _, _, _, rfl, (hS.sel [4] (by decide)), h⟩
  · replace h := h.2 hp; refine zf hp (zs (zq (zm (ii r)) (zq (za (.slice none 0 0)) (zq (za (.bool (false))) (zq (za (ii r)) (yaa ?_)))))); replace hS := hS.addro 4 rfl _ (yh6 cI _ _); exact yfX rfl rfl rfl rfl ⟨_, _, _, _, _, _, rfl, (hS.sel [4] (by decide)), h⟩
def ydV (g : Int) (g2 : List E3) (d : List Int) (R : Bool → Prop) : Prop :=
(∃ J2 : Prop, (J2 → ycv g g2 d (fun r =>
((r = 0 →
ydO g g2 d (fun r2 =>
((r2 = true →
yb5 d (fun r3 =>
R (decide (r3 ≤ 5)))) ∧
(¬ (r2 = true) →
R false)))) ∧
(¬ (r = 0) →
R true)))) ∧
ydq g g2 (fun r4 =>
((r4 = true →
((100 < ((d.length : Nat) : Int) →
R false) ∧
(¬ (100 < ((d.length : Nat) : Int)) →
J2))) ∧
(¬ (r4 = true) →
R false))))
theorem pok_r37_Few {O : Nat → Prop} {w : World} {g g2 d Ag lg cg Ad ld cd} {R : Bool → Prop} (h : ydV g g2 d R) (hO : ∀ k, O k → k < w.heap.size) (hA0 : (FP.sl c3 Ag lg cg g2).P O w) (hA1 : (FP.sl cI Ad ld cd d).P O w) :
    Calls Tryz.prog 14 #[(.agg #[(ii g), (.slice Ag lg cg)]), (.slice Ad ld cd)] w fun e w' => ∃ r5, e = .returned (.bool (r5)) ∧ Sep w no O w' (rl []) ∧ R r5 := by
  unfold ydV at h; have hS : Sep w no O w (rl [Res.ro (FP.sl c3 Ag lg cg g2), Res.ro (FP.sl cI Ad ld cd d)]) := Sep.startl hO [(FP.sl c3 Ag lg cg g2), (FP.sl cI Ad ld cd d)] ⟨hA0, hA1, trivial⟩; refine yan (l := [(.agg #[(ii g), (.slice Ag lg cg)]), (.slice Ad ld cd)]) func14 rfl ntmps14 (Nat.le_of_ble_eq_true rfl) (zs (zn (ybR (v := (.agg #[(ii g), (.slice Ag lg cg)])) rfl ?_))); intro g3 w2 hN; replace hS : Sep w no O w2 (stl _ 2 (Res.box 24 g3 [(ii g), (.slice Ag lg cg)])) := hS.new 2 rfl hN; clear hN; refine zb (zq (za (.bool (false))) (yaa (yaf (yaf ?_)))); obtain ⟨J2, hJ, h⟩ := h; refine ydB (fun E ds w' => J2 ∧ ds = [] ∧ E 1 = (Value.slice Ad ld cd) ∧ E 2 = (Value.pointer (some (⟨g3, 0, none⟩ : Addr))) ∧ Sep w no O w' (rl [Res.ro (FP.sl cI Ad ld cd d), Res.box 24 g3 [(ii g), (.slice Ag lg cg)], Res.ro (FP.sl c3 Ag lg cg g2)])) ?_ ?_
  · clear h hS; rintro E ds w3 ⟨h, rfl, hE1, hE2, hS⟩; replace h := hJ h; refine zs (zq (yav (vs := [(ii g), (.slice Ag lg cg)]) hE2 underlying24 rfl yas ⟨Row.cell (hS.bx 1 rfl) (i := 0) rfl, Row.cell (hS.bx 1 rfl) (i := 1) rfl, trivial⟩) (zq (yac hE1) (zn (yal rfl (am2 rfl rfl) enter_66 ((yfu h (yaL _) (hS.rdr 2 rfl) (hS.rdr 0 rfl)).mono ?_))))); rintro _ w4 ⟨r, rfl, hC, h⟩; replace hS := hS.pur hC.pure; clear hC; refine ⟨_, rfl, ?_⟩; refine zb (zq zN (zq (zm (.bool (!(decide (r = 0))))) ?_)); by_cases hp : r = 0
    · replace h := h.1 hp; refine rl_q (yae rfl (yad rfl (congrArg Value.bool (congrArg Bool.not (decide_eq_true hp))))) rfl rfl (yav (vs := [(ii g), (.slice Ag lg cg)]) hE2 underlying24 rfl yas ⟨Row.cell (hS.bx 1 rfl) (i := 0) rfl, Row.cell (hS.bx 1 rfl) (i := 1) rfl, trivial⟩) (rl_q (yae rfl (yad rfl (congrArg Value.bool (congrArg Bool.not (decide_eq_true hp))))) rfl rfl (yac hE1) (rl_n (yae rfl (yad rfl (congrArg Value.bool (congrArg Bool.not (decide_eq_true hp))))) rfl rfl rfl (yal rfl (am2 rfl rfl) enter_34 ((yi8 h (yaL _) (hS.rdr 2 rfl) (hS.rdr 0 rfl)).mono ?_)))); rintro _ w5 ⟨r2, rfl, hC, h⟩; replace hS := hS.pur hC.pure; clear hC; refine ⟨_, rfl, ?_⟩; refine zb (rl_q (yae rfl (yad rfl (congrArg Value.bool (congrArg Bool.not (decide_eq_true hp))))) rfl rfl (zm (.bool (r2))) ?_); by_cases hp2 : r2 = true
      · replace h := h.1 hp2; refine rl_q (yae rfl (yad rfl (congrArg Value.bool hp2))) rfl rfl (yac hE1) (rl_n (yae rfl (yad rfl (congrArg Value.bool hp2))) rfl rfl rfl (yal rfl (am1 rfl) enter_39 ((yd9 h (yaL _) (hS.rdr 0 rfl)).mono ?_))); rintro _ w6 ⟨r3, rfl, hC, h⟩; replace hS := hS.pur hC.pure; clear hC; refine ⟨_, rfl, ?_⟩; exact zb (rl_q (yae rfl (yad rfl (congrArg Value.bool hp2))) rfl rfl (v_leq rfl rfl) (rl_q (yae rfl (yad rfl (congrArg Value.bool (congrArg Bool.not (decide_eq_true hp))))) rfl rfl (yaq (v := (.bool (decide (r3 ≤ 5)))) (congrArg Value.bool hp2) rfl) (zq (yap (v := (.bool (decide (r3 ≤ 5)))) (congrArg Value.bool (congrArg Bool.not (decide_eq_true hp))) rfl) (zq (za (.bool (decide (r3 ≤ 5)))) (yaa (yak rfl rfl ⟨_, rfl, (hS.sel [] (by decide)), h⟩))))))
      · replace h := h.2 hp2; exact rl_p (yab rfl (yad rfl (congrArg Value.bool (Bool.eq_false_iff.2 hp2))) rfl) rfl (rl_p (yab rfl (yad rfl (congrArg Value.bool (Bool.eq_false_iff.2 hp2))) rfl) rfl (rl_p (yab rfl (yad rfl (congrArg Value.bool (Bool.eq_false_iff.2 hp2))) rfl) rfl (rl_q (yae rfl (yad rfl (congrArg Value.bool (congrArg Bool.not (decide_eq_true hp))))) rfl rfl (yap (v := (.bool (false))) (congrArg Value.bool (Bool.eq_false_iff.2 hp2)) rfl) (zq (yap (v := (.bool (false))) (congrArg Value.bool (congrArg Bool.not (decide_eq_true hp))) rfl) (zq (za (.bool (false))) (yaa (yak rfl rfl ⟨_, rfl, (hS.sel [] (by decide)), h⟩)))))))
    · replace h := h.2 hp; exact rl_p (yab rfl (yad rfl (congrArg Value.bool (congrArg Bool.not (decide_eq_false hp)))) rfl) rfl (rl_p (yab rfl (yad rfl (congrArg Value.bool (congrArg Bool.not (decide_eq_false hp)))) rfl) rfl (rl_p (yab rfl (yad rfl (congrArg Value.bool (congrArg Bool.not (decide_eq_false hp)))) rfl) rfl (rl_p (yab rfl (yad rfl (congrArg Value.bool (congrArg Bool.not (decide_eq_false hp)))) rfl) rfl (rl_p (ydu rfl rfl) rfl (rl_p (ydu rfl rfl) rfl (rl_p (ydu rfl rfl) rfl (rl_p (yab rfl (yad rfl (congrArg Value.bool (congrArg Bool.not (decide_eq_false hp)))) rfl) rfl (zq (yaq (v := (.bool (true))) (congrArg Value.bool (congrArg Bool.not (decide_eq_false hp))) rfl) (zq (za (.bool (true))) (yaa (yak rfl rfl ⟨_, rfl, (hS.sel [] (by decide)), h⟩)))))))))))
  clear hJ; intro j; refine zr (zq (yav (vs := [(ii g), (.slice Ag lg cg)]) rfl underlying24 rfl yas ⟨Row.cell (hS.bx 2 rfl) (i := 0) rfl, Row.cell (hS.bx 2 rfl) (i := 1) rfl, trivial⟩) (zn (yal rfl (am1 rfl) enter_65 ((ygl h (yaL _) (hS.rdr 0 rfl)).mono ?_)))); rintro _ w7 ⟨r4, rfl, hC, h⟩; replace hS := hS.pur hC.pure; clear hC; refine ⟨_, rfl, ?_⟩; refine zb (zq (ydG rfl) (zq (zm (.bool (!(r4)))) ?_)); by_cases hp3 : r4 = true
  · replace h := h.1 hp3; refine rl_q (yae rfl (yad rfl (congrArg Value.bool (congrArg Bool.not hp3)))) rfl rfl (zm (.slice Ad ld cd)) (rl_q (yae rfl (yad rfl (congrArg Value.bool (congrArg Bool.not hp3)))) rfl rfl (yaR (n := d.length) rfl underlying25 (yaP (hS.rdr 1 rfl))) (rl_q (yae rfl (yad rfl (congrArg Value.bool (congrArg Bool.not hp3)))) rfl rfl zG (zq (yap (v := (.bool (decide (100 < ((d.length : Nat) : Int))))) (congrArg Value.bool (congrArg Bool.not hp3)) rfl) (yaa ?_)))); by_cases hp4 : 100 < ((d.length : Nat) : Int)
    · replace h := h.1 hp4; exact zc hp4 (zs (zq (za (.bool (false))) (yaa (yak rfl rfl ⟨_, rfl, (hS.sel [] (by decide)), h⟩))))
    · replace h := h.2 hp4; exact zd hp4 (yah (j _ _ _ ⟨h, rfl, rfl, rfl, (hS.sel [1, 2, 0] (by decide))⟩))
  · replace h := h.2 hp3; exact rl_p (yab rfl (yad rfl (congrArg Value.bool (congrArg Bool.not (Bool.eq_false_iff.2 hp3)))) rfl) rfl (rl_p (yab rfl (yad rfl (congrArg Value.bool (congrArg Bool.not (Bool.eq_false_iff.2 hp3)))) rfl) rfl (rl_p (yab rfl (yad rfl (congrArg Value.bool (congrArg Bool.not (Bool.eq_false_iff.2 hp3)))) rfl) rfl (zq (yaq (v := (.bool (true))) (congrArg Value.bool (congrArg Bool.not (Bool.eq_false_iff.2 hp3))) rfl) (yaa (yat rfl (zs (zq (za (.bool (false))) (yaa (yak rfl rfl ⟨_, rfl, (hS.sel [] (by decide)), h⟩)))))))))
end Go.Proofs.YthgjegpemgokoaaGreat

/- What ref25's functions compute by the rule of Cramer. -/
namespace Go.Proofs.YthgjegpemgokoaaGreat
open Go Go.Proofs.Tryz
set_option linter.unusedVariables false
set_option linter.unusedSimpArgs false
theorem gi_snc (s : List Int) (x : Int) {j : Nat} (hj : j < s.length + 1) : gi (s ++ [x]) j = if j = s.length then x else gi s j := by
  unfold gi
  by_cases e : j = s.length
  · subst e; simp
  · rw [if_neg e]; simp only [List.getD_eq_getElem?_getD]; rw [List.getElem?_append_left (by omega)]
theorem tab_succ (f : Nat → Int) (n : Nat) : tab f (n + 1) = tab f n ++ [f n] := by simp [tab, List.range_succ]
def rws (f : Nat → List Int) (n : Nat) : List (List Int) := (List.range n).map f
theorem rws_succ (f : Nat → List Int) (n : Nat) : rws f (n + 1) = rws f n ++ [f n] := by simp [rws, List.range_succ]
theorem ydM (f : Nat → List Int) (n : Nat) : (rws f n).length = n := by simp [rws]
theorem gx_rws (f : Nat → List Int) {n i : Nat} (hi : i < n) : gx (rws f n) i = f i := by rw [yea (by rw [ydM]; exact hi)]; simp [rws]
def cn (k j : Nat) : Nat := if j ≤ k then j else j - 1
theorem cn_same (k : Nat) : cn k (k + 1) = cn k k := by unfold cn; rw [if_neg (by omega), if_pos (Nat.le_refl _)]; omega
theorem cn_next {k j : Nat} (h : j ≠ k) : cn k (j + 1) = cn k j + 1 := by unfold cn; split <;> split <;> omega
theorem sk_cn {k j : Nat} (h : j ≠ k) : sk k (cn k j) = j := by unfold sk cn; split <;> split <;> omega
theorem cn_zero (k : Nat) : cn k 0 = 0 := by unfold cn; rw [if_pos (Nat.zero_le _)]
theorem cn_all {k m : Nat} (h : k ≤ m) : cn k (m + 1) = m := by unfold cn; rw [if_neg (by omega)]; omega
theorem cn_le (k j : Nat) : cn k j ≤ j := by unfold cn; split <;> omega
def Tbl (m : Nat) (l : List (List Int)) (T : Mat) : Prop := l.length = m ∧ ∀ i, i < m → (gx l i).length = m ∧ ∀ k, k < m → gi (gx l i) k = T i k
theorem det_le {m : Nat} {T : Mat} (hm : m ≤ 5) (hT : ∀ i j, i < m → j < m → -1000 ≤ T i j ∧ T i j ≤ 1000) : -120000000000000000 ≤ detF m T ∧ detF m T ≤ 120000000000000000 := by
  have h := ygD (B := 1000) (by omega) hT
  have e : fct m * 1000 ^ m ≤ 120000000000000000 := by
    rcases (by omega : m = 0 ∨ m = 1 ∨ m = 2 ∨ m = 3 ∨ m = 4 ∨ m = 5) with rfl | rfl | rfl | rfl | rfl | rfl <;> decide
  omega
theorem det_le4 {m : Nat} {T : Mat} (hm : m ≤ 4) (hT : ∀ i j, i < m → j < m → -1000 ≤ T i j ∧ T i j ≤ 1000) : -24000000000000 ≤ detF m T ∧ detF m T ≤ 24000000000000 := by
  have h := ygD (B := 1000) (by omega) hT
  have e : fct m * 1000 ^ m ≤ 24000000000000 := by
    rcases (by omega : m = 0 ∨ m = 1 ∨ m = 2 ∨ m = 3 ∨ m = 4) with rfl | rfl | rfl | rfl | rfl <;> decide
  omega
theorem yg1 : ∀ {m : Nat} {l : List (List Int)} {T : Mat} {R : Int → Prop}, m ≤ 5 → Tbl m l T → (∀ i j, i < m → j < m → -1000 ≤ T i j ∧ T i j ≤ 1000) → R (detF m T) → ydf (m + 1) l R
  | 0, l, T, R, _, hl, _, h => ⟨fun _ => h, fun q => absurd (by rw [hl.1]; rfl) q⟩
  | m + 1, l, T, R, hm, hl, hT, h => by
    obtain ⟨hll, hrow⟩ := hl
    rw [ydf]
    unfold yed
    have hTm : ∀ k, k < m + 1 → ∀ i j, i < m → j < m → -1000 ≤ ycz T k i j ∧ ycz T k i j ≤ 1000 := fun k hk i j hi hj => hT _ _ (by omega) (ygS hj)
    have hterm : ∀ k, k < m + 1 → -24000000000000000 ≤ sgn k * T 0 k * detF m (ycz T k) ∧ sgn k * T 0 k * detF m (ycz T k) ≤ 24000000000000000 := fun k hk => by
      have h1 := det_le4 (by omega) (hTm k hk)
      have h2 := hT 0 k (by omega) hk
      have h3 : -1000 ≤ sgn k * T 0 k ∧ sgn k * T 0 k ≤ 1000 := by unfold sgn; split <;> omega
      exact abs_mul h3 h1
    refine ⟨fun e => absurd e (by rw [hll]; omega), fun _ => ?_⟩
    rw [hll]
    refine ⟨fun m2 v v2 v3 => Cnt (m + 1) (fun k => v = sm k (fun k => sgn k * T 0 k * detF m (ycz T k)) ∧ v2 = sgn k) m2 v3, Cnt.start ⟨rfl, rfl⟩, ?_⟩
    rintro m2 v v2 _ ⟨k, rfl, rfl, hk, rfl, rfl⟩
    simp only [Int.toNat_natCast]
    refine ⟨fun hlt => ?_, fun hge => ?_⟩
    · have hlt : k < m + 1 := by omega
      refine ⟨fun m3 v4 v5 => Cnt (m + 1) (fun i => 1 ≤ i ∧ v4 = rws (fun r => tab (fun c => T (r + 1) (sk k c)) m) (i - 1)) m3 v5, ⟨m, 1, by omega, rfl, by omega, by omega, rfl⟩, ?_⟩
      rintro m3 v4 _ ⟨i, rfl, rfl, hi, hi1, rfl⟩
      simp only [Int.toNat_natCast]
      refine ⟨fun hlti => ?_, fun hgei => ?_⟩
      · have hlti : i < m + 1 := by omega
        obtain ⟨hrl, hre⟩ := hrow i hlti
        refine ⟨fun m4 v6 v7 => Cnt (m + 1) (fun j => v6 = tab (fun c => T i (sk k c)) (cn k j)) m4 v7, Cnt.start (by rw [cn_zero]; rfl), ?_⟩
        rintro m4 v6 _ ⟨j, rfl, rfl, hj, rfl⟩
        simp only [Int.toNat_natCast]
        refine ⟨fun hltj => ⟨fun e => ?_, fun e => ?_⟩, fun hgej => ?_⟩
        · have e : j = k := by omega
          subst e
          exact Cnt.next (by omega) (by omega) (by rw [cn_same])
        · have e : j ≠ k := by omega
          have := cn_le k j
          refine ⟨by omega, by omega, by rw [ybk]; omega, Cnt.next (by omega) (by omega) ?_⟩
          rw [cn_next e, tab_succ, sk_cn e, hre j (by omega)]
        · have e : j = m + 1 := by omega
          subst e
          refine ⟨by rw [ydM]; omega, Cnt.next hlti (by omega) ⟨by omega, ?_⟩⟩
          rw [cn_all (by omega), show i + 1 - 1 = i - 1 + 1 by omega, rws_succ, show i - 1 + 1 = i by omega]
      · have e : i = m + 1 := by omega
        subst e
        obtain ⟨hrl, hre⟩ := hrow 0 (by omega)
        have ht := hterm k hlt
        have h2 := hT 0 k (by omega) hlt
        have hsg : sgn k = 1 ∨ sgn k = -1 := by unfold sgn; split <;> simp
        have hs1 : sgn (k + 1) = - sgn k := sgn_succ k
        have hb := yfz (f := fun k => sgn k * T 0 k * detF m (ycz T k)) (B := 24000000000000000) (by omega) (n := k) fun j hj => hterm j (by omega)
        have hkb : (k : Int) * 24000000000000000 ≤ 5 * 24000000000000000 := by omega
        simp only [Int.toNat_zero]
        rw [hre k hlt]
        refine ⟨by omega, by omega, fun e0 => ⟨i64 (by omega), Cnt.next hlt (by omega) ⟨?_, hs1.symm⟩⟩, fun e0 => ⟨?_, ?_⟩⟩
        · rw [sm, e0, Int.mul_zero, Int.zero_mul, Int.add_zero]
        · rcases hsg with e | e <;> rw [e] <;> exact i64 (by omega)
        · refine yg1 (T := ycz T k) (by omega) ⟨by rw [ydM]; omega, fun i hi => ?_⟩ (hTm k hlt) ⟨i64 (by omega), i64 (by omega), i64 (by omega), Cnt.next hlt (by omega) ⟨?_, hs1.symm⟩⟩
          · rw [gx_rws _ (by omega)]
            exact ⟨ybk _ _, fun c hc => by rw [yeI _ hc]; rfl⟩
          · rw [sm]
    · have e : k = m + 1 := by omega
      subst e
      exact h
def entT (n : Nat) (es : List E3) (col : Int) (d : List Int) (i k : Nat) : Int := if (k : Int) = col then gi d i else if k = i then deg n es i else - W es i k
theorem yg2 {m q : Nat} {es : List E3} {col : Int} {d : List Int} {R : List (List Int) → Prop} (hm : m ≤ 11) (hl : es.length ≤ 1000000000) (hg : yaw ((m + 1 : Nat) : Int) es = 0) (hq : q ≤ m) (hdl : d.length = m + 1)
    (h : ∀ l, Tbl m l (fun r c => entT (m + 1) es col d (sk q r) (sk q c)) → R l) : ycy ((m + 1 : Nat) : Int) es (q : Int) col d R := by
  unfold ycy
  refine ⟨fun m2 v v2 => Cnt (m + 1) (fun i => v = rws (fun r => tab (fun c => entT (m + 1) es col d (sk q r) (sk q c)) m) (cn q i)) m2 v2, Cnt.start (by rw [cn_zero]; rfl), ?_⟩
  rintro m2 v _ ⟨i, rfl, rfl, hi, rfl⟩
  simp only [Int.toNat_natCast]
  refine ⟨fun hlt => ⟨fun e => ?_, fun e => ?_⟩, fun hge => ?_⟩
  · have e : i = q := by omega
    subst e
    exact Cnt.next (by omega) (by omega) (by rw [cn_same])
  · have e : i ≠ q := by omega
    refine ⟨fun m3 v3 v4 => Cnt (m + 1) (fun k => v3 = tab (fun c => entT (m + 1) es col d i (sk q c)) (cn q k)) m3 v4, Cnt.start (by rw [cn_zero]; rfl), ?_⟩
    rintro m3 v3 _ ⟨k, rfl, rfl, hk, rfl⟩
    simp only [Int.toNat_natCast]
    refine ⟨fun hltk => ⟨fun e2 => ?_, fun e2 => ?_⟩, fun hgek => ?_⟩
    · have e2 : k = q := by omega
      subst e2
      exact Cnt.next (by omega) (by omega) (by rw [cn_same])
    · have e2 : k ≠ q := by omega
      have hle := cn_le q k
      have hnx : tab (fun c => entT (m + 1) es col d i (sk q c)) (cn q (k + 1)) = tab (fun c => entT (m + 1) es col d i (sk q c)) (cn q k) ++ [entT (m + 1) es col d i k] := by
        rw [cn_next e2, tab_succ, sk_cn e2]
      refine ⟨fun e3 => ?_, fun e3 => ⟨fun e4 => ?_, fun e4 => ?_⟩⟩
      · refine ⟨by omega, by rw [ybk]; omega, Cnt.next (by omega) (by omega) ?_⟩
        rw [hnx]; unfold entT; rw [if_pos e3]
      · have e4 : k = i := by omega
        refine p_r08_Valence hl hg ⟨by rw [ybk]; omega, Cnt.next (by omega) (by omega) ?_⟩
        rw [hnx]; unfold entT; rw [if_neg e3, if_pos e4]
      · have e4 : k ≠ i := by omega
        have := yhY hg i k
        refine ydY hl hg (fun x => e4 x.symm) ⟨i64 (by omega), by rw [ybk]; omega, Cnt.next (by omega) (by omega) ?_⟩
        rw [hnx]; unfold entT; rw [if_neg e3, if_neg e4]
    · have ek : k = m + 1 := by omega
      subst ek
      have hle := cn_le q i
      refine ⟨by rw [ydM]; omega, Cnt.next (by omega) (by omega) ?_⟩
      rw [cn_next e, rws_succ, sk_cn e, cn_all hq]
  · have ei : i = m + 1 := by omega
    subst ei
    rw [cn_all hq]
    exact h _ ⟨ydM _ _, fun r hr => by rw [gx_rws _ hr]; exact ⟨ybk _ _, fun c hc => yeI _ hc⟩⟩
section
variable {m q : Nat} {es : List E3}
theorem ent_red (d : List Int) : (fun r c => entT (m + 1) es (-1) d (sk q r) (sk q c)) = redM (m + 1) es q := by
  funext r c
  unfold entT redM
  rw [if_neg (by omega)]
  by_cases e : r = c
  · subst e; rw [if_pos rfl, if_pos rfl]
  · rw [if_neg e, if_neg fun h => e (sk_inj h).symm]
theorem ent_col (d : List Int) {v : Nat} (hv : v ≠ q) : (fun r c => entT (m + 1) es (v : Int) d (sk q r) (sk q c)) = repl (redM (m + 1) es q) (pd q v) fun i => gi d (sk q i) := by
  funext r c
  unfold entT repl redM
  by_cases e0 : c = pd q v
  · rw [if_pos e0, if_pos (by rw [(sk_eq hv).2 e0])]
  · rw [if_neg e0, if_neg (fun h => e0 ((sk_eq hv).1 (by omega)))]
    by_cases e : r = c
    · subst e; rw [if_pos rfl, if_pos rfl]
    · rw [if_neg e, if_neg fun h => e (sk_inj h).symm]
theorem yfy (hg : yaw ((m + 1 : Nat) : Int) es = 0) (hm : m ≤ 11) {d : List Int} (hd : ∀ j, j < m + 1 → -1000 ≤ gi d j ∧ gi d j ≤ 1000) (col : Int) {i k : Nat} (hi : i < m + 1) : -1000 ≤ entT (m + 1) es col d i k ∧ entT (m + 1) es col d i k ≤ 1000 := by
  have h1 := hd i hi
  have h2 := yhY hg i k
  have h3 := deg_bound hg (m + 1) i
  unfold entT deg
  split
  · exact h1
  · split <;> omega
theorem tdiv_i64 {x n : Int} (h : -120000000000000000 ≤ x ∧ x ≤ 120000000000000000) : In64 (x.tdiv n) := by
  have h1 : (x.tdiv n).natAbs ≤ x.natAbs := by rw [Int.natAbs_tdiv]; exact Nat.div_le_self _ _
  exact i64 (by omega)
variable (hl : es.length ≤ 1000000000) (hg : yaw ((m + 1 : Nat) : Int) es = 0) (hc : yc2 ((m + 1 : Nat) : Int) es = true) (hm : m ≤ 5) (hq : q ≤ m) {d : List Int} (hdl : d.length = m + 1) (hd : ∀ j, j < m + 1 → -1000 ≤ gi d j ∧ gi d j ≤ 1000)
include hl hg hc hm hq hdl hd
theorem p_r25_Solve {R : List Int → Bool → Prop} (h1 : ∀ s : List Int, s.length = m + 1 → gi s q = 0 → (∀ v, v < m + 1 → Lp (m + 1) es (gi s) v = gi d v) → R s true)
    (h2 : (¬ ∃ t : Nat → Int, ∀ v, v < m + 1 → Lp (m + 1) es t v = gi d v) → R [] false) : ycY ((m + 1 : Nat) : Int) es (q : Int) d R := by
  obtain ⟨hE, hn1, hn12⟩ := ycH hg
  have hE : EOk (m + 1) es := hE
  have hC : Conn (m + 1) es q := (ygq hE hn1 hn12 (by omega)).1 hc
  have hN := redM_ne hE hC hq
  unfold ycY
  refine yfd (by omega) (fun i hi => by have := hd i (by omega); omega) ⟨fun e0 => ?_, fun e0 => h2 ?_⟩
  · have hdM := det_le (m := m) (T := redM (m + 1) es q) hm fun i j hi hj => by
      rw [← ent_red d]; exact yfy hg (by omega) hd _ (ygS hi)
    refine yg2 (by omega) hl hg hq hdl fun l hT => ⟨m + 1, yg1 hm hT (fun i j hi hj => yfy hg (by omega) hd _ (ygS hi)) ?_⟩
    rw [ent_red]
    generalize hNN : detF m (redM (m + 1) es q) = N at hN
    refine ⟨fun m2 s v => Cnt (m + 1) (fun k => s.length = k ∧ ∀ j, j < k → if j = q then gi s j = 0 else xF m es q (gi d) j = gi s j * N) m2 v, Cnt.start ⟨rfl, fun j hj => absurd hj (by omega)⟩, ?_⟩
    rintro m2 s _ ⟨k, rfl, rfl, hk, hsl, hs⟩
    have happ : ∀ x : Int, (if k = q then x = 0 else xF m es q (gi d) k = x * N) → ∀ j, j < k + 1 → if j = q then gi (s ++ [x]) j = 0 else xF m es q (gi d) j = gi (s ++ [x]) j * N := fun x hx j hj => by
      rw [gi_snc s x (by omega), hsl]
      by_cases e : j = k
      · subst e; rw [if_pos rfl]; exact hx
      · rw [if_neg e]; exact hs j (by omega)
    refine ⟨fun hlt => ⟨fun e => ?_, fun e => ?_⟩, fun hge => ?_⟩
    · exact ⟨by omega, Cnt.next (by omega) (by omega) ⟨by simp [hsl], happ 0 (by rw [if_pos (by omega)])⟩⟩
    · have e : k ≠ q := by omega
      have hxM := det_le (m := m) (T := fun r c => entT (m + 1) es (k : Int) d (sk q r) (sk q c)) hm fun i j hi hj => yfy hg (by omega) hd _ (ygS hi)
      refine yg2 (by omega) hl hg hq hdl fun l2 hT2 => ⟨m + 1, yg1 hm hT2 (fun i j hi hj => yfy hg (by omega) hd _ (ygS hi)) ?_⟩
      rw [ent_col d e] at hxM ⊢
      refine ⟨hN, fun hx => ?_, fun hx => h2 ?_⟩
      · refine ⟨tdiv_i64 hxM, by omega, Cnt.next (by omega) (by omega) ⟨by simp [hsl], happ _ ?_⟩⟩
        rw [if_neg e]
        have := Int.tmod_add_mul_tdiv (detF m (repl (redM (m + 1) es q) (pd q k) fun i => gi d (sk q i))) N
        show detF m (repl (redM (m + 1) es q) (pd q k) fun i => gi d (sk q i)) = _
        rw [Int.mul_comm]; omega
      · rintro ⟨t, ht⟩
        apply hx
        have h3 := solve_fwd (m := m) (es := es) hq (t := fun i => t i + - t q) (d := gi d) (by show t q + - t q = 0; omega) (fun v hv _ => by rw [ye5, yd5, ht v hv]; omega) (v := k) (by omega) e
        rw [hNN] at h3
        show (xF m es q (gi d) k).tmod N = 0
        rw [h3]; exact Int.mul_tmod_left _ _
    · have hk : k = m + 1 := by omega
      subst hk
      have hsq : gi s q = 0 := by have := hs q (by omega); rwa [if_pos rfl] at this
      have hoff : ∀ v, v < m + 1 → v ≠ q → Lp (m + 1) es (gi s) v = gi d v := fun v hv hvq => solve_bwd hE hC hq hsq (fun v hv hvq => by
        have := hs v hv
        rw [if_neg hvq] at this
        rw [this, hNN]) hv hvq
      refine h1 s hsl hsq fun v hv => ?_
      by_cases e : v = q
      · subst e
        have t1 := yfC (n := m + 1) (es := es) (gi s)
        unfold dg at e0
        rw [hdl] at e0
        rw [ygr hv] at t1 e0
        rw [yao (g := fun u => if u = v then 0 else gi d u) fun u hu => by
          by_cases e : u = v
          · rw [if_pos e, if_pos e]
          · rw [if_neg e, if_neg e, hoff u hu e]] at t1
        omega
      · exact hoff v hv e
  · rintro ⟨t, ht⟩
    apply e0
    unfold dg
    rw [hdl, ← yfC (n := m + 1) (es := es) t]
    exact yao fun v hv => (ht v hv).symm
end
theorem p_r25_Alike {m : Nat} {es : List E3} {a b : List Int} {R : Bool → Prop} (hl : es.length ≤ 1000000000) (hg : yaw ((m + 1 : Nat) : Int) es = 0) (hc : yc2 ((m + 1 : Nat) : Int) es = true) (hm : m ≤ 5) (hal : a.length = m + 1) (hbl : b.length = m + 1)
    (hab : ∀ j, j < m + 1 → -900 ≤ gi a j ∧ gi a j ≤ 900 ∧ -100 ≤ gi b j ∧ gi b j ≤ 100)
    (h1 : (∃ t : Nat → Int, ∀ v, v < m + 1 → Lp (m + 1) es t v = gi a v - gi b v) → R true)
    (h2 : (¬ ∃ t : Nat → Int, ∀ v, v < m + 1 → Lp (m + 1) es t v = gi a v - gi b v) → R false) : ydw ((m + 1 : Nat) : Int) es a b R := by
  have hp : ∀ j, j < m + 1 → gi (plusF a b (-1)) j = gi a j - gi b j := fun j hj => by unfold plusF; rw [yeI _ (by omega)]; omega
  refine p_r25_Plus (by omega) (by omega) (by omega) (fun j hj => by have := hab j (by omega); omega) (fun j hj => by have := hab j (by omega); omega) ?_
  refine p_r25_Solve (q := 0) hl hg hc hm (by omega) (by unfold plusF; rw [ybk]; exact hal) (fun j hj => by rw [hp j hj]; have := hab j hj; omega) (fun s hsl hs0 hs => h1 ⟨gi s, fun v hv => by rw [hs v hv, hp v hv]⟩) (fun hno => h2 fun ⟨t, ht⟩ => hno ⟨t, fun v hv => by rw [ht v hv, hp v hv]⟩)
end Go.Proofs.YthgjegpemgokoaaGreat

/- What the reference of ranks comes to. -/
namespace Go.Proofs.YthgjegpemgokoaaGreat
open Go Go.Proofs.Tryz
set_option linter.unusedVariables false
set_option linter.unusedSimpArgs false
theorem flat_mono {f : Nat → List (List Int)} {a b : Nat} (h : a ≤ b) : ((List.range a).flatMap f).length ≤ ((List.range b).flatMap f).length := by
  induction b with
  | zero => rw [show a = 0 by omega]; exact Nat.le_refl _
  | succ b ih =>
    by_cases e : a = b + 1
    · rw [e]; exact Nat.le_refl _
    · have := ih (by omega)
      rw [List.range_succ, List.flatMap_append, List.length_append]; omega
theorem ygb : ∀ (N fu k : Nat) {R : List (List Int) → Prop}, N < fu → (k + 1) ^ N ≤ 1000000 → N ≤ 11 → k ≤ 1000 → R (ycN (N + 1) k) → ybB fu ((N + 1 : Nat) : Int) (k : Int) R
  | N, 0, k, R, hf, _, _, _, _ => by omega
  | 0, fu + 1, k, R, _, _, _, _, h => by
    show ya7 (ybB fu) ((0 + 1 : Nat) : Int) (k : Int) R
    unfold ya7
    exact ⟨fun q => by omega, fun _ => ⟨fun _ => h, fun q => by omega⟩⟩
  | N + 1, fu + 1, k, R, hf, hp, hN, hk, h => by
    show ya7 (ybB fu) ((N + 1 + 1 : Nat) : Int) (k : Int) R
    unfold ya7
    refine ⟨fun q => by omega, fun _ => ⟨fun q => by omega, fun _ => ?_⟩⟩
    have hlen := yeH (N + 1) k
    obtain ⟨f, hfd⟩ : ∃ f : Nat → List (List Int), f = fun i => (ycN (N + 1) (k - i)).map ((i : Int) :: ·) := ⟨_, rfl⟩
    have hL : ycN (N + 1 + 1) k = (List.range (k + 1)).flatMap f := by rw [hfd]; rfl
    rw [hL] at h hlen
    refine ⟨fun m out v => Cnt (k + 1) (fun i => out = (List.range i).flatMap f) m v, Cnt.start rfl, ?_⟩
    rintro m out _ ⟨i, rfl, rfl, hi, rfl⟩
    refine ⟨fun hle => ⟨i64 (by omega), i64 (by omega), ?_⟩, fun hgt => ?_⟩
    · have e1 : ((N + 1 + 1 : Nat) : Int) - 1 = ((N + 1 : Nat) : Int) := by omega
      have e2 : (k : Int) - (i : Int) = ((k - i : Nat) : Int) := by omega
      rw [e1, e2]
      have hpw : (k - i + 1) ^ N ≤ 1000000 := by
        have h1 : (k - i + 1) ^ N ≤ (k + 1) ^ N := Nat.pow_le_pow_left (by omega) N
        have h2 : (k + 1) ^ N ≤ (k + 1) ^ (N + 1) := Nat.pow_le_pow_right (by omega) (by omega)
        omega
      refine ygb N fu (k - i) (by omega) hpw (by omega) (by omega) ?_
      have hsucc : (List.range (i + 1)).flatMap f = (List.range i).flatMap f ++ (ycN (N + 1) (k - i)).map ((i : Int) :: ·) := by
        rw [List.range_succ, List.flatMap_append]
        simp [hfd]
      have htot : ((List.range (i + 1)).flatMap f).length ≤ 1000000 := by
        have := flat_mono (f := f) (a := i + 1) (b := k + 1) (by omega)
        omega
      rw [hsucc, List.length_append, List.length_map] at htot
      have hml : ∀ e ∈ ycN (N + 1) (k - i), e.length = N + 1 := fun e he => ((ydl N (k - i) e).1 he).1
      generalize ycN (N + 1) (k - i) = r at hsucc htot hml
      refine ⟨fun m out v => Cnt r.length (fun j => out = (List.range i).flatMap f ++ (r.take j).map ((i : Int) :: ·)) m v, Cnt.start (by simp), ?_⟩
      rintro m2 _ _ ⟨j, rfl, rfl, hj, rfl⟩
      simp only [Int.toNat_natCast]
      refine ⟨fun hlt => ⟨by omega, ?_, ?_, Cnt.next (by omega) (by omega) ?_⟩, fun hge => Cnt.next (by omega) (by omega) ?_⟩
      · have := hml _ (List.mem_of_getElem? (ydg (show j < r.length by omega)))
        simp only [List.length_singleton]; omega
      · rw [List.length_append, List.length_map, List.length_take]; omega
      · rw [List.take_add_one, ydg (show j < r.length by omega), List.map_append, List.append_assoc]; rfl
      · have e : j = r.length := by omega
        rw [hsucc, e, List.take_length]
    · have e : i = k + 1 := by omega
      rw [e]; exact h
theorem plus_sb {n : Nat} {d e : List Int} (hd : d.length = n) : plusF d e (-1) = sb n d e := by
  unfold plusF sb
  rw [hd]
  exact tab_congr fun i _ => by omega
section
variable {N : Nat} {es : List E3} {d : List Int}
end
theorem yeK {n : Int} {es : List E3} {d : List Int} (hg : yaH n es 0 d = 0) (hD : DOk n.toNat es d) : ∃ N : Nat, n = ((N + 1 : Nat) : Int) ∧ d.length = N + 1 := by
  have h1 := yfx (n := n.toNat) (q := 0) (es := es) (d := d) (by rw [show ((n.toNat : Nat) : Int) = n from by have := ycL hg; omega]; exact hg)
  have h2 := ycL hg
  exact ⟨n.toNat - 1, by omega, by have := h1.2.2.2.2.2.2.1; omega⟩
structure FewOk (n : Int) (es : List E3) (d : List Int) (most : Int) : Prop where
  s : smallF n es 5 7 = true
  l : d.length ≤ 100
  g : yaH n es 0 d = 0 → lowF n d = true ∧ dg d ≤ most
theorem FewOk.el {n : Int} {es : List E3} {d : List Int} {most : Int} (h : FewOk n es d most) : es.length ≤ 40 := (of_decide_eq_true h.s).1
theorem gok_of {n : Int} {es : List E3} (hs : smallF n es 5 7 = true) (hg : yaw n es = 0) (hc : yc2 n es = true) : GOk n.toNat es := by
  obtain ⟨h1, h2⟩ := of_decide_eq_true hs
  have h3 := h2 hg
  have hn : 1 ≤ n ∧ n ≤ 12 := by unfold yaw at hg; split at hg; · assumption
                                 · omega
  have e : ((n.toNat : Nat) : Int) = n := by omega
  exact ⟨by rw [e]; exact hg, by rw [e]; exact hc, h1, by omega, by omega, by omega⟩
theorem FewOk.dok {n : Int} {es : List E3} {d : List Int} {most : Int} (h : FewOk n es d most) (hm : most ≤ 5) (hg : yaH n es 0 d = 0) : DOk n.toNat es d := by
  obtain ⟨h1, h2⟩ := h.g hg
  have h3 := ycL hg
  have e : ((n.toNat : Nat) : Int) = n := by omega
  have h4 := yfx (n := n.toNat) (q := 0) (es := es) (d := d) (by rw [e]; exact hg)
  have h5 := (ygx.1 h1).2 (by have := h4.2.2.2.2.2.2.2; rwa [e] at this)
  have h6 := h4.2.2.2.2.2.2.1
  exact ⟨gok_of h.s (by have := h4.2.2.2.1; rwa [e] at this) (by have := h4.2.2.2.2.1; rwa [e] at this), fun v hv => by have := h5 v (by omega); omega, by omega⟩
end Go.Proofs.YthgjegpemgokoaaGreat

/- The examples of the chapter on ranks come out right; what the law's small functions come to. -/
namespace Go.Proofs.YthgjegpemgokoaaGreat
open Go Go.Proofs.Tryz
set_option linter.unusedVariables false
set_option linter.unusedSimpArgs false
def tri : List E3 := [(0, 1, 1), (0, 2, 1), (1, 2, 1)]
def k4 : List E3 := [(0, 1, 1), (0, 2, 1), (0, 3, 1), (1, 2, 1), (1, 3, 1), (2, 3, 1)]
theorem yl2 : GOk 3 tri := ⟨by decide, by decide, by decide, by decide, by decide, by decide⟩
end Go.Proofs.YthgjegpemgokoaaGreat

/- A graph is looked through whatever its length: a right one has few edges. -/
namespace Go.Proofs.YthgjegpemgokoaaGreat
open Go Go.Proofs.Tryz
set_option linter.unusedVariables false
set_option linter.unusedSimpArgs false
end Go.Proofs.YthgjegpemgokoaaGreat
