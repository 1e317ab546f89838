/- Texts laid together: PSr, SpD, RkR, L38, Big. -/
import Derived.Test.YthgjegpemgokoaaGreatK4
/- Pure forms of functions, made by program (pf.py), each with the proof that the code does so. -/
namespace Go.Proofs.YthgjegpemgokoaaGreat
open Go Go.RowKit Go.Shelf Go.Proofs.Tryz
set_option linter.unusedVariables false
set_option maxRecDepth 100000
set_option maxHeartbeats 1000000
def yhx (a : List Int) (b : List Int) (R : Int → Prop) : Prop :=
(∃ I2 : Nat → Int → Prop, (∃ m0, I2 m0 0) ∧ ∀ m2 v, I2 m2 v → 
((v < ((a.length : Nat) : Int) →
((0 ≤ v ∧ v < ((a.length : Nat) : Int)) ∧
((0 ≤ v ∧ v < ((b.length : Nat) : Int)) ∧
(((gi a v.toNat) < (gi b v.toNat) →
R (-1)) ∧
(¬ ((gi a v.toNat) < (gi b v.toNat)) →
(((gi b v.toNat) < (gi a v.toNat) →
R 1) ∧
(¬ ((gi b v.toNat) < (gi a v.toNat)) →
(In64 (v + 1) ∧
∃ m3, m3 < m2 ∧ I2 m3 (v + 1))))))))) ∧
(¬ (v < ((a.length : Nat) : Int)) →
R 0)))
theorem yhM {O : Nat → Prop} {w : World} {a b Aa la ca Ab lb cb} {R : Int → Prop} (h : yhx a b R) (hO : ∀ k, O k → k < w.heap.size) (hA0 : (FP.sl cI Aa la ca a).P O w) (hA1 : (FP.sl cI Ab lb cb b).P O w) :
    Calls Tryz.prog 177 #[(.slice Aa la ca), (.slice Ab lb cb)] w fun e w' => ∃ r, e = .returned (ii r) ∧ Sep w no O w' (rl []) ∧ R r := by
  unfold yhx at h; have hS : Sep w no O w (rl [Res.ro (FP.sl cI Aa la ca a), Res.ro (FP.sl cI Ab lb cb b)]) := Sep.startl hO [(FP.sl cI Aa la ca a), (FP.sl cI Ab lb cb b)] ⟨hA0, hA1, trivial⟩; refine yan (l := [(.slice Aa la ca), (.slice Ab lb cb)]) func177 rfl ntmps177 (Nat.le_of_ble_eq_true rfl) (zs (zq (za (ii 0)) (yaa (yaf (zs (zq (za (ii 0)) (yaa (yaj ?_)))))))); obtain ⟨I2, ⟨m0, h0⟩, hr⟩ := h; refine yaC (fun m E ds w' => ∃ v, I2 m v ∧ ds = [] ∧ E 0 = (Value.slice Aa la ca) ∧ E 1 = (Value.slice Ab lb cb) ∧ E 5 = (ii v) ∧ Sep w no O w' (rl [Res.ro (FP.sl cI Aa la ca a), Res.ro (FP.sl cI Ab lb cb b)])) m0 ⟨_, h0, rfl, rfl, rfl, rfl, (hS.sel [0, 1] (by decide))⟩ ?_; clear h0 hS; rintro m2 E ds w2 ⟨v, h, rfl, hE0, hE1, hE5, hS⟩ again; replace h := hr m2 v h; clear hr; refine yaf (zs (zq (yac hE5) (zq (yac hE0) (zq (yaR (n := a.length) rfl underlying26 (yaP (hS.rdr 0 rfl))) (zq zL (yaa ?_)))))); by_cases hp : v < ((a.length : Nat) : Int)
  · replace h := h.1 hp; refine zc hp (yah (yaf (yaj (yaf (yaf (ya6 [0, 1, 2, 3, 4, 5, 6, 7, 8] st0 yaG (by kernel_rfl) (by kernel_rfl) ?_)))))); replace hS := hS.drew; refine zp (yac hE0) (zp (yac hE5) ?_); obtain ⟨hx, h⟩ := h; refine zp (zi underlying26 yai (yaT (hS.rdr 0 rfl) hx)) (zp (yau (v := (ii (gi a v.toNat))) rfl underlying3 rfl (rd_1 (hS.rdr 0 rfl) hx (fun q => ybb q) rfl)) ?_); refine zp (yac hE1) (zp (yac hE5) ?_); obtain ⟨hx2, h⟩ := h; refine zp (zi underlying26 yai (yaT (hS.rdr 1 rfl) hx2)) (zp (yau (v := (ii (gi b v.toNat))) rfl underlying3 rfl (rd_1 (hS.rdr 1 rfl) hx2 (fun q => ybb q) rfl)) ?_); refine zp zL (ybv ?_); by_cases hp2 : (gi a v.toNat) < (gi b v.toNat)
    · replace h := h.1 hp2; exact zc hp2 (zs (zq (za (ii (-1))) (yaa (yak rfl rfl ⟨_, rfl, (hS.sel [] (by decide)), h⟩))))
    · replace h := h.2 hp2; refine zd hp2 (yah (yaf (ya6 [0, 1, 2, 3, 4, 5, 6, 7, 8] st0 yaG (by kernel_rfl) (by kernel_rfl) ?_))); replace hS := hS.drew; refine zp (yac hE0) (zp (yac hE5) (zp (zi underlying26 yai (yaT (hS.rdr 0 rfl) hx)) (zp (yau (v := (ii (gi a v.toNat))) rfl underlying3 rfl (rd_1 (hS.rdr 0 rfl) hx (fun q => ybb q) rfl)) ?_))); refine zp (yac hE1) (zp (yac hE5) (zp (zi underlying26 yai (yaT (hS.rdr 1 rfl) hx2)) (zp (yau (v := (ii (gi b v.toNat))) rfl underlying3 rfl (rd_1 (hS.rdr 1 rfl) hx2 (fun q => ybb q) rfl)) ?_))); refine zp zG (ybv ?_); by_cases hp3 : (gi b v.toNat) < (gi a v.toNat)
      · replace h := h.1 hp3; exact zc hp3 (zs (zq (za (ii 1)) (yaa (yak rfl rfl ⟨_, rfl, (hS.sel [] (by decide)), h⟩))))
      · replace h := h.2 hp3; refine zd hp3 (yah (yag (zr (zq (yac hE5) ?_)))); obtain ⟨hi, h⟩ := h; refine zq (zA hi) (zq (za (ii (v + 1))) (yaa ?_)); obtain ⟨mq, hlt, h⟩ := h; exact again mq _ _ _ ⟨_, h, rfl, hE0, hE1, rfl, (hS.sel [0, 1] (by decide))⟩ hlt
  · replace h := h.2 hp; exact zd hp (yay rfl (zs (zq (za (ii 0)) (yaa (yak rfl rfl ⟨_, rfl, (hS.sel [] (by decide)), h⟩)))))
def yhy (l : List (List Int)) (R : (List (List Int)) → Prop) : Prop :=
(∃ I2 : Nat → (List (List Int)) → Int → Prop, (∃ m0, I2 m0 ([]) 0) ∧ ∀ m2 out i, I2 m2 out i → 
((i < ((l.length : Nat) : Int) →
(∃ I3 : Nat → Int → Prop, (∃ m0, I3 m0 0) ∧ ∀ m3 at2, I3 m3 at2 → 
((at2 < ((out.length : Nat) : Int) →
((0 ≤ at2 ∧ at2 < ((out.length : Nat) : Int)) ∧
((0 ≤ i ∧ i < ((l.length : Nat) : Int)) ∧
yhx (gx out at2.toNat) (gx l i.toNat) (fun r =>
((r < 0 →
(In64 (at2 + 1) ∧
∃ m4, m4 < m3 ∧ I3 m4 (at2 + 1))) ∧
(¬ (r < 0) →
((0 ≤ at2 ∧ at2 ≤ ((out.length : Nat) : Int)) ∧
(0 + (out.take at2.toNat).length ≤ 1000000000 ∧
(([] ++ (out.take at2.toNat)).length + 1 ≤ 1000000000 ∧
((([] ++ (out.take at2.toNat)) ++ [(gx l i.toNat)]).length + (out.drop at2.toNat).length ≤ 1000000000 ∧
(In64 (i + 1) ∧
∃ m5, m5 < m2 ∧ I2 m5 ((([] ++ (out.take at2.toNat)) ++ [(gx l i.toNat)]) ++ (out.drop at2.toNat)) (i + 1)))))))))))) ∧
(¬ (at2 < ((out.length : Nat) : Int)) →
((0 ≤ at2 ∧ at2 ≤ ((out.length : Nat) : Int)) ∧
(0 + (out.take at2.toNat).length ≤ 1000000000 ∧
((0 ≤ i ∧ i < ((l.length : Nat) : Int)) ∧
(([] ++ (out.take at2.toNat)).length + 1 ≤ 1000000000 ∧
((([] ++ (out.take at2.toNat)) ++ [(gx l i.toNat)]).length + (out.drop at2.toNat).length ≤ 1000000000 ∧
(In64 (i + 1) ∧
∃ m6, m6 < m2 ∧ I2 m6 ((([] ++ (out.take at2.toNat)) ++ [(gx l i.toNat)]) ++ (out.drop at2.toNat)) (i + 1))))))))))) ∧
(¬ (i < ((l.length : Nat) : Int)) →
R out)))
theorem pok_r35_Sorted {O : Nat → Prop} {w : World} {l Al ll cl} {R : (List (List Int)) → Prop} (h : yhy l R) (hO : ∀ k, O k → k < w.heap.size) (hA0 : (FP.sl (cL cI) Al ll cl l).P O w) :
    Calls Tryz.prog 142 #[(.slice Al ll cl)] w fun e w' => ∃ r2 Ar lr cr, e = .returned (.slice Ar lr cr) ∧ Sep w no O w' (rl [Res.own (cL cI) 25 Ar lr cr r2]) ∧ R r2 := by
  unfold yhy at h; have hS : Sep w no O w (rl [Res.ro (FP.sl (cL cI) Al ll cl l)]) := Sep.startl hO [(FP.sl (cL cI) Al ll cl l)] ⟨hA0, trivial⟩; refine yan (l := [(.slice Al ll cl)]) func142 rfl ntmps142 (Nat.le_of_ble_eq_true rfl) (zs (zq (za (.slice none 0 0)) (yaa (zs (zq (za (.slice none 0 0)) (yaa (yaf (zs (zq (za (ii 0)) (yaa (yaj ?_))))))))))); replace hS := hS.nil 1 rfl (cL cI) 25; obtain ⟨I2, ⟨m0, h0⟩, hr⟩ := h; refine yaC (fun m E ds w' => ∃ out i Aout lout cout, I2 m out i ∧ ds = [] ∧ E 0 = (Value.slice Al ll cl) ∧ E 3 = (Value.slice Aout lout cout) ∧ E 4 = (ii i) ∧ Sep w no O w' (rl [Res.own (cL cI) 25 Aout lout cout out, Res.ro (FP.sl (cL cI) Al ll cl l)])) m0 ⟨_, _, _, _, _, h0, rfl, rfl, rfl, rfl, (hS.sel [1, 0] (by decide))⟩ ?_; clear h0 hS; rintro m2 E ds w2 ⟨out, i, Aout, lout, cout, h, rfl, hE0, hE3, hE4, hS⟩ again; replace h := hr m2 out i h; clear hr; refine yaf (zs (zq (yac hE4) (zq (yac hE0) (zq (yaR (n := l.length) rfl underlying48 (yaP (hS.rdr 1 rfl))) (zq zL (yaa ?_)))))); by_cases hp : i < ((l.length : Nat) : Int)
  · replace h := h.1 hp; refine zc hp (yah (yaf (yaj (zs (zq (za (ii 0)) (yaa (yaf (yaj ?_)))))))); obtain ⟨I3, ⟨m0, h0⟩, hr⟩ := h; refine yaC (fun m E ds w' => ∃ at2, I3 m at2 ∧ ds = [] ∧ E 0 = (Value.slice Al ll cl) ∧ E 3 = (Value.slice Aout lout cout) ∧ E 4 = (ii i) ∧ E 5 = (ii at2) ∧ Sep w no O w' (rl [Res.ro (FP.sl (cL cI) Al ll cl l), Res.own (cL cI) 25 Aout lout cout out])) m0 ⟨_, h0, rfl, hE0, hE3, hE4, rfl, (hS.sel [1, 0] (by decide))⟩ ?_; clear h0 hS; rintro m3 E ds w3 ⟨at2, h, rfl, hE0, hE3, hE4, hE5, hS⟩ again2; replace h := hr m3 at2 h; clear hr; refine yaf (yaf (ya6 [0, 1, 2, 3, 4, 5, 6, 7, 8, 9, 10, 11, 12, 13, 14, 15] st0 yaG (by kernel_rfl) (by kernel_rfl) ?_)); replace hS := hS.drew; refine zp (yac hE5) (zp (yac hE3) (zp (yaR (n := out.length) rfl underlying48 (yaP (hS.rdo 1 rfl))) (zp zL (zp (zm (.bool (decide (at2 < ((out.length : Nat) : Int))))) ?_)))); by_cases hp2 : at2 < ((out.length : Nat) : Int)
    · replace h := h.1 hp2; refine rp_q (yae rfl (yad rfl (congrArg Value.bool (decide_eq_true hp2)))) rfl rfl (yac hE3) (rp_q (yae rfl (yad rfl (congrArg Value.bool (decide_eq_true hp2)))) rfl rfl (yac hE5) ?_); obtain ⟨hx, h⟩ := h; refine rp_q (yae rfl (yad rfl (congrArg Value.bool (decide_eq_true hp2)))) rfl rfl (zi underlying48 ybl (yaT (hS.rdo 1 rfl) hx)) ?_; obtain ⟨A, l2, c, hc, hq⟩ := hS.elo 1 rfl hx 2 rfl; replace hS := hq; clear hq; refine rp_q (yae rfl (yad rfl (congrArg Value.bool (decide_eq_true hp2)))) rfl rfl (yau (v := (.slice A l2 c)) rfl underlying25 rfl hc) (rp_q (yae rfl (yad rfl (congrArg Value.bool (decide_eq_true hp2)))) rfl rfl (yac hE0) (rp_q (yae rfl (yad rfl (congrArg Value.bool (decide_eq_true hp2)))) rfl rfl (yac hE4) ?_)); obtain ⟨hx2, h⟩ := h; refine rp_q (yae rfl (yad rfl (congrArg Value.bool (decide_eq_true hp2)))) rfl rfl (zi underlying48 ybl (yaT (hS.rdr 0 rfl) hx2)) ?_; obtain ⟨A2, l3, c2, hc2, hq⟩ := hS.el 0 rfl hx2 3 4 rfl rfl (by decide); replace hS := hq; clear hq; refine rp_q (yae rfl (yad rfl (congrArg Value.bool (decide_eq_true hp2)))) rfl rfl (yau (v := (.slice A2 l3 c2)) rfl underlying25 rfl (hS.clr 4 rfl)) (rp_n (yae rfl (yad rfl (congrArg Value.bool (decide_eq_true hp2)))) rfl rfl rfl (yal rfl (am2 rfl rfl) enter_177 ((yhM h (yaL _) (hS.rdr 2 rfl) (hS.rdr 3 rfl)).mono ?_))); rintro _ w4 ⟨r, rfl, hC, h⟩; replace hS := hS.pur hC.pure; clear hC; refine ⟨_, rfl, ?_⟩; refine zb (rp_q (yae rfl (yad rfl (congrArg Value.bool (decide_eq_true hp2)))) rfl rfl zL (zp (yaq (v := (.bool (decide (r < 0)))) (congrArg Value.bool (decide_eq_true hp2)) rfl) (ybv ?_))); by_cases hp3 : r < 0
      · replace h := h.1 hp3; refine zc hp3 (yah (yaj (zr (zq (yac hE5) ?_)))); obtain ⟨hi, h⟩ := h; refine zq (zA hi) (zq (za (ii (at2 + 1))) (yaa (yag ?_))); obtain ⟨mq, hlt, h⟩ := h; exact again2 mq _ _ _ ⟨_, h, rfl, hE0, hE3, hE4, rfl, (hS.sel [0, 1] (by decide))⟩ hlt
      · replace h := h.2 hp3; refine zd hp3 (yay rfl (zs (zn (yaB (l := []) (cells := []) (bp0) underlying48 ybl rfl rfl ?_)))); intro g w5 hN; replace hS := hS.lit (n := 0) (c := (cL cI)) 5 rfl hN ([] : List (List Int)) rfl (by decide) rfl; clear hN; refine zb (zq (yac hE3) (zq (yac hE5) ?_)); obtain ⟨hx3, h⟩ := h; replace hS := hS.frz 1 rfl; replace hS := hS.addro 6 rfl _ (sl_take (hS.ro 1 rfl) hx3); refine zq (yhS rfl rfl underlying48 ybl (le_cap (hS.rdr 1 rfl) hx3)) ?_; obtain ⟨hx4, h⟩ := h; refine zn (yeZ (c := (cL cI)) rfl rfl underlying48 underlying48 ybl rfl rfl (by decide) hS 5 rfl (hS.yr 6 rfl) hx4 ?_); clear hS; intro A3 c3 w6 hS; refine zb (zq (za (.slice A3 (0 + (at2.toNat)) c3)) (yaa (zs (zq (zm (.slice A3 (0 + (at2.toNat)) c3)) (zq (yac hE0) (zq (yac hE4) (zq (zi underlying48 ybl (yaT (hS.rdr 0 rfl) hx2)) ?_))))))); obtain ⟨A4, l4, c4, hc3, hq⟩ := hS.el 0 rfl hx2 7 8 rfl rfl (by decide); replace hS := hq; clear hq; refine zq (yau (v := (.slice A4 l4 c4)) rfl underlying25 rfl (hS.clr 8 rfl)) (zn (yaB (l := [(0, (.slice A4 l4 c4))]) (cells := [(.slice A4 l4 c4)]) (bp1 rfl) underlying48 ybl rfl rfl ?_)); intro g2 w7 hN; replace hS := hS.lit (n := 1) (c := (cL cI)) 9 rfl hN ([(gx l i.toNat)] : List (List Int)) rfl (by decide) ⟨[(.slice A4 l4 c4)], _, rfl, (ro_R (hS.ro 7 rfl)), rfl⟩; clear hN; refine zb ?_; obtain ⟨hx5, h⟩ := h; refine zn (yeZ (c := (cL cI)) rfl rfl underlying48 underlying48 ybl rfl rfl (by decide) hS 5 rfl (hS.yo 9 rfl) hx5 ?_); clear hS; intro A5 c5 w8 hS; refine zb (zq (za (.slice A5 ((0 + (at2.toNat)) + 1) c5)) (yaa (zr (zq (zm (.slice A5 ((0 + (at2.toNat)) + 1) c5)) (zq (yac hE3) (zq (yac hE5) ?_)))))); replace hS := hS.addro 10 rfl _ (sl_drop (hS.ro 1 rfl) hx3); refine zq (yhN rfl rfl underlying48 ybl (by rw [yaP (hS.rdr 1 rfl)]; exact hx3)) ?_; obtain ⟨hx6, h⟩ := h; refine zn (yeZ (c := (cL cI)) rfl rfl underlying48 underlying48 ybl rfl rfl (by decide) hS 5 rfl (hS.yr 10 rfl) hx6 ?_); clear hS; intro A6 c6 w9 hS; refine zb (zq (za (.slice A6 (((0 + (at2.toNat)) + 1) + (lout - at2.toNat)) c6)) (yaa (yag (zr (zq (yac hE4) ?_))))); obtain ⟨hi2, h⟩ := h; refine zq (zA hi2) (zq (za (ii (i + 1))) (yaa ?_)); obtain ⟨mq, hlt, h⟩ := h; exact again mq _ _ _ ⟨_, _, _, _, _, h, rfl, hE0, rfl, rfl, (hS.sel [5, 0] (by decide))⟩ hlt
    · replace h := h.2 hp2; refine rp_p (yab rfl (yad rfl (congrArg Value.bool (decide_eq_false hp2))) rfl) rfl (rp_p (yab rfl (yad rfl (congrArg Value.bool (decide_eq_false hp2))) rfl) rfl (rp_p (yab rfl (yad rfl (congrArg Value.bool (decide_eq_false hp2))) rfl) rfl (rp_p (yab rfl (yad rfl (congrArg Value.bool (decide_eq_false hp2))) rfl) rfl (rp_p (yab rfl (yad rfl (congrArg Value.bool (decide_eq_false hp2))) rfl) rfl (rp_p (yab rfl (yad rfl (congrArg Value.bool (decide_eq_false hp2))) rfl) rfl (rp_p (yab rfl (yad rfl (congrArg Value.bool (decide_eq_false hp2))) rfl) rfl (rp_p (yab rfl (yad rfl (congrArg Value.bool (decide_eq_false hp2))) rfl) rfl (rp_p (yab rfl (yad rfl (congrArg Value.bool (decide_eq_false hp2))) rfl) rfl (rp_p (yab rfl (yad rfl (congrArg Value.bool (decide_eq_false hp2))) rfl) rfl (zp (yap (v := (.bool (false))) (congrArg Value.bool (decide_eq_false hp2)) rfl) (ybv (yaA rfl (yay rfl (zs (zn (yaB (l := []) (cells := []) (bp0) underlying48 ybl rfl rfl ?_)))))))))))))))); intro g3 w10 hN; replace hS := hS.lit (n := 0) (c := (cL cI)) 2 rfl hN ([] : List (List Int)) rfl (by decide) rfl; clear hN; refine zb (zq (yac hE3) (zq (yac hE5) ?_)); obtain ⟨hx7, h⟩ := h; replace hS := hS.frz 1 rfl; replace hS := hS.addro 3 rfl _ (sl_take (hS.ro 1 rfl) hx7); refine zq (yhS rfl rfl underlying48 ybl (le_cap (hS.rdr 1 rfl) hx7)) ?_; obtain ⟨hx8, h⟩ := h; refine zn (yeZ (c := (cL cI)) rfl rfl underlying48 underlying48 ybl rfl rfl (by decide) hS 2 rfl (hS.yr 3 rfl) hx8 ?_); clear hS; intro A7 c7 w11 hS; refine zb (zq (za (.slice A7 (0 + (at2.toNat)) c7)) (yaa (zs (zq (zm (.slice A7 (0 + (at2.toNat)) c7)) (zq (yac hE0) (zq (yac hE4) ?_)))))); obtain ⟨hx9, h⟩ := h; refine zq (zi underlying48 ybl (yaT (hS.rdr 0 rfl) hx9)) ?_; obtain ⟨A8, l5, c8, hc4, hq⟩ := hS.el 0 rfl hx9 4 5 rfl rfl (by decide); replace hS := hq; clear hq; refine zq (yau (v := (.slice A8 l5 c8)) rfl underlying25 rfl (hS.clr 5 rfl)) (zn (yaB (l := [(0, (.slice A8 l5 c8))]) (cells := [(.slice A8 l5 c8)]) (bp1 rfl) underlying48 ybl rfl rfl ?_)); intro g4 w12 hN; replace hS := hS.lit (n := 1) (c := (cL cI)) 6 rfl hN ([(gx l i.toNat)] : List (List Int)) rfl (by decide) ⟨[(.slice A8 l5 c8)], _, rfl, (ro_R (hS.ro 4 rfl)), rfl⟩; clear hN; refine zb ?_; obtain ⟨hx10, h⟩ := h; refine zn (yeZ (c := (cL cI)) rfl rfl underlying48 underlying48 ybl rfl rfl (by decide) hS 2 rfl (hS.yo 6 rfl) hx10 ?_); clear hS; intro A9 c9 w13 hS; refine zb (zq (za (.slice A9 ((0 + (at2.toNat)) + 1) c9)) (yaa (zr (zq (zm (.slice A9 ((0 + (at2.toNat)) + 1) c9)) (zq (yac hE3) (zq (yac hE5) ?_)))))); replace hS := hS.addro 7 rfl _ (sl_drop (hS.ro 1 rfl) hx7); refine zq (yhN rfl rfl underlying48 ybl (by rw [yaP (hS.rdr 1 rfl)]; exact hx7)) ?_; obtain ⟨hx11, h⟩ := h; refine zn (yeZ (c := (cL cI)) rfl rfl underlying48 underlying48 ybl rfl rfl (by decide) hS 2 rfl (hS.yr 7 rfl) hx11 ?_); clear hS; intro A10 c10 w14 hS; refine zb (zq (za (.slice A10 (((0 + (at2.toNat)) + 1) + (lout - at2.toNat)) c10)) (yaa (yag (zr (zq (yac hE4) ?_))))); obtain ⟨hi3, h⟩ := h; refine zq (zA hi3) (zq (za (ii (i + 1))) (yaa ?_)); obtain ⟨mq, hlt, h⟩ := h; exact again mq _ _ _ ⟨_, _, _, _, _, h, rfl, hE0, rfl, rfl, (hS.sel [2, 0] (by decide))⟩ hlt
  · replace h := h.2 hp; exact zd hp (yay rfl (zs (zq (yac hE3) (zq (za (.slice Aout lout cout)) (yaa (yak rfl rfl ⟨_, _, _, _, rfl, (hS.sel [0] (by decide)), h⟩))))))
def yhD (d : List Int) (R : Bool → Prop) : Prop :=
(∃ I2 : Nat → Int → Prop, (∃ m0, I2 m0 0) ∧ ∀ m2 v, I2 m2 v → 
((v < ((d.length : Nat) : Int) →
((0 ≤ v ∧ v < ((d.length : Nat) : Int)) ∧
(((gi d v.toNat) < 0 →
R false) ∧
(¬ ((gi d v.toNat) < 0) →
(In64 (v + 1) ∧
∃ m3, m3 < m2 ∧ I2 m3 (v + 1)))))) ∧
(¬ (v < ((d.length : Nat) : Int)) →
R true)))
theorem pok_r37_paid {O : Nat → Prop} {w : World} {d Ad ld cd} {R : Bool → Prop} (h : yhD d R) (hO : ∀ k, O k → k < w.heap.size) (hA0 : (FP.sl cI Ad ld cd d).P O w) :
    Calls Tryz.prog 85 #[(.slice Ad ld cd)] w fun e w' => ∃ r, e = .returned (.bool (r)) ∧ Sep w no O w' (rl []) ∧ R r := by
  unfold yhD at h; have hS : Sep w no O w (rl [Res.ro (FP.sl cI Ad ld cd d)]) := Sep.startl hO [(FP.sl cI Ad ld cd d)] ⟨hA0, trivial⟩; refine yan (l := [(.slice Ad ld cd)]) func85 rfl ntmps85 (Nat.le_of_ble_eq_true rfl) (zs (zq (za (.bool (false))) (yaa (yaf (zs (zq (za (ii 0)) (yaa (yaj ?_)))))))); obtain ⟨I2, ⟨m0, h0⟩, hr⟩ := h; refine yaC (fun m E ds w' => ∃ v, I2 m v ∧ ds = [] ∧ E 0 = (Value.slice Ad ld cd) ∧ E 3 = (ii v) ∧ Sep w no O w' (rl [Res.ro (FP.sl cI Ad ld cd d)])) m0 ⟨_, h0, rfl, rfl, rfl, (hS.sel [0] (by decide))⟩ ?_; clear h0 hS; rintro m2 E ds w2 ⟨v, h, rfl, hE0, hE3, hS⟩ again; replace h := hr m2 v h; clear hr; refine yaf (zs (zq (yac hE3) (zq (yac hE0) (zq (yaR (n := d.length) rfl underlying25 (yaP (hS.rdr 0 rfl))) (zq zL (yaa ?_)))))); by_cases hp : v < ((d.length : Nat) : Int)
  · replace h := h.1 hp; refine zc hp (yah (yaf (yaj (zs (zq (yac hE0) (zq (yac hE3) ?_)))))); obtain ⟨hx, h⟩ := h; refine zq (zi underlying25 yai (yaT (hS.rdr 0 rfl) hx)) (zq (yau (v := (ii (gi d v.toNat))) rfl underlying3 rfl (rd_1 (hS.rdr 0 rfl) hx (fun q => ybb q) rfl)) ?_); refine zq zL (yaa ?_); by_cases hp2 : (gi d v.toNat) < 0
    · replace h := h.1 hp2; exact zc hp2 (zs (zq (za (.bool (false))) (yaa (yak rfl rfl ⟨_, rfl, (hS.sel [] (by decide)), h⟩))))
    · replace h := h.2 hp2; refine zd hp2 (yah (yag (zr (zq (yac hE3) ?_)))); obtain ⟨hi, h⟩ := h; refine zq (zA hi) (zq (za (ii (v + 1))) (yaa ?_)); obtain ⟨mq, hlt, h⟩ := h; exact again mq _ _ _ ⟨_, h, rfl, hE0, rfl, (hS.sel [0] (by decide))⟩ hlt
  · replace h := h.2 hp; exact zd hp (yay rfl (zs (zq (za (.bool (true))) (yaa (yak rfl rfl ⟨_, rfl, (hS.sel [] (by decide)), h⟩)))))
def yhF (l : List (List Int)) (d : List Int) (R : Bool → Prop) : Prop :=
(∃ I2 : Nat → Int → Prop, (∃ m0, I2 m0 0) ∧ ∀ m2 i, I2 m2 i → 
((i < ((l.length : Nat) : Int) →
((0 ≤ i ∧ i < ((l.length : Nat) : Int)) ∧
yhx (gx l i.toNat) d (fun r =>
((r = 0 →
R true) ∧
(¬ (r = 0) →
(In64 (i + 1) ∧
∃ m3, m3 < m2 ∧ I2 m3 (i + 1))))))) ∧
(¬ (i < ((l.length : Nat) : Int)) →
R false)))
theorem pok_r37_has {O : Nat → Prop} {w : World} {l d Al ll cl Ad ld cd} {R : Bool → Prop} (h : yhF l d R) (hO : ∀ k, O k → k < w.heap.size) (hA0 : (FP.sl (cL cI) Al ll cl l).P O w) (hA1 : (FP.sl cI Ad ld cd d).P O w) :
    Calls Tryz.prog 141 #[(.slice Al ll cl), (.slice Ad ld cd)] w fun e w' => ∃ r2, e = .returned (.bool (r2)) ∧ Sep w no O w' (rl []) ∧ R r2 := by
  unfold yhF at h; have hS : Sep w no O w (rl [Res.ro (FP.sl (cL cI) Al ll cl l), Res.ro (FP.sl cI Ad ld cd d)]) := Sep.startl hO [(FP.sl (cL cI) Al ll cl l), (FP.sl cI Ad ld cd d)] ⟨hA0, hA1, trivial⟩; refine yan (l := [(.slice Al ll cl), (.slice Ad ld cd)]) func141 rfl ntmps141 (Nat.le_of_ble_eq_true rfl) (zs (zq (za (.bool (false))) (yaa (yaf (zs (zq (za (ii 0)) (yaa (yaj ?_)))))))); obtain ⟨I2, ⟨m0, h0⟩, hr⟩ := h; refine yaC (fun m E ds w' => ∃ i, I2 m i ∧ ds = [] ∧ E 0 = (Value.slice Al ll cl) ∧ E 1 = (Value.slice Ad ld cd) ∧ E 5 = (ii i) ∧ Sep w no O w' (rl [Res.ro (FP.sl (cL cI) Al ll cl l), Res.ro (FP.sl cI Ad ld cd d)])) m0 ⟨_, h0, rfl, rfl, rfl, rfl, (hS.sel [0, 1] (by decide))⟩ ?_; clear h0 hS; rintro m2 E ds w2 ⟨i, h, rfl, hE0, hE1, hE5, hS⟩ again; replace h := hr m2 i h; clear hr; refine yaf (zs (zq (yac hE5) (zq (yac hE0) (zq (yaR (n := l.length) rfl underlying48 (yaP (hS.rdr 0 rfl))) (zq zL (yaa ?_)))))); by_cases hp : i < ((l.length : Nat) : Int)
  · replace h := h.1 hp; refine zc hp (yah (yaf (yaj (zs (zq (yac hE0) (zq (yac hE5) ?_)))))); obtain ⟨hx, h⟩ := h; refine zq (zi underlying48 ybl (yaT (hS.rdr 0 rfl) hx)) ?_; obtain ⟨A, l2, c, hc, hq⟩ := hS.el 0 rfl hx 2 3 rfl rfl (by decide); replace hS := hq; clear hq; refine zq (yau (v := (.slice A l2 c)) rfl underlying25 rfl (hS.clr 3 rfl)) (zq (yac hE1) (zn (yal rfl (am2 rfl rfl) enter_177 ((yhM h (yaL _) (hS.rdr 2 rfl) (hS.rdr 1 rfl)).mono ?_)))); rintro _ w3 ⟨r, rfl, hC, h⟩; replace hS := hS.pur hC.pure; clear hC; refine ⟨_, rfl, ?_⟩; refine zb (zq zE (yaa ?_)); by_cases hp2 : r = 0
    · replace h := h.1 hp2; exact zc hp2 (zs (zq (za (.bool (true))) (yaa (yak rfl rfl ⟨_, rfl, (hS.sel [] (by decide)), h⟩))))
    · replace h := h.2 hp2; refine zd hp2 (yah (yag (zr (zq (yac hE5) ?_)))); obtain ⟨hi, h⟩ := h; refine zq (zA hi) (zq (za (ii (i + 1))) (yaa ?_)); obtain ⟨mq, hlt, h⟩ := h; exact again mq _ _ _ ⟨_, h, rfl, hE0, hE1, rfl, (hS.sel [0, 1] (by decide))⟩ hlt
  · replace h := h.2 hp; exact zd hp (yay rfl (zs (zq (za (.bool (false))) (yaa (yak rfl rfl ⟨_, rfl, (hS.sel [] (by decide)), h⟩)))))
def yhE (g : Int) (g2 : List E3) (d : List Int) (R : (List (List Int)) → Prop) : Prop :=
(∃ I2 : Nat → (List (List Int)) → Int → Prop, (∃ m0, I2 m0 ([]) 1) ∧ ∀ m2 out set2, I2 m2 out set2 → 
((0 ≤ g ∧ g < 64) ∧
In64 (1 * 2 ^ g.toNat) ∧
(In64 ((1 * 2 ^ g.toNat) - 1) ∧
((set2 < ((1 * 2 ^ g.toNat) - 1) →
yhH g g2 d set2 (fun r =>
((r = true →
((0 ≤ g ∧ g ≤ 1000000) ∧
(∃ I3 : Nat → Int → (List Int) → Prop, (∃ m0, I3 m0 0 (List.replicate g.toNat (0 : Int))) ∧ ∀ m3 v s, I3 m3 v s → 
((v < g →
((0 ≤ v ∧ v < 64) ∧
((0 ≤ (set2 / 2 ^ v.toNat) ∧ (set2 / 2 ^ v.toNat) < 9223372036854775808 ∧ 0 ≤ (1 : Int) ∧ (1 : Int) < 9223372036854775808) ∧
((0 ≤ v ∧ v < ((s.length : Nat) : Int)) ∧
(In64 (v + 1) ∧
∃ m4, m4 < m3 ∧ I3 m4 (v + 1) (s.set v.toNat (((set2 / 2 ^ v.toNat).toNat &&& (1 : Int).toNat : Nat) : Int))))))) ∧
(¬ (v < g) →
yhz g g2 d s (fun r2 =>
yhF out r2 (fun r3 =>
((r3 = true →
(In64 (set2 + 1) ∧
∃ m5, m5 < m2 ∧ I2 m5 out (set2 + 1))) ∧
(¬ (r3 = true) →
(out.length + 1 ≤ 1000000000 ∧
(In64 (set2 + 1) ∧
∃ m6, m6 < m2 ∧ I2 m6 (out ++ [r2]) (set2 + 1)))))))))))) ∧
(¬ (r = true) →
(In64 (set2 + 1) ∧
∃ m7, m7 < m2 ∧ I2 m7 out (set2 + 1)))))) ∧
(¬ (set2 < ((1 * 2 ^ g.toNat) - 1)) →
yhy out (fun r4 =>
R r4))))))
theorem pok_r37_Next {O : Nat → Prop} {w : World} {g g2 d Ag lg cg Ad ld cd} {R : (List (List Int)) → Prop} (h : yhE g g2 d R) (hO : ∀ k, O k → k < w.heap.size) (hA0 : (FP.sl c3 Ag lg cg g2).P O w) (hA1 : (FP.sl cI Ad ld cd d).P O w) :
    Calls Tryz.prog 86 #[(.agg #[(ii g), (.slice Ag lg cg)]), (.slice Ad ld cd)] w fun e w' => ∃ r5 Ar3 lr3 cr3, e = .returned (.slice Ar3 lr3 cr3) ∧ Sep w no O w' (rl [Res.own (cL cI) 25 Ar3 lr3 cr3 r5]) ∧ R r5 := by
  unfold yhE at h; have hS : Sep w no O w (rl [Res.ro (FP.sl c3 Ag lg cg g2), Res.ro (FP.sl cI Ad ld cd d)]) := Sep.startl hO [(FP.sl c3 Ag lg cg g2), (FP.sl cI Ad ld cd d)] ⟨hA0, hA1, trivial⟩; refine yan (l := [(.agg #[(ii g), (.slice Ag lg cg)]), (.slice Ad ld cd)]) func86 rfl ntmps86 (Nat.le_of_ble_eq_true rfl) (zs (zn (ybR (v := (.agg #[(ii g), (.slice Ag lg cg)])) rfl ?_))); intro g3 w2 hN; replace hS : Sep w no O w2 (stl _ 2 (Res.box 24 g3 [(ii g), (.slice Ag lg cg)])) := hS.new 2 rfl hN; clear hN; refine zb (zq (za (.slice none 0 0)) (yaa (zs (zq (za (.slice none 0 0)) (yaa (yaf (zs (zq (za (ii 1)) (yaa (yaj ?_)))))))))); replace hS := hS.nil 3 rfl (cL cI) 25; obtain ⟨I2, ⟨m0, h0⟩, hr⟩ := h; refine yaC (fun m E ds w' => ∃ out set2 Aout lout cout, I2 m out set2 ∧ ds = [] ∧ E 1 = (Value.slice Ad ld cd) ∧ E 2 = (Value.pointer (some (⟨g3, 0, none⟩ : Addr))) ∧ E 5 = (Value.slice Aout lout cout) ∧ E 6 = (ii set2) ∧ Sep w no O w' (rl [Res.own (cL cI) 25 Aout lout cout out, Res.ro (FP.sl cI Ad ld cd d), Res.box 24 g3 [(ii g), (.slice Ag lg cg)], Res.ro (FP.sl c3 Ag lg cg g2)])) m0 ⟨_, _, _, _, _, h0, rfl, rfl, rfl, rfl, rfl, (hS.sel [3, 1, 2, 0] (by decide))⟩ ?_; clear h0 hS; rintro m2 E ds w3 ⟨out, set2, Aout, lout, cout, h, rfl, hE1, hE2, hE5, hE6, hS⟩ again; replace h := hr m2 out set2 h; clear hr; refine yaf (zs (zq (yac hE6) (zq (yam hE2 underlying24 rfl yai) (zq (zl underlying3 (Row.cell (hS.bx 2 rfl) (i := 0) rfl)) ?_)))); obtain ⟨hz, h⟩ := h; obtain ⟨hi, h⟩ := h; refine zq (v_shl rfl rfl hz hi) ?_; obtain ⟨hi2, h⟩ := h; refine zq (zS hi2) (zq zL (yaa ?_)); by_cases hp : set2 < ((1 * 2 ^ g.toNat) - 1)
  · replace h := h.1 hp; refine zc hp (yah (yaf (yaj (yaf (zs (zq (yav (vs := [(ii g), (.slice Ag lg cg)]) hE2 underlying24 rfl yas ⟨Row.cell (hS.bx 2 rfl) (i := 0) rfl, Row.cell (hS.bx 2 rfl) (i := 1) rfl, trivial⟩) (zq (yac hE1) (zq (yac hE6) (zn (yal rfl (am3 rfl rfl rfl) enter_139 ((pok_r25_May h (yaL _) (hS.rdr 3 rfl) (hS.rdr 1 rfl)).mono ?_))))))))))); rintro _ w4 ⟨r, rfl, hC, h⟩; replace hS := hS.pur hC.pure; clear hC; refine ⟨_, rfl, ?_⟩; refine zb (zq (ydG rfl) (yaa ?_)); by_cases hp2 : r = true
    · replace h := h.1 hp2; refine yaA (congrArg Value.bool (congrArg Bool.not hp2)) (yah (zs (zq (yam hE2 underlying24 rfl yai) (zq (zl underlying3 (Row.cell (hS.bx 2 rfl) (i := 0) rfl)) ?_)))); obtain ⟨hx, h⟩ := h; refine zn (yhW rfl rfl underlying25 yai (by decide) rfl hx ?_); intro g4 w5 hN; replace hS := hS.made 4 rfl cI (ii 0) (0 : Int) (fun _ _ => rfl) hN (by omega); clear hN; refine zb (zq (za (.slice (some ⟨g4, 0, none⟩) g.toNat g.toNat)) (yaa (yaf (zs (zq (za (ii 0)) (yaa (yaj ?_))))))); obtain ⟨I3, ⟨m0, h0⟩, hr⟩ := h; refine yaC (fun m E ds w' => ∃ v s As ls cs, I3 m v s ∧ ds = [] ∧ E 1 = (Value.slice Ad ld cd) ∧ E 2 = (Value.pointer (some (⟨g3, 0, none⟩ : Addr))) ∧ E 5 = (Value.slice Aout lout cout) ∧ E 6 = (ii set2) ∧ E 7 = (Value.slice As ls cs) ∧ E 8 = (ii v) ∧ Sep w no O w' (rl [Res.ro (FP.sl cI Ad ld cd d), Res.box 24 g3 [(ii g), (.slice Ag lg cg)], Res.ro (FP.sl c3 Ag lg cg g2), Res.own (cL cI) 25 Aout lout cout out, Res.own cI 3 As ls cs s])) m0 ⟨_, _, _, _, _, h0, rfl, hE1, hE2, hE5, hE6, rfl, rfl, (hS.sel [1, 2, 3, 0, 4] (by decide))⟩ ?_; clear h0 hS; rintro m3 E ds w6 ⟨v, s, As, ls, cs, h, rfl, hE1, hE2, hE5, hE6, hE7, hE8, hS⟩ again2; replace h := hr m3 v s h; clear hr; refine yaf (zs (zq (yac hE8) (zq (yam hE2 underlying24 rfl yai) (zq (zl underlying3 (Row.cell (hS.bx 1 rfl) (i := 0) rfl)) (zq zL (yaa ?_)))))); by_cases hp3 : v < g
      · replace h := h.1 hp3; refine zc hp3 (yah (yaf (yaj (zr (zq (yac hE7) (zq (yac hE8) (zq (yac hE6) (zq (yac hE8) ?_)))))))); obtain ⟨hz2, h⟩ := h; refine zq (v_shr rfl rfl hz2) ?_; obtain ⟨hz3, h⟩ := h; refine zq (v_andb rfl rfl hz3) ?_; obtain ⟨hx2, h⟩ := h; refine zq (zi underlying25 yai (yaT (hS.rdo 4 rfl) hx2)) (zo (zt (ii (((set2 / 2 ^ v.toNat).toNat &&& (1 : Int).toNat : Nat) : Int)) yai (hS.wr 4 rfl rfl hx2) ?_)); intro w7 e1; replace hS := hS.st 4 rfl rfl hx2 (x := (((set2 / 2 ^ v.toNat).toNat &&& (1 : Int).toNat : Nat) : Int)) rfl e1; clear e1; refine zb (yaa (yag (zr (zq (yac hE8) ?_)))); obtain ⟨hi3, h⟩ := h; refine zq (zA hi3) (zq (za (ii (v + 1))) (yaa ?_)); obtain ⟨mq, hlt, h⟩ := h; exact again2 mq _ _ _ ⟨_, _, _, _, _, h, rfl, hE1, hE2, hE5, hE6, hE7, rfl, (hS.sel [0, 1, 2, 3, 4] (by decide))⟩ hlt
      · replace h := h.2 hp3; refine zd hp3 (yay rfl (zs (zq (yav (vs := [(ii g), (.slice Ag lg cg)]) hE2 underlying24 rfl yas ⟨Row.cell (hS.bx 1 rfl) (i := 0) rfl, Row.cell (hS.bx 1 rfl) (i := 1) rfl, trivial⟩) (zq (yac hE1) (zq (yac hE7) (zn (yal rfl (am3 rfl rfl rfl) enter_140 ((yhU h (yaL _) (hS.rdr 2 rfl) (hS.rdr 0 rfl) (hS.rdo 4 rfl)).mono ?_)))))))); rintro _ w8 ⟨r2, Ar, lr, cr, rfl, hC, h⟩; replace hS := hS.call1 (hC.widen (yft (yb3 (fI .i64) _ _ _ _ _) yfP) hS.blt) 5 0 rfl; clear hC; refine ⟨_, rfl, ?_⟩; refine zb (zq (za (.slice Ar lr cr)) (yaa (zs (zq (yac hE5) (zq (zm (.slice Ar lr cr)) (zn (yal rfl (am2 rfl rfl) enter_141 ((pok_r37_has h (yaL _) (hS.rdo 3 rfl) (hS.rdo 5 rfl)).mono ?_)))))))); rintro _ w9 ⟨r3, rfl, hC, h⟩; replace hS := hS.pur hC.pure; clear hC; refine ⟨_, rfl, ?_⟩; refine zb (zq (ydG rfl) (yaa ?_)); by_cases hp4 : r3 = true
        · replace h := h.1 hp4; refine yaA (congrArg Value.bool (congrArg Bool.not hp4)) (yah (yag (zr (zq (yac hE6) ?_)))); obtain ⟨hi4, h⟩ := h; refine zq (zA hi4) (zq (za (ii (set2 + 1))) (yaa ?_)); obtain ⟨mq, hlt, h⟩ := h; exact again mq _ _ _ ⟨_, _, _, _, _, h, rfl, hE1, hE2, hE5, rfl, (hS.sel [3, 0, 1, 2] (by decide))⟩ hlt
        · replace h := h.2 hp4; refine yat (congrArg Value.bool (congrArg Bool.not (Bool.eq_false_iff.2 hp4))) (zr (zq (yac hE5) (zq (zm (.slice Ar lr cr)) ?_))); replace hS := hS.frz 5 rfl; refine zn (yaB (l := [(0, (.slice Ar lr cr))]) (cells := [(.slice Ar lr cr)]) (bp1 rfl) underlying48 ybl rfl rfl ?_); intro g5 w10 hN; replace hS := hS.lit (n := 1) (c := (cL cI)) 6 rfl hN ([r2] : List (List Int)) rfl (by decide) ⟨[(.slice Ar lr cr)], _, rfl, (ro_R (hS.ro 5 rfl)), rfl⟩; clear hN; refine zb ?_; obtain ⟨hx3, h⟩ := h; refine zn (yeZ (c := (cL cI)) rfl rfl underlying48 underlying48 ybl rfl rfl (by decide) hS 3 rfl (hS.yo 6 rfl) hx3 ?_); clear hS; intro A c w11 hS; refine zb (zq (za (.slice A (lout + 1) c)) (yaa (yag (zr (zq (yac hE6) ?_))))); obtain ⟨hi5, h⟩ := h; refine zq (zA hi5) (zq (za (ii (set2 + 1))) (yaa ?_)); obtain ⟨mq, hlt, h⟩ := h; exact again mq _ _ _ ⟨_, _, _, _, _, h, rfl, hE1, hE2, rfl, rfl, (hS.sel [3, 0, 1, 2] (by decide))⟩ hlt
    · replace h := h.2 hp2; refine yat (congrArg Value.bool (congrArg Bool.not (Bool.eq_false_iff.2 hp2))) (yay rfl (zr (zq (yac hE6) ?_))); obtain ⟨hi6, h⟩ := h; refine zq (zA hi6) (zq (za (ii (set2 + 1))) (yaa ?_)); obtain ⟨mq, hlt, h⟩ := h; exact again mq _ _ _ ⟨_, _, _, _, _, h, rfl, hE1, hE2, hE5, rfl, (hS.sel [0, 1, 2, 3] (by decide))⟩ hlt
  · replace h := h.2 hp; refine zd hp (yay rfl (zs (zq (yac hE5) ?_))); replace hS := hS.frz 0 rfl; refine zn (yal rfl (am1 rfl) enter_142 ((pok_r35_Sorted h hS.blt (hS.ro 0 rfl)).mono ?_)); rintro _ w12 ⟨r4, Ar2, lr2, cr2, rfl, hC, h⟩; replace hS := hS.call1 hC 4 0 rfl; clear hC; refine ⟨_, rfl, ?_⟩; exact zb (zq (za (.slice Ar2 lr2 cr2)) (yaa (yak rfl rfl ⟨_, _, _, _, rfl, (hS.sel [4] (by decide)), h⟩)))
def yhB (g : Int) (g2 : List E3) (d : List Int) (R : (List (List Int)) → Int → Prop) : Prop :=
ycv g g2 d (fun r =>
((r = 0 →
yhD d (fun r2 =>
((r2 = true →
yhE g g2 d (fun r3 =>
R r3 0)) ∧
(¬ (r2 = true) →
R ([]) 15)))) ∧
(¬ (r = 0) →
R ([]) r)))
theorem pok_r37_Steps {O : Nat → Prop} {w : World} {g g2 d Ag lg cg Ad ld cd} {R : (List (List Int)) → Int → Prop} (h : yhB g g2 d R) (hO : ∀ k, O k → k < w.heap.size) (hA0 : (FP.sl c3 Ag lg cg g2).P O w) (hA1 : (FP.sl cI Ad ld cd d).P O w) :
    Calls Tryz.prog 32 #[(.agg #[(ii g), (.slice Ag lg cg)]), (.slice Ad ld cd)] w fun e w' => ∃ r4 r5 Ar2 lr2 cr2, e = .returned (.tuple #[(.slice Ar2 lr2 cr2), (ii r5)]) ∧ Sep w no O w' (rl [Res.own (cL cI) 25 Ar2 lr2 cr2 r4]) ∧ R r4 r5 := by
  unfold yhB at h; have hS : Sep w no O w (rl [Res.ro (FP.sl c3 Ag lg cg g2), Res.ro (FP.sl cI Ad ld cd d)]) := Sep.startl hO [(FP.sl c3 Ag lg cg g2), (FP.sl cI Ad ld cd d)] ⟨hA0, hA1, trivial⟩; refine yan (l := [(.agg #[(ii g), (.slice Ag lg cg)]), (.slice Ad ld cd)]) func32 rfl ntmps32 (Nat.le_of_ble_eq_true rfl) (zs (zn (ybR (v := (.agg #[(ii g), (.slice Ag lg cg)])) rfl ?_))); intro g3 w2 hN; replace hS : Sep w no O w2 (stl _ 2 (Res.box 24 g3 [(ii g), (.slice Ag lg cg)])) := hS.new 2 rfl hN; clear hN; refine zb (zq (za (.slice none 0 0)) (zq (za (ii 0)) (yaa (yaf (zs (zq (yav (vs := [(ii g), (.slice Ag lg cg)]) rfl underlying24 rfl yas ⟨Row.cell (hS.bx 2 rfl) (i := 0) rfl, Row.cell (hS.bx 2 rfl) (i := 1) rfl, trivial⟩) (zq (zm (.slice Ad ld cd)) (zn (yal rfl (am2 rfl rfl) enter_66 ((yfu h (yaL _) (hS.rdr 0 rfl) (hS.rdr 1 rfl)).mono ?_)))))))))); rintro _ w3 ⟨r, rfl, hC, h⟩; replace hS := hS.pur hC.pure; clear hC; refine ⟨_, rfl, ?_⟩; refine zb (zq (za (ii r)) (yaa (zs (zq (zm (ii r)) (zq zN (yaa ?_)))))); by_cases hp : r = 0
  · replace h := h.1 hp; refine ze hp (yah (yaf (zs (zq (zm (.slice Ad ld cd)) (zn (yal rfl (am1 rfl) enter_85 ((pok_r37_paid h (yaL _) (hS.rdr 1 rfl)).mono ?_))))))); rintro _ w4 ⟨r2, rfl, hC, h⟩; replace hS := hS.pur hC.pure; clear hC; refine ⟨_, rfl, ?_⟩; refine zb (zq (ydG rfl) (yaa ?_)); by_cases hp2 : r2 = true
    · replace h := h.1 hp2; refine yaA (congrArg Value.bool (congrArg Bool.not hp2)) (yah (zs (zq (yav (vs := [(ii g), (.slice Ag lg cg)]) rfl underlying24 rfl yas ⟨Row.cell (hS.bx 2 rfl) (i := 0) rfl, Row.cell (hS.bx 2 rfl) (i := 1) rfl, trivial⟩) (zq (zm (.slice Ad ld cd)) (zn (yal rfl (am2 rfl rfl) enter_86 ((pok_r37_Next h hS.blt (hS.ro 0 rfl) (hS.ro 1 rfl)).mono ?_))))))); rintro _ w5 ⟨r3, Ar, lr, cr, rfl, hC, h⟩; replace hS := hS.call1 hC 3 0 rfl; clear hC; refine ⟨_, rfl, ?_⟩; exact zb (zq (za (.slice Ar lr cr)) (zq (za (ii 0)) (yaa (ybm rfl rfl rfl ⟨_, _, _, _, _, rfl, (hS.sel [3] (by decide)), h⟩))))
    · replace h := h.2 hp2; refine yat (congrArg Value.bool (congrArg Bool.not (Bool.eq_false_iff.2 hp2))) (zs (zq (za (.slice none 0 0)) (zq (za (ii 15)) (yaa ?_)))); replace hS := hS.nil 3 rfl (cL cI) 25; exact ybm rfl rfl rfl ⟨_, _, _, _, _, rfl, (hS.sel [3] (by decide)), h⟩
  · replace h := h.2 hp; refine zf hp (zs (zq (zm (ii r)) (zq (za (.slice none 0 0)) (zq (za (ii r)) (yaa ?_))))); replace hS := hS.nil 3 rfl (cL cI) 25; exact ybm rfl rfl rfl ⟨_, _, _, _, _, rfl, (hS.sel [3] (by decide)), h⟩
def ydV (g : Int) (g2 : List E3) (d : List Int) (R : Bool → Prop) : Prop :=
(∃ J2 : Prop, (J2 → ycv g g2 d (fun r =>
((r = 0 →
ydO g g2 d (fun r2 =>
((r2 = true →
yb5 d (fun r3 =>
R (decide (r3 ≤ 5)))) ∧
(¬ (r2 = true) →
R false)))) ∧
(¬ (r = 0) →
R true)))) ∧
ydq g g2 (fun r4 =>
((r4 = true →
((100 < ((d.length : Nat) : Int) →
R false) ∧
(¬ (100 < ((d.length : Nat) : Int)) →
J2))) ∧
(¬ (r4 = true) →
R false))))
theorem pok_r37_Few {O : Nat → Prop} {w : World} {g g2 d Ag lg cg Ad ld cd} {R : Bool → Prop} (h : ydV g g2 d R) (hO : ∀ k, O k → k < w.heap.size) (hA0 : (FP.sl c3 Ag lg cg g2).P O w) (hA1 : (FP.sl cI Ad ld cd d).P O w) :
    Calls Tryz.prog 14 #[(.agg #[(ii g), (.slice Ag lg cg)]), (.slice Ad ld cd)] w fun e w' => ∃ r5, e = .returned (.bool (r5)) ∧ Sep w no O w' (rl []) ∧ R r5 := by
  unfold ydV at h; have hS : Sep w no O w (rl [Res.ro (FP.sl c3 Ag lg cg g2), Res.ro (FP.sl cI Ad ld cd d)]) := Sep.startl hO [(FP.sl c3 Ag lg cg g2), (FP.sl cI Ad ld cd d)] ⟨hA0, hA1, trivial⟩; refine yan (l := [(.agg #[(ii g), (.slice Ag lg cg)]), (.slice Ad ld cd)]) func14 rfl ntmps14 (Nat.le_of_ble_eq_true rfl) (zs (zn (ybR (v := (.agg #[(ii g), (.slice Ag lg cg)])) rfl ?_))); intro g3 w2 hN; replace hS : Sep w no O w2 (stl _ 2 (Res.box 24 g3 [(ii g), (.slice Ag lg cg)])) := hS.new 2 rfl hN; clear hN; refine zb (zq (za (.bool (false))) (yaa (yaf (yaf ?_)))); obtain ⟨J2, hJ, h⟩ := h; refine ydB (fun E ds w' => J2 ∧ ds = [] ∧ E 1 = (Value.slice Ad ld cd) ∧ E 2 = (Value.pointer (some (⟨g3, 0, none⟩ : Addr))) ∧ Sep w no O w' (rl [Res.ro (FP.sl cI Ad ld cd d), Res.box 24 g3 [(ii g), (.slice Ag lg cg)], Res.ro (FP.sl c3 Ag lg cg g2)])) ?_ ?_
  · clear h hS; rintro E ds w3 ⟨h, rfl, hE1, hE2, hS⟩; replace h := hJ h; refine zs (zq (yav (vs := [(ii g), (.slice Ag lg cg)]) hE2 underlying24 rfl yas ⟨Row.cell (hS.bx 1 rfl) (i := 0) rfl, Row.cell (hS.bx 1 rfl) (i := 1) rfl, trivial⟩) (zq (yac hE1) (zn (yal rfl (am2 rfl rfl) enter_66 ((yfu h (yaL _) (hS.rdr 2 rfl) (hS.rdr 0 rfl)).mono ?_))))); rintro _ w4 ⟨r, rfl, hC, h⟩; replace hS := hS.pur hC.pure; clear hC; refine ⟨_, rfl, ?_⟩; refine zb (zq zN (zq (zm (.bool (!(decide (r = 0))))) ?_)); by_cases hp : r = 0
    · replace h := h.1 hp; refine rl_q (yae rfl (yad rfl (congrArg Value.bool (congrArg Bool.not (decide_eq_true hp))))) rfl rfl (yav (vs := [(ii g), (.slice Ag lg cg)]) hE2 underlying24 rfl yas ⟨Row.cell (hS.bx 1 rfl) (i := 0) rfl, Row.cell (hS.bx 1 rfl) (i := 1) rfl, trivial⟩) (rl_q (yae rfl (yad rfl (congrArg Value.bool (congrArg Bool.not (decide_eq_true hp))))) rfl rfl (yac hE1) (rl_n (yae rfl (yad rfl (congrArg Value.bool (congrArg Bool.not (decide_eq_true hp))))) rfl rfl rfl (yal rfl (am2 rfl rfl) enter_34 ((pok_r34_Low h (yaL _) (hS.rdr 2 rfl) (hS.rdr 0 rfl)).mono ?_)))); rintro _ w5 ⟨r2, rfl, hC, h⟩; replace hS := hS.pur hC.pure; clear hC; refine ⟨_, rfl, ?_⟩; refine zb (rl_q (yae rfl (yad rfl (congrArg Value.bool (congrArg Bool.not (decide_eq_true hp))))) rfl rfl (zm (.bool (r2))) ?_); by_cases hp2 : r2 = true
      · replace h := h.1 hp2; refine rl_q (yae rfl (yad rfl (congrArg Value.bool hp2))) rfl rfl (yac hE1) (rl_n (yae rfl (yad rfl (congrArg Value.bool hp2))) rfl rfl rfl (yal rfl (am1 rfl) enter_39 ((yd9 h (yaL _) (hS.rdr 0 rfl)).mono ?_))); rintro _ w6 ⟨r3, rfl, hC, h⟩; replace hS := hS.pur hC.pure; clear hC; refine ⟨_, rfl, ?_⟩; exact zb (rl_q (yae rfl (yad rfl (congrArg Value.bool hp2))) rfl rfl (v_leq rfl rfl) (rl_q (yae rfl (yad rfl (congrArg Value.bool (congrArg Bool.not (decide_eq_true hp))))) rfl rfl (yaq (v := (.bool (decide (r3 ≤ 5)))) (congrArg Value.bool hp2) rfl) (zq (yap (v := (.bool (decide (r3 ≤ 5)))) (congrArg Value.bool (congrArg Bool.not (decide_eq_true hp))) rfl) (zq (za (.bool (decide (r3 ≤ 5)))) (yaa (yak rfl rfl ⟨_, rfl, (hS.sel [] (by decide)), h⟩))))))
      · replace h := h.2 hp2; exact rl_p (yab rfl (yad rfl (congrArg Value.bool (Bool.eq_false_iff.2 hp2))) rfl) rfl (rl_p (yab rfl (yad rfl (congrArg Value.bool (Bool.eq_false_iff.2 hp2))) rfl) rfl (rl_p (yab rfl (yad rfl (congrArg Value.bool (Bool.eq_false_iff.2 hp2))) rfl) rfl (rl_q (yae rfl (yad rfl (congrArg Value.bool (congrArg Bool.not (decide_eq_true hp))))) rfl rfl (yap (v := (.bool (false))) (congrArg Value.bool (Bool.eq_false_iff.2 hp2)) rfl) (zq (yap (v := (.bool (false))) (congrArg Value.bool (congrArg Bool.not (decide_eq_true hp))) rfl) (zq (za (.bool (false))) (yaa (yak rfl rfl ⟨_, rfl, (hS.sel [] (by decide)), h⟩)))))))
    · replace h := h.2 hp; exact rl_p (yab rfl (yad rfl (congrArg Value.bool (congrArg Bool.not (decide_eq_false hp)))) rfl) rfl (rl_p (yab rfl (yad rfl (congrArg Value.bool (congrArg Bool.not (decide_eq_false hp)))) rfl) rfl (rl_p (yab rfl (yad rfl (congrArg Value.bool (congrArg Bool.not (decide_eq_false hp)))) rfl) rfl (rl_p (yab rfl (yad rfl (congrArg Value.bool (congrArg Bool.not (decide_eq_false hp)))) rfl) rfl (rl_p (ydu rfl rfl) rfl (rl_p (ydu rfl rfl) rfl (rl_p (ydu rfl rfl) rfl (rl_p (yab rfl (yad rfl (congrArg Value.bool (congrArg Bool.not (decide_eq_false hp)))) rfl) rfl (zq (yaq (v := (.bool (true))) (congrArg Value.bool (congrArg Bool.not (decide_eq_false hp))) rfl) (zq (za (.bool (true))) (yaa (yak rfl rfl ⟨_, rfl, (hS.sel [] (by decide)), h⟩)))))))))))
  clear hJ; intro j; refine zr (zq (yav (vs := [(ii g), (.slice Ag lg cg)]) rfl underlying24 rfl yas ⟨Row.cell (hS.bx 2 rfl) (i := 0) rfl, Row.cell (hS.bx 2 rfl) (i := 1) rfl, trivial⟩) (zn (yal rfl (am1 rfl) enter_65 ((ygl h (yaL _) (hS.rdr 0 rfl)).mono ?_)))); rintro _ w7 ⟨r4, rfl, hC, h⟩; replace hS := hS.pur hC.pure; clear hC; refine ⟨_, rfl, ?_⟩; refine zb (zq (ydG rfl) (zq (zm (.bool (!(r4)))) ?_)); by_cases hp3 : r4 = true
  · replace h := h.1 hp3; refine rl_q (yae rfl (yad rfl (congrArg Value.bool (congrArg Bool.not hp3)))) rfl rfl (zm (.slice Ad ld cd)) (rl_q (yae rfl (yad rfl (congrArg Value.bool (congrArg Bool.not hp3)))) rfl rfl (yaR (n := d.length) rfl underlying25 (yaP (hS.rdr 1 rfl))) (rl_q (yae rfl (yad rfl (congrArg Value.bool (congrArg Bool.not hp3)))) rfl rfl zG (zq (yap (v := (.bool (decide (100 < ((d.length : Nat) : Int))))) (congrArg Value.bool (congrArg Bool.not hp3)) rfl) (yaa ?_)))); by_cases hp4 : 100 < ((d.length : Nat) : Int)
    · replace h := h.1 hp4; exact zc hp4 (zs (zq (za (.bool (false))) (yaa (yak rfl rfl ⟨_, rfl, (hS.sel [] (by decide)), h⟩))))
    · replace h := h.2 hp4; exact zd hp4 (yah (j _ _ _ ⟨h, rfl, rfl, rfl, (hS.sel [1, 2, 0] (by decide))⟩))
  · replace h := h.2 hp3; exact rl_p (yab rfl (yad rfl (congrArg Value.bool (congrArg Bool.not (Bool.eq_false_iff.2 hp3)))) rfl) rfl (rl_p (yab rfl (yad rfl (congrArg Value.bool (congrArg Bool.not (Bool.eq_false_iff.2 hp3)))) rfl) rfl (rl_p (yab rfl (yad rfl (congrArg Value.bool (congrArg Bool.not (Bool.eq_false_iff.2 hp3)))) rfl) rfl (zq (yaq (v := (.bool (true))) (congrArg Value.bool (congrArg Bool.not (Bool.eq_false_iff.2 hp3))) rfl) (yaa (yat rfl (zs (zq (za (.bool (false))) (yaa (yak rfl rfl ⟨_, rfl, (hS.sel [] (by decide)), h⟩)))))))))
end Go.Proofs.YthgjegpemgokoaaGreat

/- What ref25's functions compute by the rule of Cramer. -/
namespace Go.Proofs.YthgjegpemgokoaaGreat
open Go Go.Proofs.Tryz
set_option linter.unusedVariables false
set_option linter.unusedSimpArgs false
section
variable {m q : Nat} {es : List E3}
variable (hl : es.length ≤ 1000000000) (hg : yaw ((m + 1 : Nat) : Int) es = 0) (hc : yc2 ((m + 1 : Nat) : Int) es = true) (hm : m ≤ 5) (hq : q ≤ m) {d : List Int} (hdl : d.length = m + 1) (hd : ∀ j, j < m + 1 → -1000 ≤ gi d j ∧ gi d j ≤ 1000)
include hl hg hc hm hq hdl hd
end
end Go.Proofs.YthgjegpemgokoaaGreat

/- What the reference of ranks comes to. -/
namespace Go.Proofs.YthgjegpemgokoaaGreat
open Go Go.Proofs.Tryz
set_option linter.unusedVariables false
set_option linter.unusedSimpArgs false
section
variable {N : Nat} {es : List E3} {d : List Int}
end
theorem yeK {n : Int} {es : List E3} {d : List Int} (hg : yaH n es 0 d = 0) (hD : DOk n.toNat es d) : ∃ N : Nat, n = ((N + 1 : Nat) : Int) ∧ d.length = N + 1 := by
  have h1 := yfx (n := n.toNat) (q := 0) (es := es) (d := d) (by rw [show ((n.toNat : Nat) : Int) = n from by have := ycL hg; omega]; exact hg)
  have h2 := ycL hg
  exact ⟨n.toNat - 1, by omega, by have := h1.2.2.2.2.2.2.1; omega⟩
structure FewOk (n : Int) (es : List E3) (d : List Int) (most : Int) : Prop where
  s : smallF n es 5 7 = true
  l : d.length ≤ 100
  g : yaH n es 0 d = 0 → lowF n d = true ∧ dg d ≤ most
theorem FewOk.el {n : Int} {es : List E3} {d : List Int} {most : Int} (h : FewOk n es d most) : es.length ≤ 40 := (of_decide_eq_true h.s).1
theorem gok_of {n : Int} {es : List E3} (hs : smallF n es 5 7 = true) (hg : yaw n es = 0) (hc : yc2 n es = true) : GOk n.toNat es := by
  obtain ⟨h1, h2⟩ := of_decide_eq_true hs
  have h3 := h2 hg
  have hn : 1 ≤ n ∧ n ≤ 12 := by unfold yaw at hg; split at hg; · assumption
                                 · omega
  have e : ((n.toNat : Nat) : Int) = n := by omega
  exact ⟨by rw [e]; exact hg, by rw [e]; exact hc, h1, by omega, by omega, by omega⟩
theorem FewOk.dok {n : Int} {es : List E3} {d : List Int} {most : Int} (h : FewOk n es d most) (hm : most ≤ 5) (hg : yaH n es 0 d = 0) : DOk n.toNat es d := by
  obtain ⟨h1, h2⟩ := h.g hg
  have h3 := ycL hg
  have e : ((n.toNat : Nat) : Int) = n := by omega
  have h4 := yfx (n := n.toNat) (q := 0) (es := es) (d := d) (by rw [e]; exact hg)
  have h5 := (ygx.1 h1).2 (by have := h4.2.2.2.2.2.2.2; rwa [e] at this)
  have h6 := h4.2.2.2.2.2.2.1
  exact ⟨gok_of h.s (by have := h4.2.2.2.1; rwa [e] at this) (by have := h4.2.2.2.2.1; rwa [e] at this), fun v hv => by have := h5 v (by omega); omega, by omega⟩
end Go.Proofs.YthgjegpemgokoaaGreat

/- The examples of the chapter on ranks come out right; what the law's small functions come to. -/
namespace Go.Proofs.YthgjegpemgokoaaGreat
open Go Go.Proofs.Tryz
set_option linter.unusedVariables false
set_option linter.unusedSimpArgs false
def tri : List E3 := [(0, 1, 1), (0, 2, 1), (1, 2, 1)]
def k4 : List E3 := [(0, 1, 1), (0, 2, 1), (0, 3, 1), (1, 2, 1), (1, 3, 1), (2, 3, 1)]
theorem tri_ok : GOk 3 tri := ⟨by decide, by decide, by decide, by decide, by decide, by decide⟩
end Go.Proofs.YthgjegpemgokoaaGreat

/- A graph is looked through whatever its length: a right one has few edges. -/
namespace Go.Proofs.YthgjegpemgokoaaGreat
open Go Go.Proofs.Tryz
set_option linter.unusedVariables false
set_option linter.unusedSimpArgs false
end Go.Proofs.YthgjegpemgokoaaGreat
