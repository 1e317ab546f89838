/- Texts laid together: PRr, SpA, Bor, Gen, SpB, SpC, SpT, SpE, SpG, L34, SpW, SpP, SpF, L36, SpN, RkM, RkF, RkG, RkW, RkR, L38, Lr38. -/
import Derived.Test.YtmeoemmemjipdaaGreatK6
/- Pure forms of functions, made by program (pf.py), each with the proof that the code does so. -/
namespace Go.Proofs.YtmeoemmemjipdaaGreat
open Go Go.RowKit Go.Shelf Go.Proofs.Tryz
set_option linter.unusedVariables false
set_option maxRecDepth 100000
set_option maxHeartbeats 1000000
def yjp (g : Int) (g2 : List E3) (vertices : List Int) (R : Int → Prop) : Prop :=
yci g g2 (fun r =>
((r = 0 →
(∃ I2 : Nat → Int → Prop, (∃ m0, I2 m0 0) ∧ ∀ m2 v, I2 m2 v → 
((v < ((vertices.length : Nat) : Int) →
((0 ≤ v ∧ v < ((vertices.length : Nat) : Int)) ∧
yb1 g (gi vertices v.toNat) (fun r2 =>
((r2 = true →
(In64 (v + 1) ∧
∃ m3, m3 < m2 ∧ I2 m3 (v + 1))) ∧
(¬ (r2 = true) →
R 2))))) ∧
(¬ (v < ((vertices.length : Nat) : Int)) →
R 0)))) ∧
(¬ (r = 0) →
R r)))
theorem pok_graph_at {O : Nat → Prop} {w : World} {g g2 vertices Ag lg cg Avertices lvertices cvertices} {R : Int → Prop} (h : yjp g g2 vertices R) (hO : ∀ k, O k → k < w.heap.size) (hA0 : (FP.sl c3 Ag lg cg g2).P O w) (hA1 : (FP.sl cI Avertices lvertices cvertices vertices).P O w) :
    Calls Tryz.prog 143 #[(.agg #[(ii g), (.slice Ag lg cg)]), (.slice Avertices lvertices cvertices)] w fun e w' => ∃ r3, e = .returned (ii r3) ∧ Sep w no O w' (rl []) ∧ R r3 := by
  unfold yjp at h; have hS : Sep w no O w (rl [Res.ro (FP.sl c3 Ag lg cg g2), Res.ro (FP.sl cI Avertices lvertices cvertices vertices)]) := Sep.startl hO [(FP.sl c3 Ag lg cg g2), (FP.sl cI Avertices lvertices cvertices vertices)] ⟨hA0, hA1, trivial⟩; refine yar (l := [(.agg #[(ii g), (.slice Ag lg cg)]), (.slice Avertices lvertices cvertices)]) func143 rfl ntmps143 (Nat.le_of_ble_eq_true rfl) (zs (zn (ybq (v := (.agg #[(ii g), (.slice Ag lg cg)])) rfl ?_))); intro g3 w2 hN; replace hS : Sep w no O w2 (stl _ 2 (Res.box 24 g3 [(ii g), (.slice Ag lg cg)])) := hS.new 2 rfl hN; clear hN; refine zb (zq (za (ii 0)) (yaa (yac (zs (zq (yas (vs := [(ii g), (.slice Ag lg cg)]) rfl underlying24 rfl yaq ⟨Row.cell (hS.bx 2 rfl) (i := 0) rfl, Row.cell (hS.bx 2 rfl) (i := 1) rfl, trivial⟩) (zn (yan rfl (am1 rfl) enter_78 ((yfE h (yaF _) (hS.rdr 0 rfl)).mono ?_)))))))); rintro _ w3 ⟨r, rfl, hC, h⟩; replace hS := hS.pur hC.pure; clear hC; refine ⟨_, rfl, ?_⟩; refine zb (zq (za (ii r)) (yaa (zs (zq (zm (ii r)) (zq zN (yaa ?_)))))); by_cases hp : r = 0
  · replace h := h.1 hp; refine ze hp (yaf (yac (zs (zq (zm (.slice Avertices lvertices cvertices)) (zq (yaO (n := vertices.length) rfl underlying25 (yaL (hS.rdr 1 rfl))) (zq (zm (ii 0)) (yaa (yak ?_)))))))); obtain ⟨I2, ⟨m0, h0⟩, hr⟩ := h; refine yaw (fun m E ds w' => ∃ v, I2 m v ∧ ds = [] ∧ E 2 = (Value.pointer (some (⟨g3, 0, none⟩ : Addr))) ∧ E 13 = (Value.slice Avertices lvertices cvertices) ∧ E 14 = (ii ((vertices.length : Nat) : Int)) ∧ E 15 = (ii v) ∧ Sep w no O w' (rl [Res.box 24 g3 [(ii g), (.slice Ag lg cg)], Res.ro (FP.sl c3 Ag lg cg g2), Res.ro (FP.sl cI Avertices lvertices cvertices vertices)])) m0 ⟨_, h0, rfl, rfl, rfl, rfl, rfl, (hS.sel [2, 0, 1] (by decide))⟩ ?_; clear h0 hS; rintro m2 E ds w4 ⟨v, h, rfl, hE2, hE13, hE14, hE15, hS⟩ again; replace h := hr m2 v h; clear hr; refine zs (zq (yaJ hE15 hE14) (yaa (yac ?_))); by_cases hp2 : v < ((vertices.length : Nat) : Int)
    · replace h := h.1 hp2; refine zc hp2 (yaf (yac (yak (zs ?_)))); obtain ⟨hx, h⟩ := h; refine zq (yao hE13 hE15 underlying25 yag (yaG (hS.rdr 2 rfl) hx)) (zq (yah (v := (ii (gi vertices v.toNat))) rfl underlying3 rfl (rd_1 (hS.rdr 2 rfl) hx (fun q => yaI q) rfl)) ?_); refine zq (za (ii (gi vertices v.toNat))) (yaa (zs (zq (yam hE2 underlying24 rfl yag) (zq (zl underlying3 (Row.cell (hS.bx 0 rfl) (i := 0) rfl)) (zq (zm (ii (gi vertices v.toNat))) (zn (yan rfl (am2 rfl rfl) yj5 ((yfl h (yaF _)).mono ?_)))))))); rintro _ w5 ⟨r2, rfl, hC, h⟩; replace hS := hS.pur hC.pure; clear hC; refine ⟨_, rfl, ?_⟩; refine zb (zq (ydA rfl) (yaa ?_)); by_cases hp3 : r2 = true
      · replace h := h.1 hp3; refine yay (congrArg Value.bool (congrArg Bool.not hp3)) (yaf (yai (zr ?_))); obtain ⟨hi, h⟩ := h; refine zq (yaC hE15 rfl hi) (zq (zm (ii (v + 1))) (yaa ?_)); obtain ⟨mq, hlt, h⟩ := h; exact again mq _ _ _ ⟨_, h, rfl, hE2, hE13, hE14, rfl, (hS.sel [0, 1, 2] (by decide))⟩ hlt
      · replace h := h.2 hp3; exact yau (congrArg Value.bool (congrArg Bool.not (Bool.eq_false_iff.2 hp3))) (zs (zq (za (ii 2)) (yaa (yal rfl rfl ⟨_, rfl, (hS.sel [] (by decide)), h⟩))))
    · replace h := h.2 hp2; exact zd hp2 (yav rfl (zs (zq (za (ii 0)) (yaa (yal rfl rfl ⟨_, rfl, (hS.sel [] (by decide)), h⟩)))))
  · replace h := h.2 hp; exact zf hp (zs (zq (zm (ii r)) (zq (za (ii r)) (yaa (yal rfl rfl ⟨_, rfl, (hS.sel [] (by decide)), h⟩)))))
def yi5 (g : Int) (g2 : List E3) (v : Int) (R : Int → Int → Prop) : Prop :=
yjp g g2 ([v]) (fun r =>
((r = 0 →
(∃ I2 : Nat → Int → Int → Prop, (∃ m0, I2 m0 0 0) ∧ ∀ m2 n v2, I2 m2 n v2 → 
((v2 < ((g2.length : Nat) : Int) →
((0 ≤ v2 ∧ v2 < ((g2.length : Nat) : Int)) ∧
((((ge g2 v2.toNat).1) = ((ge g2 v2.toNat).2.1) →
(In64 (v2 + 1) ∧
∃ m3, m3 < m2 ∧ I2 m3 n (v2 + 1))) ∧
(¬ (((ge g2 v2.toNat).1) = ((ge g2 v2.toNat).2.1)) →
((((ge g2 v2.toNat).1) = v →
(In64 (n + ((ge g2 v2.toNat).2.2)) ∧
(In64 (v2 + 1) ∧
∃ m4, m4 < m2 ∧ I2 m4 (n + ((ge g2 v2.toNat).2.2)) (v2 + 1)))) ∧
(¬ (((ge g2 v2.toNat).1) = v) →
((((ge g2 v2.toNat).2.1) = v →
(In64 (n + ((ge g2 v2.toNat).2.2)) ∧
(In64 (v2 + 1) ∧
∃ m5, m5 < m2 ∧ I2 m5 (n + ((ge g2 v2.toNat).2.2)) (v2 + 1)))) ∧
(¬ (((ge g2 v2.toNat).2.1) = v) →
(In64 (v2 + 1) ∧
∃ m6, m6 < m2 ∧ I2 m6 n (v2 + 1)))))))))) ∧
(¬ (v2 < ((g2.length : Nat) : Int)) →
R n 0)))) ∧
(¬ (r = 0) →
R 0 r)))
theorem yjP {O : Nat → Prop} {w : World} {g g2 v Ag lg cg} {R : Int → Int → Prop} (h : yi5 g g2 v R) (hO : ∀ k, O k → k < w.heap.size) (hA0 : (FP.sl c3 Ag lg cg g2).P O w) :
    Calls Tryz.prog 104 #[(.agg #[(ii g), (.slice Ag lg cg)]), (ii v)] w fun e w' => ∃ r2 r3, e = .returned (.tuple #[(ii r2), (ii r3)]) ∧ Sep w no O w' (rl []) ∧ R r2 r3 := by
  unfold yi5 at h; have hS : Sep w no O w (rl [Res.ro (FP.sl c3 Ag lg cg g2)]) := Sep.startl hO [(FP.sl c3 Ag lg cg g2)] ⟨hA0, trivial⟩; refine yar (l := [(.agg #[(ii g), (.slice Ag lg cg)]), (ii v)]) func104 rfl ntmps104 (Nat.le_of_ble_eq_true rfl) (zs (zn (ybq (v := (.agg #[(ii g), (.slice Ag lg cg)])) rfl ?_))); intro g3 w2 hN; replace hS : Sep w no O w2 (stl _ 1 (Res.box 24 g3 [(ii g), (.slice Ag lg cg)])) := hS.new 1 rfl hN; clear hN; refine zb (zq (za (ii 0)) (zq (za (ii 0)) (yaa (yac (zs (zq (yas (vs := [(ii g), (.slice Ag lg cg)]) rfl underlying24 rfl yaq ⟨Row.cell (hS.bx 1 rfl) (i := 0) rfl, Row.cell (hS.bx 1 rfl) (i := 1) rfl, trivial⟩) (zq (zm (ii v)) (zn (yaD (l := [(0, (ii v))]) (cells := [(ii v)]) (bp1 rfl) underlying25 yag rfl rfl ?_))))))))); intro g4 w3 hN; replace hS := hS.litf (n := 1) 2 rfl (fI .i64) hN ([v] : List Int) rfl (by decide) rfl; clear hN; refine zb (zn (yan rfl (am2 rfl rfl) enter_143 ((pok_graph_at h (yaF _) (hS.rdr 0 rfl) (hS.rdo 2 rfl)).mono ?_))); rintro _ w4 ⟨r, rfl, hC, h⟩; replace hS := hS.pur hC.pure; clear hC; refine ⟨_, rfl, ?_⟩; refine zb (zq (za (ii r)) (yaa (zs (zq (zm (ii r)) (zq zN (yaa ?_)))))); by_cases hp : r = 0
  · replace h := h.1 hp; refine ze hp (yaf (zs (zq (za (ii 0)) (yaa (yac (zs (zq (yam rfl underlying24 rfl ycH) (zq (zl underlying22 (Row.cell (hS.bx 1 rfl) (i := 1) rfl)) (zq (yaO (n := g2.length) rfl underlying22 (yaL (hS.rdr 0 rfl))) (zq (zm (ii 0)) (yaa (yak ?_)))))))))))); obtain ⟨I2, ⟨m0, h0⟩, hr⟩ := h; refine yaw (fun m E ds w' => ∃ n v2, I2 m n v2 ∧ ds = [] ∧ E 1 = (ii v) ∧ E 7 = (ii n) ∧ E 18 = (Value.slice Ag lg cg) ∧ E 19 = (ii ((g2.length : Nat) : Int)) ∧ E 20 = (ii v2) ∧ Sep w no O w' (rl [Res.ro (FP.sl c3 Ag lg cg g2)])) m0 ⟨_, _, h0, rfl, rfl, rfl, rfl, rfl, rfl, (hS.sel [0] (by decide))⟩ ?_; clear h0 hS; rintro m2 E ds w5 ⟨n, v2, h, rfl, hE1, hE7, hE18, hE19, hE20, hS⟩ again; replace h := hr m2 n v2 h; clear hr; refine zs (zq (yaJ hE20 hE19) (yaa (yac ?_))); by_cases hp2 : v2 < ((g2.length : Nat) : Int)
    · replace h := h.1 hp2; refine zc hp2 (yaf (yac (yak (zs ?_)))); obtain ⟨hx, h⟩ := h; refine zq (yao hE18 hE20 underlying22 yaP (yaG (hS.rdr 0 rfl) hx)) (zq (yas (vs := [(ii ((ge g2 v2.toNat).1)), (ii ((ge g2 v2.toNat).2.1)), (ii ((ge g2 v2.toNat).2.2))]) rfl underlying76 rfl yaP (rd_fs (hS.rdr 0 rfl) hx (fun q => ydj q))) ?_); refine zn (ya7 yaP ?_); intro g5 w6 hN; replace hS : Sep w no O w6 (stl _ 1 (Res.box 76 g5 [(ii 0), (ii 0), (ii 0)])) := hS.new 1 rfl hN; clear hN; refine zb (zo (ybF (b := g5) (o := 0) (cells := #[(ii ((ge g2 v2.toNat).1)), (ii ((ge g2 v2.toNat).2.1)), (ii ((ge g2 v2.toNat).2.2))]) rfl rfl yaP rfl rfl (ybc (hS.bx 1 rfl) (Nat.le_of_ble_eq_true rfl)) ?_)); intro w7 e1; replace hS := hS.bstn 1 rfl 0 [(ii ((ge g2 v2.toNat).1)), (ii ((ge g2 v2.toNat).2.1)), (ii ((ge g2 v2.toNat).2.2))] e1; clear e1; refine zb (yaa (zs (zq (yam rfl underlying76 rfl yag) (zq (zl underlying3 (Row.cell (hS.bx 1 rfl) (i := 0) rfl)) (zq (yam rfl underlying76 rfl yag) (zq (zl underlying3 (Row.cell (hS.bx 1 rfl) (i := 1) rfl)) (zq zN (zq (zm (.bool (!(decide (((ge g2 v2.toNat).1) = ((ge g2 v2.toNat).2.1)))))) ?_)))))))); by_cases hp3 : ((ge g2 v2.toNat).1) = ((ge g2 v2.toNat).2.1)
      · replace h := h.1 hp3; refine rl_p (yad rfl (yaj rfl (congrArg Value.bool (congrArg Bool.not (decide_eq_true hp3)))) rfl) rfl (rl_p (yad rfl (yaj rfl (congrArg Value.bool (congrArg Bool.not (decide_eq_true hp3)))) rfl) rfl (rl_p (yad rfl (yaj rfl (congrArg Value.bool (congrArg Bool.not (decide_eq_true hp3)))) rfl) rfl (rl_p (yad rfl (yaj rfl (congrArg Value.bool (congrArg Bool.not (decide_eq_true hp3)))) rfl) rfl (rl_p (yad rfl (yaj rfl (congrArg Value.bool (congrArg Bool.not (decide_eq_true hp3)))) rfl) rfl (rl_p (ycl rfl rfl) rfl (rl_p (ycl rfl rfl) rfl (rl_p (ycl rfl rfl) rfl (rl_p (ycl rfl rfl) rfl (rl_p (yad rfl (yaj rfl (congrArg Value.bool (congrArg Bool.not (decide_eq_true hp3)))) rfl) rfl (zq (yaz (v := (.bool (false))) (congrArg Value.bool (congrArg Bool.not (decide_eq_true hp3))) rfl) (yaa (yay rfl (yaf (yai (zr ?_))))))))))))))); obtain ⟨hi, h⟩ := h; refine zq (yaC hE20 rfl hi) (zq (zm (ii (v2 + 1))) (yaa ?_)); obtain ⟨mq, hlt, h⟩ := h; exact again mq _ _ _ ⟨_, _, h, rfl, hE1, hE7, hE18, hE19, rfl, (hS.sel [0] (by decide))⟩ hlt
      · replace h := h.2 hp3; refine rl_q (yae rfl (yaj rfl (congrArg Value.bool (congrArg Bool.not (decide_eq_false hp3))))) rfl rfl (yam rfl underlying76 rfl yag) (rl_q (yae rfl (yaj rfl (congrArg Value.bool (congrArg Bool.not (decide_eq_false hp3))))) rfl rfl (zl underlying3 (Row.cell (hS.bx 1 rfl) (i := 0) rfl)) (rl_q (yae rfl (yaj rfl (congrArg Value.bool (congrArg Bool.not (decide_eq_false hp3))))) rfl rfl (yab hE1) (rl_q (yae rfl (yaj rfl (congrArg Value.bool (congrArg Bool.not (decide_eq_false hp3))))) rfl rfl zE (rl_q (yae rfl (yaj rfl (congrArg Value.bool (congrArg Bool.not (decide_eq_false hp3))))) rfl rfl (zm (.bool (decide (((ge g2 v2.toNat).1) = v)))) ?_)))); by_cases hp4 : ((ge g2 v2.toNat).1) = v
        · replace h := h.1 hp4; refine rl_p (yad rfl (yaj rfl (congrArg Value.bool (decide_eq_true hp4))) rfl) rfl (rl_p (yad rfl (yaj rfl (congrArg Value.bool (decide_eq_true hp4))) rfl) rfl (rl_p (yad rfl (yaj rfl (congrArg Value.bool (decide_eq_true hp4))) rfl) rfl (rl_p (yad rfl (yaj rfl (congrArg Value.bool (decide_eq_true hp4))) rfl) rfl (rl_q (yae rfl (yaj rfl (congrArg Value.bool (congrArg Bool.not (decide_eq_false hp3))))) rfl rfl (yaB (v := (.bool (true))) (congrArg Value.bool (decide_eq_true hp4)) rfl) (zq (yaB (v := (.bool (true))) (congrArg Value.bool (congrArg Bool.not (decide_eq_false hp3))) rfl) (yaa (yau rfl (zr (zq (yab hE7) (zq (yam rfl underlying76 rfl yag) (zq (zl underlying3 (Row.cell (hS.bx 1 rfl) (i := 2) rfl)) ?_))))))))))); obtain ⟨hi2, h⟩ := h; refine zq (zA hi2) (zq (za (ii (n + ((ge g2 v2.toNat).2.2)))) (yaa (yai (zr ?_)))); obtain ⟨hi3, h⟩ := h; refine zq (yaC hE20 rfl hi3) (zq (zm (ii (v2 + 1))) (yaa ?_)); obtain ⟨mq, hlt, h⟩ := h; exact again mq _ _ _ ⟨_, _, h, rfl, hE1, rfl, hE18, hE19, rfl, (hS.sel [0] (by decide))⟩ hlt
        · replace h := h.2 hp4; refine rl_q (yae rfl (yaj rfl (congrArg Value.bool (decide_eq_false hp4)))) rfl rfl (yam rfl underlying76 rfl yag) (rl_q (yae rfl (yaj rfl (congrArg Value.bool (decide_eq_false hp4)))) rfl rfl (zl underlying3 (Row.cell (hS.bx 1 rfl) (i := 1) rfl)) (rl_q (yae rfl (yaj rfl (congrArg Value.bool (decide_eq_false hp4)))) rfl rfl (yab hE1) (rl_q (yae rfl (yaj rfl (congrArg Value.bool (decide_eq_false hp4)))) rfl rfl zE (rl_q (yae rfl (yaj rfl (congrArg Value.bool (congrArg Bool.not (decide_eq_false hp3))))) rfl rfl (yaz (v := (.bool (decide (((ge g2 v2.toNat).2.1) = v)))) (congrArg Value.bool (decide_eq_false hp4)) rfl) (zq (yaB (v := (.bool (decide (((ge g2 v2.toNat).2.1) = v)))) (congrArg Value.bool (congrArg Bool.not (decide_eq_false hp3))) rfl) (yaa ?_)))))); by_cases hp5 : ((ge g2 v2.toNat).2.1) = v
          · replace h := h.1 hp5; refine zc hp5 (zr (zq (yab hE7) (zq (yam rfl underlying76 rfl yag) (zq (zl underlying3 (Row.cell (hS.bx 1 rfl) (i := 2) rfl)) ?_)))); obtain ⟨hi4, h⟩ := h; refine zq (zA hi4) (zq (za (ii (n + ((ge g2 v2.toNat).2.2)))) (yaa (yai (zr ?_)))); obtain ⟨hi5, h⟩ := h; refine zq (yaC hE20 rfl hi5) (zq (zm (ii (v2 + 1))) (yaa ?_)); obtain ⟨mq, hlt, h⟩ := h; exact again mq _ _ _ ⟨_, _, h, rfl, hE1, rfl, hE18, hE19, rfl, (hS.sel [0] (by decide))⟩ hlt
          · replace h := h.2 hp5; refine zd hp5 (yaf (yai (zr ?_))); obtain ⟨hi6, h⟩ := h; refine zq (yaC hE20 rfl hi6) (zq (zm (ii (v2 + 1))) (yaa ?_)); obtain ⟨mq, hlt, h⟩ := h; exact again mq _ _ _ ⟨_, _, h, rfl, hE1, hE7, hE18, hE19, rfl, (hS.sel [0] (by decide))⟩ hlt
    · replace h := h.2 hp2; exact zd hp2 (yav rfl (zs (zq (yab hE7) (zq (za (ii n)) (zq (za (ii 0)) (yaa (yaR rfl rfl rfl ⟨_, _, rfl, (hS.sel [] (by decide)), h⟩)))))))
  · replace h := h.2 hp; exact zf hp (zs (zq (zm (ii r)) (zq (za (ii 0)) (zq (za (ii r)) (yaa (yaR rfl rfl rfl ⟨_, _, rfl, (hS.sel [] (by decide)), h⟩))))))
def yi2 (g : Int) (g2 : List E3) (R : Int → Prop) : Prop :=
ydK g g2 (fun r r2 =>
((r2 = 0 →
((r = true →
R 0) ∧
(¬ (r = true) →
R 13))) ∧
(¬ (r2 = 0) →
R r2)))
theorem yjs {O : Nat → Prop} {w : World} {g g2 Ag lg cg} {R : Int → Prop} (h : yi2 g g2 R) (hO : ∀ k, O k → k < w.heap.size) (hA0 : (FP.sl c3 Ag lg cg g2).P O w) :
    Calls Tryz.prog 58 #[(.agg #[(ii g), (.slice Ag lg cg)])] w fun e w' => ∃ r3, e = .returned (ii r3) ∧ Sep w no O w' (rl []) ∧ R r3 := by
  unfold yi2 at h; have hS : Sep w no O w (rl [Res.ro (FP.sl c3 Ag lg cg g2)]) := Sep.startl hO [(FP.sl c3 Ag lg cg g2)] ⟨hA0, trivial⟩; refine yar (l := [(.agg #[(ii g), (.slice Ag lg cg)])]) func58 rfl ntmps58 (Nat.le_of_ble_eq_true rfl) (zs (zn (ybq (v := (.agg #[(ii g), (.slice Ag lg cg)])) rfl ?_))); intro g3 w2 hN; replace hS : Sep w no O w2 (stl _ 1 (Res.box 24 g3 [(ii g), (.slice Ag lg cg)])) := hS.new 1 rfl hN; clear hN; refine zb (zq (za (ii 0)) (yaa (zs (zq (yas (vs := [(ii g), (.slice Ag lg cg)]) rfl underlying24 rfl yaq ⟨Row.cell (hS.bx 1 rfl) (i := 0) rfl, Row.cell (hS.bx 1 rfl) (i := 1) rfl, trivial⟩) (zn (yan rfl (am1 rfl) enter_87 ((yfu h (yaF _) (hS.rdr 0 rfl)).mono ?_))))))); rintro _ w3 ⟨r, r2, rfl, hC, h⟩; replace hS := hS.pur hC.pure; clear hC; refine ⟨_, rfl, ?_⟩; refine zb (zq (zm (.tuple #[(.bool (r)), (ii r2)])) (zq (zx (.bool (r))) (zq (zx (ii r2)) (zq (za (.bool (r))) (zq (za (ii r2)) (yaa (yac (yak (zs (zq (zm (ii r2)) (zq zN (zq (za (.bool (!(decide (r2 = 0))))) (yaa ?_))))))))))))); by_cases hp : r2 = 0
  · replace h := h.1 hp; refine ze hp (zs (zq (zm (.bool (r))) (zq (ydA rfl) (zq (za (.bool (!(r)))) (yaa ?_))))); by_cases hp2 : r = true
    · replace h := h.1 hp2; exact yay (congrArg Value.bool (congrArg Bool.not hp2)) (yaf (yai (zs (zq (za (ii 0)) (yaa (yal rfl rfl ⟨_, rfl, (hS.sel [] (by decide)), h⟩))))))
    · replace h := h.2 hp2; exact yau (congrArg Value.bool (congrArg Bool.not (Bool.eq_false_iff.2 hp2))) (zs (zq (za (ii 13)) (yaa (yal rfl rfl ⟨_, rfl, (hS.sel [] (by decide)), h⟩))))
  · replace h := h.2 hp; exact zf hp (zs (zq (zm (ii r2)) (zq (za (ii r2)) (yaa (yal rfl rfl ⟨_, rfl, (hS.sel [] (by decide)), h⟩)))))
def yi4 (g : Int) (g2 : List E3) (R : Prop) : Prop :=
R
theorem yjn {O : Nat → Prop} {w : World} {g g2 Ag lg cg} {R : Prop} (h : yi4 g g2 R) (hO : ∀ k, O k → k < w.heap.size) (hA0 : (FP.sl c3 Ag lg cg g2).P O w) :
    Calls Tryz.prog 101 #[(.agg #[(ii g), (.slice Ag lg cg)])] w fun e w' => ∃ gr, e = .returned (.func (Fn.func 142) #[] #[(.pointer (some (⟨gr, 0, none⟩ : Addr)))]) ∧ Sep w no O w' (rl [Res.box 24 gr [(ii g), (.slice Ag lg cg)]]) ∧ R := by
  unfold yi4 at h; have hS : Sep w no O w (rl [Res.ro (FP.sl c3 Ag lg cg g2)]) := Sep.startl hO [(FP.sl c3 Ag lg cg g2)] ⟨hA0, trivial⟩; refine yar (l := [(.agg #[(ii g), (.slice Ag lg cg)])]) func101 rfl ntmps101 (Nat.le_of_ble_eq_true rfl) (zs (zn (ybq (v := (.agg #[(ii g), (.slice Ag lg cg)])) rfl ?_))); intro g3 w2 hN; replace hS : Sep w no O w2 (stl _ 1 (Res.box 24 g3 [(ii g), (.slice Ag lg cg)])) := hS.new 1 rfl hN; clear hN; exact zb (zq (za Value.nilFunc) (yaa (zs (zq (v_func (am0) (am1 rfl)) (zq (za (.func (Fn.func 142) #[] #[(.pointer (some (⟨g3, 0, none⟩ : Addr)))])) (yaa (yal rfl rfl ⟨_, rfl, (hS.sel [1] (by decide)), h⟩)))))))
def yi1 (cap : Int) (cap2 : List E3) (Pr R : List (Int × Int) → Prop) : Prop :=
(∃ I2 : Nat → (List (Int × Int)) → Int → Prop, (∃ m0, I2 m0 ([]) 0) ∧ ∀ m2 pre2 v, I2 m2 pre2 v → 
((v < cap →
yi5 cap cap2 v (fun r r2 =>
(Pr (pre2 ++ [(v, r)]) ∧
((In64 (v + 1) ∧
∃ m3, m3 < m2 ∧ I2 m3 (pre2 ++ [(v, r)]) (v + 1)) ∧
True)))) ∧
(¬ (v < cap) →
R pre2)))
theorem yjh {w : World} {T0 G0 : BS} {cap cap2 gc Acap lcap ccap} {Pr R : List (Int × Int) → Prop} (h : yi1 cap cap2 Pr R) (hS0 : Sep w G0 T0 w (rl [Res.box 24 gc [(Value.int .i64 cap), (Value.slice Acap lcap ccap)], Res.ro (FP.sl c3 Acap lcap ccap cap2)])) :
    yiE Tryz.prog 142 #[(.pointer (some (⟨gc, 0, none⟩ : Addr)))] (fun (x : Int × Int) => #[(ii x.1), (ii x.2)]) (fun _ => FP.tt) Pr R T0 G0 w := by
  unfold yi1 at h; intro l J Jx T1 w1 hs hJ hp hT; obtain ⟨G, hJ, hS⟩ := gen_start hS0 hs hJ hp hT; clear hS0 hp hT; refine yh0 (l := [(.func (.yield l) #[] #[]), (.pointer (some (⟨gc, 0, none⟩ : Addr)))]) func142 rfl ntmps142 (Nat.le_of_ble_eq_true rfl) rfl (zs (zq (yam rfl underlying24 rfl yag) (zq (zl underlying3 (Row.cell (hS.bx 0 rfl) (i := 0) rfl)) (zq (zm (ii 0)) (yaa (yak ?_)))))); obtain ⟨I2, ⟨m0, h0⟩, hr⟩ := h; refine yaw (fun m E ds w' => ∃ pre2 v, ∃ T2 : BS, ∃ G2 : BS, ∃ wb2 : World, I2 m pre2 v ∧ ds = [] ∧ E 0 = (Value.func (.yield l) #[] #[]) ∧ E 1 = (Value.pointer (some (⟨gc, 0, none⟩ : Addr))) ∧ E 7 = (ii cap) ∧ E 8 = (ii v) ∧ J T2 G2 pre2 wb2 ∧ Sep wb2 G2 T2 w' (rl [Res.box 24 gc [(ii cap), (.slice Acap lcap ccap)], Res.ro (FP.sl c3 Acap lcap ccap cap2)])) m0 ⟨_, _, _, _, _, h0, rfl, rfl, rfl, rfl, rfl, hJ, (hS.sel [0, 1] (by decide))⟩ ?_; clear h0 hS hJ; rintro m2 E ds w2 ⟨pre2, v, T2, G2, wb2, h, rfl, hE0, hE1, hE7, hE8, hJ, hS⟩ again; replace h := hr m2 pre2 v h; clear hr; refine zs (zq (yaJ hE8 hE7) (yaa (yac ?_))); by_cases hp : v < cap
  · replace h := h.1 hp; refine zc hp (yaf (yac (yak (zs (zq (yab hE8) (zq (za (ii v)) (yaa (zs (zq (yas (vs := [(ii cap), (.slice Acap lcap ccap)]) hE1 underlying24 rfl yaq ⟨Row.cell (hS.bx 0 rfl) (i := 0) rfl, Row.cell (hS.bx 0 rfl) (i := 1) rfl, trivial⟩) (zq (zm (ii v)) (zn (yan rfl (am2 rfl rfl) enter_104 ((yjP h (yaF _) (hS.rdr 1 rfl)).mono ?_))))))))))))); rintro _ w3 ⟨r, r2, rfl, hC, h⟩; replace hS := hS.pur hC.pure; clear hC; refine ⟨_, rfl, ?_⟩; refine zb (zq (zm (.tuple #[(ii r), (ii r2)])) (zq (zx (ii r)) (zq (zx (ii r2)) (zq (za (ii r)) (zq (za (ii r2)) (yaa (zs (zq (yab hE0) (zq (zm (ii v)) (zq (zm (ii r)) ?_)))))))))); obtain ⟨hPr, hyes, hno⟩ := h; refine zn (n_yield (m := 1) rfl (am2 rfl rfl) (gen_yield (x := (v, r)) hs hJ hS hPr trivial ?_ ?_))
    · clear hno hJ hS; have h := hyes; clear hyes; intro T3 w4 hJ hS; generalize OwnB _ = G3 at hJ hS; refine ⟨_, rfl, ?_⟩; refine zb (zq (ydA rfl) (yaa (yay (congrArg Value.bool (congrArg Bool.not rfl)) (yaf (yai (zr ?_)))))); obtain ⟨hi, h⟩ := h; refine zq (yaC hE8 rfl hi) (zq (zm (ii (v + 1))) (yaa ?_)); obtain ⟨mq, hlt, h⟩ := h; exact again mq _ _ _ ⟨_, _, _, _, _, h, rfl, hE0, hE1, hE7, rfl, hJ, (hS.sel [0, 1] (by decide))⟩ hlt
    · clear hyes hJ hS; have h := hno; clear hno; intro T4 w5 hJ hS; generalize OwnB _ = G4 at hJ hS; refine ⟨_, rfl, ?_⟩; exact zb (zq (ydA rfl) (yaa (yau (congrArg Value.bool (congrArg Bool.not rfl)) (wt_ret0 rfl ⟨⟨_, rfl⟩, gen_endx hs hJ hS⟩))))
  · replace h := h.2 hp; exact zd hp (yav rfl (yiA rfl ⟨⟨_, rfl⟩, gen_end hs hJ hS h⟩))
def yiX (g : Int) (g2 : List E3) (R : (List Int) → Prop) : Prop :=
((0 ≤ g ∧ g ≤ 1000000) ∧
yi4 g g2 ((∃ Pr Rr : List (Int × Int) → Prop, yi1 g g2 Pr Rr ∧
(∃ I2 : List (Int × Int) → (List Int) → Prop, I2 [] (List.replicate g.toNat (0 : Int)) ∧
(∀ pre y y2 k, I2 pre k → Pr (pre ++ [(y, y2)]) →
(In64 (y2 - 2) ∧
((0 ≤ y ∧ y < ((k.length : Nat) : Int)) ∧
I2 (pre ++ [(y, y2)]) (k.set y.toNat (y2 - 2))))) ∧
(∀ ys k, I2 ys k → Rr ys →
R k)))))
theorem yjj {O : Nat → Prop} {w : World} {g g2 Ag lg cg} {R : (List Int) → Prop} (h : yiX g g2 R) (hO : ∀ k, O k → k < w.heap.size) (hA0 : (FP.sl c3 Ag lg cg g2).P O w) :
    Calls Tryz.prog 59 #[(.agg #[(ii g), (.slice Ag lg cg)])] w fun e w' => ∃ r Ar lr cr, e = .returned (.slice Ar lr cr) ∧ Sep w no O w' (rl [Res.own cI 3 Ar lr cr r]) ∧ R r := by
  unfold yiX at h; have hS : Sep w no O w (rl [Res.ro (FP.sl c3 Ag lg cg g2)]) := Sep.startl hO [(FP.sl c3 Ag lg cg g2)] ⟨hA0, trivial⟩; refine yfL (l := [(.agg #[(ii g), (.slice Ag lg cg)])]) func59 rfl ntmps59 (Nat.le_of_ble_eq_true rfl) (zs (zn (ybq (v := (.agg #[(ii g), (.slice Ag lg cg)])) rfl ?_))); intro g3 w2 hN; replace hS : Sep w no O w2 (stl _ 1 (Res.box 24 g3 [(ii g), (.slice Ag lg cg)])) := hS.new 1 rfl hN; clear hN; refine zb (zq (za (.slice none 0 0)) (yaa (zs (zq (yam rfl underlying24 rfl yag) (zq (zl underlying3 (Row.cell (hS.bx 1 rfl) (i := 0) rfl)) ?_))))); obtain ⟨hx, h⟩ := h; refine zn (ygJ rfl rfl underlying26 yag (by decide) rfl hx ?_); intro g4 w3 hN; replace hS := hS.made 2 rfl cI (ii 0) (0 : Int) (fun _ _ => rfl) hN (by omega); clear hN; refine zb (zn (ya7 ybu ?_)); intro g5 w4 hN; replace hS : Sep w no O w4 (stl _ 3 (Res.box 26 g5 [(.slice none 0 0)])) := hS.new 3 rfl hN; clear hN; refine zb (zo (zt (.slice (some ⟨g4, 0, none⟩) g.toNat g.toNat) ybu (hS.bwr 3 rfl (j := 0) rfl) ?_)); intro w5 e1; replace hS := hS.bst 3 rfl 0 (.slice (some ⟨g4, 0, none⟩) g.toNat g.toNat) e1; clear e1; refine zb (yaa (yac (zs (zq (yas (vs := [(ii g), (.slice Ag lg cg)]) rfl underlying24 rfl yaq ⟨Row.cell (hS.bx 1 rfl) (i := 0) rfl, Row.cell (hS.bx 1 rfl) (i := 1) rfl, trivial⟩) (zn (yan rfl (am1 rfl) enter_101 ((yjn h hS.blt (hS.ro 0 rfl)).mono ?_))))))); rintro _ w6 ⟨gc, rfl, hC, h⟩; replace hS := hS.call1 hC 4 0 rfl; clear hC; refine ⟨_, rfl, ?_⟩; refine zb (yaa (yak ?_)); obtain ⟨Pr, Rr, hgp, I2, h0, hb, h⟩ := h; refine wt_iterS hS [3, 2] [4, 0] (by decide) (by decide) ⟨.inl (by decide), .inr rfl, trivial⟩ rfl enter_142 (val := (fun (x : Int × Int) => #[(ii x.1), (ii x.2)])) (pass := (fun _ => FP.tt)) (Pr := Pr) (R := Rr) (fun _ => rfl) rfl (fun pr LL => ∃ k, I2 pr k ∧ LL = [Res.box 26 g5 [(.slice (some ⟨g4, 0, none⟩) g.toNat g.toNat)], Res.own cI 3 (some ⟨g4, 0, none⟩) g.toNat g.toNat k]) (fun _ _ _ => False) ⟨_, h0, rfl⟩ (fun T G hG => yjh hgp hG) ?_ ?_ (fun _ _ _ _ _ hx => hx.elim)
  · clear h h0 hS hgp; rintro ll rdy busy S O2 pre ⟨y, y2⟩ w7 _ ⟨k, hI, rfl⟩ hPr hpass hS; have h := hb pre y y2 k hI hPr; clear hb hI hPr; clear hpass; refine yac (yaT (yaY ll) (zq (za (ii y)) (yaa (yaT (yaY ll) (zq (za (ii y2)) (yaa (yfH fun a ra => ⟨rfl, _, _, ra, hS, ⟨2, rfl⟩, ?_⟩))))))); intro w9 hw; replace hS := hS.flip 2 rfl busy hw; clear hw ra a; refine yak (yaT (yaY ll) (zq (zl underlying26 (Row.cell (hS.bx 0 rfl) (i := 0) rfl)) (zq (zm (ii y)) (zq (zm (ii y2)) ?_)))); obtain ⟨hi, h⟩ := h; refine zq (zS hi) ?_; obtain ⟨hx2, h⟩ := h; refine zq (zi underlying26 yag (yaG (hS.rdo 1 rfl) hx2)) (zo (zt (ii (y2 - 2)) yag (hS.wr 1 rfl rfl hx2) ?_)); intro w10 e1; replace hS := hS.st 1 rfl rfl hx2 (x := y2 - 2) rfl e1; clear e1; exact zb (yaa (yai (yfH fun a r => ⟨_, ⟨_, h, rfl⟩, (hS.sel [0, 1, 2] (by decide))⟩)))
  · clear hb h0 hS hgp; rintro D ys w8 _ hRr ⟨k, hI, rfl⟩ hS; replace h := h ys k hI hRr; clear hI hRr; exact yai (zs (zq (zl underlying26 (Row.cell (hS.bx 0 rfl) (i := 0) rfl)) (zq (za (.slice (some ⟨g4, 0, none⟩) g.toNat g.toNat)) (yaa (wt_retk1 (rs := [D]) (by simp) (hS.marked 2 rfl) rfl rfl (fun w9 hk => ⟨_, _, _, _, rfl, (hS.unmark [2] [1] (by decide) (by decide) (yfi 2 rfl) hk), h⟩))))))
def yiU (g : Int) (g2 : List E3) (R : (List Int) → Int → Prop) : Prop :=
yi2 g g2 (fun r =>
((r = 0 →
yiX g g2 (fun r2 =>
R r2 0)) ∧
(¬ (r = 0) →
R ([]) r)))
theorem yi9 {O : Nat → Prop} {w : World} {g g2 Ag lg cg} {R : (List Int) → Int → Prop} (h : yiU g g2 R) (hO : ∀ k, O k → k < w.heap.size) (hA0 : (FP.sl c3 Ag lg cg g2).P O w) :
    Calls Tryz.prog 21 #[(.agg #[(ii g), (.slice Ag lg cg)])] w fun e w' => ∃ r3 r4 Ar2 lr2 cr2, e = .returned (.tuple #[(.slice Ar2 lr2 cr2), (ii r4)]) ∧ Sep w no O w' (rl [Res.own cI 3 Ar2 lr2 cr2 r3]) ∧ R r3 r4 := by
  unfold yiU at h; have hS : Sep w no O w (rl [Res.ro (FP.sl c3 Ag lg cg g2)]) := Sep.startl hO [(FP.sl c3 Ag lg cg g2)] ⟨hA0, trivial⟩; refine yar (l := [(.agg #[(ii g), (.slice Ag lg cg)])]) func21 rfl ntmps21 (Nat.le_of_ble_eq_true rfl) (zs (zn (ybq (v := (.agg #[(ii g), (.slice Ag lg cg)])) rfl ?_))); intro g3 w2 hN; replace hS : Sep w no O w2 (stl _ 1 (Res.box 24 g3 [(ii g), (.slice Ag lg cg)])) := hS.new 1 rfl hN; clear hN; refine zb (zq (za (.slice none 0 0)) (zq (za (ii 0)) (yaa (yac (zs (zq (yas (vs := [(ii g), (.slice Ag lg cg)]) rfl underlying24 rfl yaq ⟨Row.cell (hS.bx 1 rfl) (i := 0) rfl, Row.cell (hS.bx 1 rfl) (i := 1) rfl, trivial⟩) (zn (yan rfl (am1 rfl) enter_58 ((yjs h (yaF _) (hS.rdr 0 rfl)).mono ?_))))))))); rintro _ w3 ⟨r, rfl, hC, h⟩; replace hS := hS.pur hC.pure; clear hC; refine ⟨_, rfl, ?_⟩; refine zb (zq (za (ii r)) (yaa (zs (zq (zm (ii r)) (zq zN (yaa ?_)))))); by_cases hp : r = 0
  · replace h := h.1 hp; refine ze hp (yaf (zs (zq (yas (vs := [(ii g), (.slice Ag lg cg)]) rfl underlying24 rfl yaq ⟨Row.cell (hS.bx 1 rfl) (i := 0) rfl, Row.cell (hS.bx 1 rfl) (i := 1) rfl, trivial⟩) (zn (yan rfl (am1 rfl) enter_59 ((yjj h (yaF _) (hS.rdr 0 rfl)).mono ?_)))))); rintro _ w4 ⟨r2, Ar, lr, cr, rfl, hC, h⟩; replace hS := hS.call1 (hC.widen (ydi (ya1 (fI .i64) _ _ _ _ _) yeb) hS.blt) 2 0 rfl; clear hC; refine ⟨_, rfl, ?_⟩; exact zb (zq (za (.slice Ar lr cr)) (zq (za (ii 0)) (yaa (yaR rfl rfl rfl ⟨_, _, _, _, _, rfl, (hS.sel [2] (by decide)), h⟩))))
  · replace h := h.2 hp; refine zf hp (zs (zq (zm (ii r)) (zq (za (.slice none 0 0)) (zq (za (ii r)) (yaa ?_))))); replace hS := hS.nil 2 rfl cI 3; exact yaR rfl rfl rfl ⟨_, _, _, _, _, rfl, (hS.sel [2] (by decide)), h⟩
def yiV (g : Int) (g2 : List E3) (d : List Int) (R : (List Int) → Int → Prop) : Prop :=
yiU g g2 (fun r r2 =>
((r2 = 0 →
ych d g (fun r3 =>
((r3 = 0 →
yjc r d (fun r4 r5 =>
R r4 r5)) ∧
(¬ (r3 = 0) →
R ([]) r3)))) ∧
(¬ (r2 = 0) →
R ([]) r2)))
theorem yjb {O : Nat → Prop} {w : World} {g g2 d Ag lg cg Ad ld cd} {R : (List Int) → Int → Prop} (h : yiV g g2 d R) (hO : ∀ k, O k → k < w.heap.size) (hA0 : (FP.sl c3 Ag lg cg g2).P O w) (hA1 : (FP.sl cI Ad ld cd d).P O w) :
    Calls Tryz.prog 34 #[(.agg #[(ii g), (.slice Ag lg cg)]), (.slice Ad ld cd)] w fun e w' => ∃ r6 r7 Ar3 lr3 cr3, e = .returned (.tuple #[(.slice Ar3 lr3 cr3), (ii r7)]) ∧ Sep w no O w' (rl [Res.own cI 3 Ar3 lr3 cr3 r6]) ∧ R r6 r7 := by
  unfold yiV at h; have hS : Sep w no O w (rl [Res.ro (FP.sl c3 Ag lg cg g2), Res.ro (FP.sl cI Ad ld cd d)]) := Sep.startl hO [(FP.sl c3 Ag lg cg g2), (FP.sl cI Ad ld cd d)] ⟨hA0, hA1, trivial⟩; refine yar (l := [(.agg #[(ii g), (.slice Ag lg cg)]), (.slice Ad ld cd)]) func34 rfl ntmps34 (Nat.le_of_ble_eq_true rfl) (zs (zn (ybq (v := (.agg #[(ii g), (.slice Ag lg cg)])) rfl ?_))); intro g3 w2 hN; replace hS : Sep w no O w2 (stl _ 2 (Res.box 24 g3 [(ii g), (.slice Ag lg cg)])) := hS.new 2 rfl hN; clear hN; refine zb (zq (za (.slice none 0 0)) (zq (za (ii 0)) (yaa (zs (zq (yas (vs := [(ii g), (.slice Ag lg cg)]) rfl underlying24 rfl yaq ⟨Row.cell (hS.bx 2 rfl) (i := 0) rfl, Row.cell (hS.bx 2 rfl) (i := 1) rfl, trivial⟩) (zn (yan rfl (am1 rfl) enter_21 ((yi9 h (yaF _) (hS.rdr 0 rfl)).mono ?_)))))))); rintro _ w3 ⟨r, r2, Ar, lr, cr, rfl, hC, h⟩; replace hS := hS.call1 (hC.widen (ydi (ya1 (fI .i64) _ _ _ _ _) yeb) hS.blt) 3 0 rfl; clear hC; refine ⟨_, rfl, ?_⟩; refine zb (zq (zm (.tuple #[(.slice Ar lr cr), (ii r2)])) (zq (zx (.slice Ar lr cr)) (zq (zx (ii r2)) (zq (za (.slice Ar lr cr)) (zq (za (ii r2)) (yaa (yac (zs (zq (zm (ii r2)) (zq zN (yaa ?_))))))))))); by_cases hp : r2 = 0
  · replace h := h.1 hp; refine ze hp (yaf (yac (zs (zq (zm (.slice Ad ld cd)) (zq (yam rfl underlying24 rfl yag) (zq (zl underlying3 (Row.cell (hS.bx 2 rfl) (i := 0) rfl)) (zn (yan rfl (am2 rfl rfl) yhN ((yfR h (yaF _) (hS.rdr 1 rfl)).mono ?_))))))))); rintro _ w4 ⟨r3, rfl, hC, h⟩; replace hS := hS.pur hC.pure; clear hC; refine ⟨_, rfl, ?_⟩; refine zb (zq (za (ii r3)) (yaa (zs (zq (zm (ii r3)) (zq zN (yaa ?_)))))); by_cases hp2 : r3 = 0
    · replace h := h.1 hp2; refine ze hp2 (yaf (zs (zq (zm (.slice Ar lr cr)) (zq (zm (.slice Ad ld cd)) (zn (yan rfl (am2 rfl rfl) enter_22 ((yjM h (yaF _) (hS.rdo 3 rfl) (hS.rdr 1 rfl)).mono ?_))))))); rintro _ w5 ⟨r4, r5, Ar2, lr2, cr2, rfl, hC, h⟩; replace hS := hS.call1 (hC.widen (ydi (ya1 (fI .i64) _ _ _ _ _) yeb) hS.blt) 4 0 rfl; clear hC; refine ⟨_, rfl, ?_⟩; exact zb (zq (zx (.slice Ar2 lr2 cr2)) (zq (zx (ii r5)) (zq (za (.slice Ar2 lr2 cr2)) (zq (za (ii r5)) (yaa (yaR rfl rfl rfl ⟨_, _, _, _, _, rfl, (hS.sel [4] (by decide)), h⟩))))))
    · replace h := h.2 hp2; refine zf hp2 (zs (zq (zm (ii r3)) (zq (za (.slice none 0 0)) (zq (za (ii r3)) (yaa ?_))))); replace hS := hS.nil 4 rfl cI 3; exact yaR rfl rfl rfl ⟨_, _, _, _, _, rfl, (hS.sel [4] (by decide)), h⟩
  · replace h := h.2 hp; refine zf hp (zs (zq (zm (ii r2)) (zq (za (.slice none 0 0)) (zq (za (ii r2)) (yaa ?_))))); replace hS := hS.nil 4 rfl cI 3; exact yaR rfl rfl rfl ⟨_, _, _, _, _, rfl, (hS.sel [4] (by decide)), h⟩
def yi0 (g : Int) (g2 : List E3) (d : List Int) (R : Int → Int → Prop) : Prop :=
yiV g g2 d (fun r r2 =>
((r2 = 0 →
ya5 g g2 d (fun r3 r4 =>
((r4 = 0 →
ya5 g g2 r (fun r5 r6 =>
((r6 = 0 →
(In64 (r3 - r5) ∧
R (r3 - r5) 0)) ∧
(¬ (r6 = 0) →
R 0 r6)))) ∧
(¬ (r4 = 0) →
R 0 r4)))) ∧
(¬ (r2 = 0) →
R 0 r2)))
theorem yjo {O : Nat → Prop} {w : World} {g g2 d Ag lg cg Ad ld cd} {R : Int → Int → Prop} (h : yi0 g g2 d R) (hO : ∀ k, O k → k < w.heap.size) (hA0 : (FP.sl c3 Ag lg cg g2).P O w) (hA1 : (FP.sl cI Ad ld cd d).P O w) :
    Calls Tryz.prog 76 #[(.agg #[(ii g), (.slice Ag lg cg)]), (.slice Ad ld cd)] w fun e w' => ∃ r7 r8, e = .returned (.tuple #[(ii r7), (ii r8)]) ∧ Sep w no O w' (rl []) ∧ R r7 r8 := by
  unfold yi0 at h; have hS : Sep w no O w (rl [Res.ro (FP.sl c3 Ag lg cg g2), Res.ro (FP.sl cI Ad ld cd d)]) := Sep.startl hO [(FP.sl c3 Ag lg cg g2), (FP.sl cI Ad ld cd d)] ⟨hA0, hA1, trivial⟩; refine yar (l := [(.agg #[(ii g), (.slice Ag lg cg)]), (.slice Ad ld cd)]) func76 rfl ntmps76 (Nat.le_of_ble_eq_true rfl) (zs (zn (ybq (v := (.agg #[(ii g), (.slice Ag lg cg)])) rfl ?_))); intro g3 w2 hN; replace hS : Sep w no O w2 (stl _ 2 (Res.box 24 g3 [(ii g), (.slice Ag lg cg)])) := hS.new 2 rfl hN; clear hN; refine zb (zq (za (ii 0)) (zq (za (ii 0)) (yaa (zs (zq (yas (vs := [(ii g), (.slice Ag lg cg)]) rfl underlying24 rfl yaq ⟨Row.cell (hS.bx 2 rfl) (i := 0) rfl, Row.cell (hS.bx 2 rfl) (i := 1) rfl, trivial⟩) (zq (zm (.slice Ad ld cd)) (zn (yan rfl (am2 rfl rfl) enter_34 ((yjb h (yaF _) (hS.rdr 0 rfl) (hS.rdr 1 rfl)).mono ?_))))))))); rintro _ w3 ⟨r, r2, Ar, lr, cr, rfl, hC, h⟩; replace hS := hS.call1 (hC.widen (ydi (ya1 (fI .i64) _ _ _ _ _) yeb) hS.blt) 3 0 rfl; clear hC; refine ⟨_, rfl, ?_⟩; refine zb (zq (zm (.tuple #[(.slice Ar lr cr), (ii r2)])) (zq (zx (.slice Ar lr cr)) (zq (zx (ii r2)) (zq (za (.slice Ar lr cr)) (zq (za (ii r2)) (yaa (yac (zs (zq (zm (ii r2)) (zq zN (yaa ?_))))))))))); by_cases hp : r2 = 0
  · replace h := h.1 hp; refine ze hp (yaf (zs (zq (yas (vs := [(ii g), (.slice Ag lg cg)]) rfl underlying24 rfl yaq ⟨Row.cell (hS.bx 2 rfl) (i := 0) rfl, Row.cell (hS.bx 2 rfl) (i := 1) rfl, trivial⟩) (zq (zm (.slice Ad ld cd)) (zn (yan rfl (am2 rfl rfl) yjw ((ye1 h (yaF _) (hS.rdr 0 rfl) (hS.rdr 1 rfl)).mono ?_))))))); rintro _ w4 ⟨r3, r4, rfl, hC, h⟩; replace hS := hS.pur hC.pure; clear hC; refine ⟨_, rfl, ?_⟩; refine zb (zq (zm (.tuple #[(ii r3), (ii r4)])) (zq (zx (ii r3)) (zq (zx (ii r4)) (zq (za (ii r3)) (zq (za (ii r4)) (yaa (yac (zs (zq (zm (ii r4)) (zq zN (yaa ?_))))))))))); by_cases hp2 : r4 = 0
    · replace h := h.1 hp2; refine ze hp2 (yaf (zs (zq (yas (vs := [(ii g), (.slice Ag lg cg)]) rfl underlying24 rfl yaq ⟨Row.cell (hS.bx 2 rfl) (i := 0) rfl, Row.cell (hS.bx 2 rfl) (i := 1) rfl, trivial⟩) (zq (zm (.slice Ar lr cr)) (zn (yan rfl (am2 rfl rfl) yjw ((ye1 h (yaF _) (hS.rdr 0 rfl) (hS.rdo 3 rfl)).mono ?_))))))); rintro _ w5 ⟨r5, r6, rfl, hC, h⟩; replace hS := hS.pur hC.pure; clear hC; refine ⟨_, rfl, ?_⟩; refine zb (zq (zm (.tuple #[(ii r5), (ii r6)])) (zq (zx (ii r5)) (zq (zx (ii r6)) (zq (za (ii r5)) (zq (za (ii r6)) (yaa (yac (zs (zq (zm (ii r6)) (zq zN (yaa ?_))))))))))); by_cases hp3 : r6 = 0
      · replace h := h.1 hp3; refine ze hp3 (yaf (zs (zq (zm (ii r3)) (zq (zm (ii r5)) ?_)))); obtain ⟨hi, h⟩ := h; exact zq (zS hi) (zq (za (ii (r3 - r5))) (zq (za (ii 0)) (yaa (yaR rfl rfl rfl ⟨_, _, rfl, (hS.sel [] (by decide)), h⟩))))
      · replace h := h.2 hp3; exact zf hp3 (zs (zq (zm (ii r6)) (zq (za (ii 0)) (zq (za (ii r6)) (yaa (yaR rfl rfl rfl ⟨_, _, rfl, (hS.sel [] (by decide)), h⟩))))))
    · replace h := h.2 hp2; exact zf hp2 (zs (zq (zm (ii r4)) (zq (za (ii 0)) (zq (za (ii r4)) (yaa (yaR rfl rfl rfl ⟨_, _, rfl, (hS.sel [] (by decide)), h⟩))))))
  · replace h := h.2 hp; exact zf hp (zs (zq (zm (ii r2)) (zq (za (ii 0)) (zq (za (ii r2)) (yaa (yaR rfl rfl rfl ⟨_, _, rfl, (hS.sel [] (by decide)), h⟩))))))
def yjH (g : Int) (g2 : List E3) (R : (List Int) → Prop) : Prop :=
(∃ I2 : Nat → (List Int) → Int → Prop, (∃ m0, I2 m0 ([]) 0) ∧ ∀ m2 out v, I2 m2 out v → 
((v < g →
ycj g g2 v (fun r =>
(In64 (r - 2) ∧
(out.length + 1 ≤ 1000000000 ∧
(In64 (v + 1) ∧
∃ m3, m3 < m2 ∧ I2 m3 (out ++ [r - 2]) (v + 1)))))) ∧
(¬ (v < g) →
R out)))
theorem pok_r39_K {O : Nat → Prop} {w : World} {g g2 Ag lg cg} {R : (List Int) → Prop} (h : yjH g g2 R) (hO : ∀ k, O k → k < w.heap.size) (hA0 : (FP.sl c3 Ag lg cg g2).P O w) :
    Calls Tryz.prog 150 #[(.agg #[(ii g), (.slice Ag lg cg)])] w fun e w' => ∃ r2 Ar lr cr, e = .returned (.slice Ar lr cr) ∧ Sep w no O w' (rl [Res.own cI 3 Ar lr cr r2]) ∧ R r2 := by
  unfold yjH at h; have hS : Sep w no O w (rl [Res.ro (FP.sl c3 Ag lg cg g2)]) := Sep.startl hO [(FP.sl c3 Ag lg cg g2)] ⟨hA0, trivial⟩; refine yar (l := [(.agg #[(ii g), (.slice Ag lg cg)])]) func150 rfl ntmps150 (Nat.le_of_ble_eq_true rfl) (zs (zn (ybq (v := (.agg #[(ii g), (.slice Ag lg cg)])) rfl ?_))); intro g3 w2 hN; replace hS : Sep w no O w2 (stl _ 1 (Res.box 24 g3 [(ii g), (.slice Ag lg cg)])) := hS.new 1 rfl hN; clear hN; refine zb (zq (za (.slice none 0 0)) (yaa (zs (zq (za (.slice none 0 0)) (yaa (yac (zs (zq (za (ii 0)) (yaa (yak ?_)))))))))); replace hS := hS.nil 2 rfl cI 3; obtain ⟨I2, ⟨m0, h0⟩, hr⟩ := h; refine yaw (fun m E ds w' => ∃ out v Aout lout cout, I2 m out v ∧ ds = [] ∧ E 1 = (Value.pointer (some (⟨g3, 0, none⟩ : Addr))) ∧ E 3 = (Value.slice Aout lout cout) ∧ E 4 = (ii v) ∧ Sep w no O w' (rl [Res.own cI 3 Aout lout cout out, Res.box 24 g3 [(ii g), (.slice Ag lg cg)], Res.ro (FP.sl c3 Ag lg cg g2)])) m0 ⟨_, _, _, _, _, h0, rfl, rfl, rfl, rfl, (hS.sel [2, 1, 0] (by decide))⟩ ?_; clear h0 hS; rintro m2 E ds w3 ⟨out, v, Aout, lout, cout, h, rfl, hE1, hE3, hE4, hS⟩ again; replace h := hr m2 out v h; clear hr; refine yac (zs (zq (yab hE4) (zq (yam hE1 underlying24 rfl yag) (zq (zl underlying3 (Row.cell (hS.bx 1 rfl) (i := 0) rfl)) (zq zL (yaa ?_)))))); by_cases hp : v < g
  · replace h := h.1 hp; refine zc hp (yaf (yac (yak (zr (zq (yab hE3) (zq (yas (vs := [(ii g), (.slice Ag lg cg)]) hE1 underlying24 rfl yaq ⟨Row.cell (hS.bx 1 rfl) (i := 0) rfl, Row.cell (hS.bx 1 rfl) (i := 1) rfl, trivial⟩) (zq (yab hE4) (zn (yan rfl (am2 rfl rfl) enter_164 ((yfT h (yaF _) (hS.rdr 2 rfl)).mono ?_)))))))))); rintro _ w4 ⟨r, rfl, hC, h⟩; replace hS := hS.pur hC.pure; clear hC; refine ⟨_, rfl, ?_⟩; refine zb ?_; obtain ⟨hi, h⟩ := h; refine zq (zS hi) (zn (yaD (l := [(0, (ii (r - 2)))]) (cells := [(ii (r - 2))]) (bp1 rfl) underlying25 yag rfl rfl ?_)); intro g4 w5 hN; replace hS := hS.litf (n := 1) 3 rfl (fI .i64) hN ([r - 2] : List Int) rfl (by decide) rfl; clear hN; refine zb ?_; obtain ⟨hx, h⟩ := h; refine zn (yee (c := cI) rfl rfl underlying25 underlying25 yag rfl rfl (by decide) hS 0 rfl (hS.yo 3 rfl) hx ?_); clear hS; intro A c w6 hS; refine zb (zq (za (.slice A (lout + 1) c)) (yaa (yai (zr (zq (yab hE4) ?_))))); obtain ⟨hi2, h⟩ := h; refine zq (zA hi2) (zq (za (ii (v + 1))) (yaa ?_)); obtain ⟨mq, hlt, h⟩ := h; exact again mq _ _ _ ⟨_, _, _, _, _, h, rfl, hE1, rfl, rfl, (hS.sel [0, 1, 2] (by decide))⟩ hlt
  · replace h := h.2 hp; exact zd hp (yav rfl (zs (zq (yab hE3) (zq (za (.slice Aout lout cout)) (yaa (yal rfl rfl ⟨_, _, _, _, rfl, (hS.sel [0] (by decide)), h⟩))))))
def yjr (g : Int) (g2 : List E3) (d : List Int) (R : (List Int) → Prop) : Prop :=
yjH g g2 (fun r =>
ycm r d (-1) (fun r2 =>
R r2))
theorem pok_r39_Rest {O : Nat → Prop} {w : World} {g g2 d Ag lg cg Ad ld cd} {R : (List Int) → Prop} (h : yjr g g2 d R) (hO : ∀ k, O k → k < w.heap.size) (hA0 : (FP.sl c3 Ag lg cg g2).P O w) (hA1 : (FP.sl cI Ad ld cd d).P O w) :
    Calls Tryz.prog 116 #[(.agg #[(ii g), (.slice Ag lg cg)]), (.slice Ad ld cd)] w fun e w' => ∃ r3 Ar3 lr3 cr3, e = .returned (.slice Ar3 lr3 cr3) ∧ Sep w no O w' (rl [Res.own cI 3 Ar3 lr3 cr3 r3]) ∧ R r3 := by
  unfold yjr at h; have hS : Sep w no O w (rl [Res.ro (FP.sl c3 Ag lg cg g2), Res.ro (FP.sl cI Ad ld cd d)]) := Sep.startl hO [(FP.sl c3 Ag lg cg g2), (FP.sl cI Ad ld cd d)] ⟨hA0, hA1, trivial⟩; refine yar (l := [(.agg #[(ii g), (.slice Ag lg cg)]), (.slice Ad ld cd)]) func116 rfl ntmps116 (Nat.le_of_ble_eq_true rfl) (zs (zn (ybq (v := (.agg #[(ii g), (.slice Ag lg cg)])) rfl ?_))); intro g3 w2 hN; replace hS : Sep w no O w2 (stl _ 2 (Res.box 24 g3 [(ii g), (.slice Ag lg cg)])) := hS.new 2 rfl hN; clear hN; refine zb (zq (za (.slice none 0 0)) (yaa (zs (zq (yas (vs := [(ii g), (.slice Ag lg cg)]) rfl underlying24 rfl yaq ⟨Row.cell (hS.bx 2 rfl) (i := 0) rfl, Row.cell (hS.bx 2 rfl) (i := 1) rfl, trivial⟩) (zn (yan rfl (am1 rfl) enter_150 ((pok_r39_K h (yaF _) (hS.rdr 0 rfl)).mono ?_))))))); rintro _ w3 ⟨r, Ar, lr, cr, rfl, hC, h⟩; replace hS := hS.call1 (hC.widen (ydi (ya1 (fI .i64) _ _ _ _ _) yeb) hS.blt) 3 0 rfl; clear hC; refine ⟨_, rfl, ?_⟩; refine zb (zq (zm (.slice Ad ld cd)) (zn (yan rfl (am3 rfl rfl rfl) yhS ((yek h (yaF _) (hS.rdo 3 rfl) (hS.rdr 1 rfl)).mono ?_)))); rintro _ w4 ⟨r2, Ar2, lr2, cr2, rfl, hC, h⟩; replace hS := hS.call1 (hC.widen (ydi (ya1 (fI .i64) _ _ _ _ _) yeb) hS.blt) 4 0 rfl; clear hC; refine ⟨_, rfl, ?_⟩; exact zb (zq (za (.slice Ar2 lr2 cr2)) (yaa (yal rfl rfl ⟨_, _, _, _, rfl, (hS.sel [4] (by decide)), h⟩)))
def yjl (g : Int) (g2 : List E3) (d : List Int) (most : Int) (R : Bool → Prop) : Prop :=
yeF g g2 d most (fun r =>
((r = true →
ycW g g2 d (fun r2 =>
((r2 = 0 →
yjr g g2 d (fun r3 =>
yeF g g2 r3 most (fun r4 =>
R r4))) ∧
(¬ (r2 = 0) →
R true)))) ∧
(¬ (r = true) →
R false)))
theorem pok_r39_Few {O : Nat → Prop} {w : World} {g g2 d most Ag lg cg Ad ld cd} {R : Bool → Prop} (h : yjl g g2 d most R) (hO : ∀ k, O k → k < w.heap.size) (hA0 : (FP.sl c3 Ag lg cg g2).P O w) (hA1 : (FP.sl cI Ad ld cd d).P O w) :
    Calls Tryz.prog 75 #[(.agg #[(ii g), (.slice Ag lg cg)]), (.slice Ad ld cd), (ii most)] w fun e w' => ∃ r5, e = .returned (.bool (r5)) ∧ Sep w no O w' (rl []) ∧ R r5 := by
  unfold yjl at h; have hS : Sep w no O w (rl [Res.ro (FP.sl c3 Ag lg cg g2), Res.ro (FP.sl cI Ad ld cd d)]) := Sep.startl hO [(FP.sl c3 Ag lg cg g2), (FP.sl cI Ad ld cd d)] ⟨hA0, hA1, trivial⟩; refine yar (l := [(.agg #[(ii g), (.slice Ag lg cg)]), (.slice Ad ld cd), (ii most)]) func75 rfl ntmps75 (Nat.le_of_ble_eq_true rfl) (zs (zn (ybq (v := (.agg #[(ii g), (.slice Ag lg cg)])) rfl ?_))); intro g3 w2 hN; replace hS : Sep w no O w2 (stl _ 2 (Res.box 24 g3 [(ii g), (.slice Ag lg cg)])) := hS.new 2 rfl hN; clear hN; refine zb (zq (za (.bool (false))) (yaa (yac (zs (zq (yas (vs := [(ii g), (.slice Ag lg cg)]) rfl underlying24 rfl yaq ⟨Row.cell (hS.bx 2 rfl) (i := 0) rfl, Row.cell (hS.bx 2 rfl) (i := 1) rfl, trivial⟩) (zq (zm (.slice Ad ld cd)) (zq (zm (ii most)) (zn (yan rfl (am3 rfl rfl rfl) enter_7 ((yj8 h (yaF _) (hS.rdr 0 rfl) (hS.rdr 1 rfl)).mono ?_)))))))))); rintro _ w3 ⟨r, rfl, hC, h⟩; replace hS := hS.pur hC.pure; clear hC; refine ⟨_, rfl, ?_⟩; refine zb (zq (ydA rfl) (yaa ?_)); by_cases hp : r = true
  · replace h := h.1 hp; refine yay (congrArg Value.bool (congrArg Bool.not hp)) (yaf (yac (ya3 [0, 1, 2, 3, 4, 5, 6, 7, 9, 8, 10, 11, 12] (fun i => match i with | 8 => [5, 9] | _ => []) ya8 (by kernel_rfl) (by kernel_rfl) ?_))); replace hS := hS.drew; refine zp (yas (vs := [(ii g), (.slice Ag lg cg)]) rfl underlying24 rfl yaq ⟨Row.cell (hS.bx 2 rfl) (i := 0) rfl, Row.cell (hS.bx 2 rfl) (i := 1) rfl, trivial⟩) (zp (zm (.slice Ad ld cd)) (rp_n rfl rfl rfl rfl (yan rfl (am2 rfl rfl) enter_40 ((ygx h (yaF _) (hS.rdr 0 rfl) (hS.rdr 1 rfl)).mono ?_)))); rintro _ w4 ⟨r2, rfl, hC, h⟩; replace hS := hS.pur hC.pure; clear hC; refine ⟨_, rfl, ?_⟩; refine zb (zp zN (zp (zm (.bool (!(decide (r2 = 0))))) ?_)); by_cases hp2 : r2 = 0
    · replace h := h.1 hp2; refine rp_q (yae rfl (yaj rfl (congrArg Value.bool (congrArg Bool.not (decide_eq_true hp2))))) rfl rfl (yas (vs := [(ii g), (.slice Ag lg cg)]) rfl underlying24 rfl yaq ⟨Row.cell (hS.bx 2 rfl) (i := 0) rfl, Row.cell (hS.bx 2 rfl) (i := 1) rfl, trivial⟩) (rp_q (yae rfl (yaj rfl (congrArg Value.bool (congrArg Bool.not (decide_eq_true hp2))))) rfl rfl (yas (vs := [(ii g), (.slice Ag lg cg)]) rfl underlying24 rfl yaq ⟨Row.cell (hS.bx 2 rfl) (i := 0) rfl, Row.cell (hS.bx 2 rfl) (i := 1) rfl, trivial⟩) (rp_q (yae rfl (yaj rfl (congrArg Value.bool (congrArg Bool.not (decide_eq_true hp2))))) rfl rfl (zm (.slice Ad ld cd)) (rp_q (yae rfl (yaj rfl (congrArg Value.bool (congrArg Bool.not (decide_eq_true hp2))))) rfl rfl (zm (ii most)) (rp_n (yae rfl (yaj rfl (congrArg Value.bool (congrArg Bool.not (decide_eq_true hp2))))) rfl rfl rfl (yan rfl (am2 rfl rfl) enter_116 ((pok_r39_Rest h (yaF _) (hS.rdr 0 rfl) (hS.rdr 1 rfl)).mono ?_)))))); rintro _ w5 ⟨r3, Ar, lr, cr, rfl, hC, h⟩; replace hS := hS.call1 (hC.widen (ydi (ya1 (fI .i64) _ _ _ _ _) yeb) hS.blt) 3 0 rfl; clear hC; refine ⟨_, rfl, ?_⟩; refine ⟨⟨fun _ => (zm (ii most)), ⟨fun hh => Bool.noConfusion (show false = true from hh), ⟨fun hh => Bool.noConfusion (show false = true from hh), ⟨fun _ => (yas (vs := [(ii g), (.slice Ag lg cg)]) rfl underlying24 rfl yaq ⟨Row.cell (hS.bx 2 rfl) (i := 0) rfl, Row.cell (hS.bx 2 rfl) (i := 1) rfl, trivial⟩), ⟨fun hh => Bool.noConfusion (show false = true from hh), ⟨fun hh => Bool.noConfusion (show false = true from hh), ⟨fun hh => Bool.noConfusion (show false = true from hh), ⟨fun hh => Bool.noConfusion (show false = true from hh), trivial⟩⟩⟩⟩⟩⟩⟩⟩, ?_⟩; refine rp_n (yae rfl (yaj rfl (congrArg Value.bool (congrArg Bool.not (decide_eq_true hp2))))) rfl rfl rfl (yan rfl (am3 rfl rfl rfl) enter_7 ((yj8 h (yaF _) (hS.rdr 0 rfl) (hS.rdo 3 rfl)).mono ?_)); rintro _ w6 ⟨r4, rfl, hC, h⟩; replace hS := hS.pur hC.pure; clear hC; refine ⟨_, rfl, ?_⟩; exact zb (zp (yaz (v := (.bool (r4))) (congrArg Value.bool (congrArg Bool.not (decide_eq_true hp2))) rfl) (zp (za (.bool (r4))) (ybl (yal rfl rfl ⟨_, rfl, (hS.sel [] (by decide)), h⟩))))
    · replace h := h.2 hp2; exact rp_p (yad rfl (yaj rfl (congrArg Value.bool (congrArg Bool.not (decide_eq_false hp2)))) rfl) rfl (rp_p (yad rfl (yaj rfl (congrArg Value.bool (congrArg Bool.not (decide_eq_false hp2)))) rfl) rfl (rp_p (yad rfl (yaj rfl (congrArg Value.bool (congrArg Bool.not (decide_eq_false hp2)))) rfl) rfl (rp_p (yad rfl (yaj rfl (congrArg Value.bool (congrArg Bool.not (decide_eq_false hp2)))) rfl) rfl (rp_p (yad rfl (yaj rfl (congrArg Value.bool (congrArg Bool.not (decide_eq_false hp2)))) rfl) rfl (rp_p (yad rfl (yaj rfl (congrArg Value.bool (congrArg Bool.not (decide_eq_false hp2)))) rfl) rfl (zp (yaB (v := (.bool (true))) (congrArg Value.bool (congrArg Bool.not (decide_eq_false hp2))) rfl) (zp (za (.bool (true))) (ybl (yal rfl rfl ⟨_, rfl, (hS.sel [] (by decide)), h⟩)))))))))
  · replace h := h.2 hp; exact yau (congrArg Value.bool (congrArg Bool.not (Bool.eq_false_iff.2 hp))) (zs (zq (za (.bool (false))) (yaa (yal rfl rfl ⟨_, rfl, (hS.sel [] (by decide)), h⟩))))
def yi3 (g : Int) (g2 : List E3) (d : List Int) (most : Int) (R : Bool → Prop) : Prop :=
yc7 g g2 (fun r =>
((r = 0 →
ycP d g (fun r2 =>
((r2 = 0 →
yjl g g2 d most (fun r3 =>
R r3)) ∧
(¬ (r2 = 0) →
R false)))) ∧
(¬ (r = 0) →
R false)))
theorem yjk {O : Nat → Prop} {w : World} {g g2 d most Ag lg cg Ad ld cd} {R : Bool → Prop} (h : yi3 g g2 d most R) (hO : ∀ k, O k → k < w.heap.size) (hA0 : (FP.sl c3 Ag lg cg g2).P O w) (hA1 : (FP.sl cI Ad ld cd d).P O w) :
    Calls Tryz.prog 30 #[(.agg #[(ii g), (.slice Ag lg cg)]), (.slice Ad ld cd), (ii most)] w fun e w' => ∃ r4, e = .returned (.bool (r4)) ∧ Sep w no O w' (rl []) ∧ R r4 := by
  unfold yi3 at h; have hS : Sep w no O w (rl [Res.ro (FP.sl c3 Ag lg cg g2), Res.ro (FP.sl cI Ad ld cd d)]) := Sep.startl hO [(FP.sl c3 Ag lg cg g2), (FP.sl cI Ad ld cd d)] ⟨hA0, hA1, trivial⟩; refine yar (l := [(.agg #[(ii g), (.slice Ag lg cg)]), (.slice Ad ld cd), (ii most)]) func30 rfl ntmps30 (Nat.le_of_ble_eq_true rfl) (zs (zn (ybq (v := (.agg #[(ii g), (.slice Ag lg cg)])) rfl ?_))); intro g3 w2 hN; replace hS : Sep w no O w2 (stl _ 2 (Res.box 24 g3 [(ii g), (.slice Ag lg cg)])) := hS.new 2 rfl hN; clear hN; refine zb (zq (za (.bool (false))) (yaa (zs (zq (yas (vs := [(ii g), (.slice Ag lg cg)]) rfl underlying24 rfl yaq ⟨Row.cell (hS.bx 2 rfl) (i := 0) rfl, Row.cell (hS.bx 2 rfl) (i := 1) rfl, trivial⟩) (zn (yan rfl (am1 rfl) enter_74 ((yjz h (yaF _) (hS.rdr 0 rfl)).mono ?_))))))); rintro _ w3 ⟨r, rfl, hC, h⟩; replace hS := hS.pur hC.pure; clear hC; refine ⟨_, rfl, ?_⟩; refine zb (zq zE (zq (zm (.bool (decide (r = 0)))) ?_)); by_cases hp : r = 0
  · replace h := h.1 hp; refine rl_q (yae rfl (yaj rfl (congrArg Value.bool (decide_eq_true hp)))) rfl rfl (zm (.slice Ad ld cd)) (rl_q (yae rfl (yaj rfl (congrArg Value.bool (decide_eq_true hp)))) rfl rfl (yam rfl underlying24 rfl yag) (rl_q (yae rfl (yaj rfl (congrArg Value.bool (decide_eq_true hp)))) rfl rfl (zl underlying3 (Row.cell (hS.bx 2 rfl) (i := 0) rfl)) (rl_n (yae rfl (yaj rfl (congrArg Value.bool (decide_eq_true hp)))) rfl rfl rfl (yan rfl (am2 rfl rfl) yjY ((ygX h (yaF _) (hS.rdr 1 rfl)).mono ?_))))); rintro _ w4 ⟨r2, rfl, hC, h⟩; replace hS := hS.pur hC.pure; clear hC; refine ⟨_, rfl, ?_⟩; refine zb (rl_q (yae rfl (yaj rfl (congrArg Value.bool (decide_eq_true hp)))) rfl rfl zE (zq (yaB (v := (.bool (decide (r2 = 0)))) (congrArg Value.bool (decide_eq_true hp)) rfl) (zq (zm (.bool (decide (r2 = 0)))) ?_))); by_cases hp2 : r2 = 0
    · replace h := h.1 hp2; refine rl_q (yae rfl (yaj rfl (congrArg Value.bool (decide_eq_true hp2)))) rfl rfl (yas (vs := [(ii g), (.slice Ag lg cg)]) rfl underlying24 rfl yaq ⟨Row.cell (hS.bx 2 rfl) (i := 0) rfl, Row.cell (hS.bx 2 rfl) (i := 1) rfl, trivial⟩) (rl_q (yae rfl (yaj rfl (congrArg Value.bool (decide_eq_true hp2)))) rfl rfl (zm (.slice Ad ld cd)) (rl_q (yae rfl (yaj rfl (congrArg Value.bool (decide_eq_true hp2)))) rfl rfl (zm (ii most)) (rl_n (yae rfl (yaj rfl (congrArg Value.bool (decide_eq_true hp2)))) rfl rfl rfl (yan rfl (am3 rfl rfl rfl) enter_75 ((pok_r39_Few h (yaF _) (hS.rdr 0 rfl) (hS.rdr 1 rfl)).mono ?_))))); rintro _ w5 ⟨r3, rfl, hC, h⟩; replace hS := hS.pur hC.pure; clear hC; refine ⟨_, rfl, ?_⟩; exact zb (zq (yaB (v := (.bool (r3))) (congrArg Value.bool (decide_eq_true hp2)) rfl) (zq (za (.bool (r3))) (yaa (yal rfl rfl ⟨_, rfl, (hS.sel [] (by decide)), h⟩))))
    · replace h := h.2 hp2; exact rl_p (yad rfl (yaj rfl (congrArg Value.bool (decide_eq_false hp2))) rfl) rfl (rl_p (yad rfl (yaj rfl (congrArg Value.bool (decide_eq_false hp2))) rfl) rfl (rl_p (yad rfl (yaj rfl (congrArg Value.bool (decide_eq_false hp2))) rfl) rfl (rl_p (yad rfl (yaj rfl (congrArg Value.bool (decide_eq_false hp2))) rfl) rfl (zq (yaz (v := (.bool (false))) (congrArg Value.bool (decide_eq_false hp2)) rfl) (zq (za (.bool (false))) (yaa (yal rfl rfl ⟨_, rfl, (hS.sel [] (by decide)), h⟩)))))))
  · replace h := h.2 hp; exact rl_p (yad rfl (yaj rfl (congrArg Value.bool (decide_eq_false hp))) rfl) rfl (rl_p (yad rfl (yaj rfl (congrArg Value.bool (decide_eq_false hp))) rfl) rfl (rl_p (yad rfl (yaj rfl (congrArg Value.bool (decide_eq_false hp))) rfl) rfl (rl_p (yad rfl (yaj rfl (congrArg Value.bool (decide_eq_false hp))) rfl) rfl (rl_p (yad rfl (yaj rfl (congrArg Value.bool (decide_eq_false hp))) rfl) rfl (zq (yaz (v := (.bool (false))) (congrArg Value.bool (decide_eq_false hp)) rfl) (zq (zm (.bool (false))) (rl_p (yad rfl (yaj rfl rfl) rfl) rfl (rl_p (yad rfl (yaj rfl rfl) rfl) rfl (rl_p (yad rfl (yaj rfl rfl) rfl) rfl (rl_p (yad rfl (yaj rfl rfl) rfl) rfl (zq (yaz (v := (.bool (false))) rfl rfl) (zq (za (.bool (false))) (yaa (yal rfl rfl ⟨_, rfl, (hS.sel [] (by decide)), h⟩))))))))))))))
def yiW (R : Bool → Prop) : Prop :=
yiU 2 ([(0, 1, 3)]) (fun r r2 =>
ya5 2 ([(0, 1, 3)]) r (fun r3 r4 =>
yi0 2 ([(0, 1, 3)]) ([2, 0]) (fun r5 r6 =>
(In64 (r2 + r4) ∧
(In64 ((r2 + r4) + r6) ∧
((((r2 + r4) + r6) = 0 →
ya0 r ([1, 1]) (fun r7 =>
((r7 = true →
((r3 = 1 →
R (decide (r5 = 1))) ∧
(¬ (r3 = 1) →
R false))) ∧
(¬ (r7 = true) →
R false)))) ∧
(¬ (((r2 + r4) + r6) = 0) →
R false)))))))
theorem yjd {O : Nat → Prop} {w : World} {R : Bool → Prop} (h : yiW R) (hO : ∀ k, O k → k < w.heap.size) :
    Calls Tryz.prog 31 #[] w fun e w' => ∃ r8, e = .returned (.bool (r8)) ∧ Sep w no O w' (rl []) ∧ R r8 := by
  unfold yiW at h; have hS : Sep w no O w (rl []) := Sep.start w hO; refine yar (l := []) func31 rfl ntmps31 (Nat.le_of_ble_eq_true rfl) (zs (zq (za (.bool (false))) (yaa (zs (zn (ybw (l := [(0, (ii 0)), (1, (ii 1)), (2, (ii 3))]) (cells := [(ii 0), (ii 1), (ii 3)]) (places := [(0, 1), (1, 1), (2, 1)]) (bp3 rfl rfl rfl) underlying76 yaP (by kernel_rfl) rfl ?_)))))); refine zb (zn (yaD (l := [(0, (.agg #[(ii 0), (ii 1), (ii 3)]))]) (cells := [(ii 0), (ii 1), (ii 3)]) (bp1 rfl) underlying22 yaP rfl rfl ?_)); intro g w2 hN; replace hS := hS.litf (n := 1) 0 rfl (fP (fI .i64) (fP (fI .i64) (fI .i64))) hN ([(0, 1, 3)] : List E3) rfl (by decide) rfl; clear hN; refine zb (zn (ybw (l := [(0, (ii 2)), (1, (.slice (some ⟨g, 0, none⟩) 1 1))]) (cells := [(ii 2), (.slice (some ⟨g, 0, none⟩) 1 1)]) (places := [(0, 1), (1, 1)]) (bp2 rfl rfl) underlying24 yaq (by kernel_rfl) rfl ?_)); refine zb (zn (ya7 yaq ?_)); intro g2 w3 hN; replace hS : Sep w no O w3 (stl _ 1 (Res.box 24 g2 [(ii 0), (.slice none 0 0)])) := hS.new 1 rfl hN; clear hN; refine zb (zo (ybF (b := g2) (o := 0) (cells := #[(ii 2), (.slice (some ⟨g, 0, none⟩) 1 1)]) rfl rfl yaq rfl rfl (ybc (hS.bx 1 rfl) (Nat.le_of_ble_eq_true rfl)) ?_)); intro w4 e1; replace hS := hS.bstn 1 rfl 0 [(ii 2), (.slice (some ⟨g, 0, none⟩) 1 1)] e1; clear e1; refine zb (yaa (zs (zq (yas (vs := [(ii 2), (.slice (some ⟨g, 0, none⟩) 1 1)]) rfl underlying24 rfl yaq ⟨Row.cell (hS.bx 1 rfl) (i := 0) rfl, Row.cell (hS.bx 1 rfl) (i := 1) rfl, trivial⟩) (zn (yan rfl (am1 rfl) enter_21 ((yi9 h (yaF _) (hS.rdo 0 rfl)).mono ?_)))))); rintro _ w5 ⟨r, r2, Ar, lr, cr, rfl, hC, h⟩; replace hS := hS.call1 (hC.widen (ydi (ya1 (fI .i64) _ _ _ _ _) yeb) hS.blt) 2 0 rfl; clear hC; refine ⟨_, rfl, ?_⟩; refine zb (zq (zm (.tuple #[(.slice Ar lr cr), (ii r2)])) (zq (zx (.slice Ar lr cr)) (zq (zx (ii r2)) (zq (za (.slice Ar lr cr)) (zq (za (ii r2)) (yaa (zs (zq (yas (vs := [(ii 2), (.slice (some ⟨g, 0, none⟩) 1 1)]) rfl underlying24 rfl yaq ⟨Row.cell (hS.bx 1 rfl) (i := 0) rfl, Row.cell (hS.bx 1 rfl) (i := 1) rfl, trivial⟩) (zq (zm (.slice Ar lr cr)) (zn (yan rfl (am2 rfl rfl) yjw ((ye1 h (yaF _) (hS.rdo 0 rfl) (hS.rdo 2 rfl)).mono ?_)))))))))))); rintro _ w6 ⟨r3, r4, rfl, hC, h⟩; replace hS := hS.pur hC.pure; clear hC; refine ⟨_, rfl, ?_⟩; refine zb (zq (zm (.tuple #[(ii r3), (ii r4)])) (zq (zx (ii r3)) (zq (zx (ii r4)) (zq (za (ii r3)) (zq (za (ii r4)) (yaa (zs (zq (yas (vs := [(ii 2), (.slice (some ⟨g, 0, none⟩) 1 1)]) rfl underlying24 rfl yaq ⟨Row.cell (hS.bx 1 rfl) (i := 0) rfl, Row.cell (hS.bx 1 rfl) (i := 1) rfl, trivial⟩) (zn (yaD (l := [(0, (ii 2)), (1, (ii 0))]) (cells := [(ii 2), (ii 0)]) (bp2 rfl rfl) underlying26 yag rfl rfl ?_)))))))))); intro g3 w7 hN; replace hS := hS.litf (n := 2) 3 rfl (fI .i64) hN ([2, 0] : List Int) rfl (by decide) rfl; clear hN; refine zb (zn (yan rfl (am2 rfl rfl) enter_76 ((yjo h (yaF _) (hS.rdo 0 rfl) (hS.rdo 3 rfl)).mono ?_))); rintro _ w8 ⟨r5, r6, rfl, hC, h⟩; replace hS := hS.pur hC.pure; clear hC; refine ⟨_, rfl, ?_⟩; refine zb (zq (zm (.tuple #[(ii r5), (ii r6)])) (zq (zx (ii r5)) (zq (zx (ii r6)) (zq (za (ii r5)) (zq (za (ii r6)) (yaa (zs (zq (zm (ii r2)) (zq (zm (ii r4)) ?_))))))))); obtain ⟨hi, h⟩ := h; refine zq (zA hi) (zq (zm (ii r6)) ?_); obtain ⟨hi2, h⟩ := h; refine zq (zA hi2) (zq zE (zq (zm (.bool (decide (((r2 + r4) + r6) = 0)))) ?_)); by_cases hp : ((r2 + r4) + r6) = 0
  · replace h := h.1 hp; refine rl_q (yae rfl (yaj rfl (congrArg Value.bool (decide_eq_true hp)))) rfl rfl (zm (.slice Ar lr cr)) (rl_n (yae rfl (yaj rfl (congrArg Value.bool (decide_eq_true hp)))) rfl rfl rfl (yaD (l := [(0, (ii 1)), (1, (ii 1))]) (cells := [(ii 1), (ii 1)]) (bp2 rfl rfl) underlying26 yag rfl rfl ?_)); intro g4 w9 hN; replace hS := hS.litf (n := 2) 4 rfl (fI .i64) hN ([1, 1] : List Int) rfl (by decide) rfl; clear hN; refine zb (rl_n (yae rfl (yaj rfl (congrArg Value.bool (decide_eq_true hp)))) rfl rfl rfl (yan rfl (am2 rfl rfl) enter_42 ((ycU h (yaF _) (hS.rdo 2 rfl) (hS.rdo 4 rfl)).mono ?_))); rintro _ w10 ⟨r7, rfl, hC, h⟩; replace hS := hS.pur hC.pure; clear hC; refine ⟨_, rfl, ?_⟩; refine zb (zq (yaB (v := (.bool (r7))) (congrArg Value.bool (decide_eq_true hp)) rfl) (zq (zm (.bool (r7))) ?_)); by_cases hp2 : r7 = true
    · replace h := h.1 hp2; refine rl_q (yae rfl (yaj rfl (congrArg Value.bool hp2))) rfl rfl (zm (ii r3)) (rl_q (yae rfl (yaj rfl (congrArg Value.bool hp2))) rfl rfl zE (zq (yaB (v := (.bool (decide (r3 = 1)))) (congrArg Value.bool hp2) rfl) (zq (zm (.bool (decide (r3 = 1)))) ?_))); by_cases hp3 : r3 = 1
      · replace h := h.1 hp3; exact rl_q (yae rfl (yaj rfl (congrArg Value.bool (decide_eq_true hp3)))) rfl rfl (zm (ii r5)) (rl_q (yae rfl (yaj rfl (congrArg Value.bool (decide_eq_true hp3)))) rfl rfl zE (zq (yaB (v := (.bool (decide (r5 = 1)))) (congrArg Value.bool (decide_eq_true hp3)) rfl) (zq (za (.bool (decide (r5 = 1)))) (yaa (yal rfl rfl ⟨_, rfl, (hS.sel [] (by decide)), h⟩)))))
      · replace h := h.2 hp3; exact rl_p (yad rfl (yaj rfl (congrArg Value.bool (decide_eq_false hp3))) rfl) rfl (rl_p (yad rfl (yaj rfl (congrArg Value.bool (decide_eq_false hp3))) rfl) rfl (zq (yaz (v := (.bool (false))) (congrArg Value.bool (decide_eq_false hp3)) rfl) (zq (za (.bool (false))) (yaa (yal rfl rfl ⟨_, rfl, (hS.sel [] (by decide)), h⟩)))))
    · replace h := h.2 hp2; exact rl_p (yad rfl (yaj rfl (congrArg Value.bool (Bool.eq_false_iff.2 hp2))) rfl) rfl (rl_p (yad rfl (yaj rfl (congrArg Value.bool (Bool.eq_false_iff.2 hp2))) rfl) rfl (zq (yaz (v := (.bool (false))) (congrArg Value.bool (Bool.eq_false_iff.2 hp2)) rfl) (zq (zm (.bool (false))) (rl_p (yad rfl (yaj rfl rfl) rfl) rfl (rl_p (yad rfl (yaj rfl rfl) rfl) rfl (zq (yaz (v := (.bool (false))) rfl rfl) (zq (za (.bool (false))) (yaa (yal rfl rfl ⟨_, rfl, (hS.sel [] (by decide)), h⟩)))))))))
  · replace h := h.2 hp; exact rl_p (yad rfl (yaj rfl (congrArg Value.bool (decide_eq_false hp))) rfl) rfl (rl_p (yad rfl (yaj rfl (congrArg Value.bool (decide_eq_false hp))) rfl) rfl (rl_p (yad rfl (yaj rfl (congrArg Value.bool (decide_eq_false hp))) rfl) rfl (zq (yaz (v := (.bool (false))) (congrArg Value.bool (decide_eq_false hp)) rfl) (zq (zm (.bool (false))) (rl_p (yad rfl (yaj rfl rfl) rfl) rfl (rl_p (yad rfl (yaj rfl rfl) rfl) rfl (zq (yaz (v := (.bool (false))) rfl rfl) (zq (zm (.bool (false))) (rl_p (yad rfl (yaj rfl rfl) rfl) rfl (rl_p (yad rfl (yaj rfl rfl) rfl) rfl (zq (yaz (v := (.bool (false))) rfl rfl) (zq (za (.bool (false))) (yaa (yal rfl rfl ⟨_, rfl, (hS.sel [] (by decide)), h⟩))))))))))))))
def yiZ (d : Int) (d2 : List E3) (i : List Int) (R : Bool → Prop) : Prop :=
yi3 d d2 i 4 (fun r =>
((r = true →
ybZ d d2 (fun r2 r3 r4 =>
ycK r2 r3 (fun r5 r6 =>
yiV d d2 i (fun r7 r8 =>
(∃ J2 : Prop, (J2 → (∃ I2 : Nat → (List Int) → Int → Prop, (∃ m0, I2 m0 ([]) 0) ∧ ∀ m2 v v2, I2 m2 v v2 → 
((v2 < ((([i, r7]).length : Nat) : Int) →
((0 ≤ v2 ∧ v2 < ((([i, r7]).length : Nat) : Int)) ∧
ya5 d d2 (gx ([i, r7]) v2.toNat) (fun r9 r10 =>
ybA d d2 (gx ([i, r7]) v2.toNat) (fun r11 r12 =>
(∃ J3 : Prop, (J3 → yjc (gx ([i, r7]) v2.toNat) r11 (fun r13 r14 =>
yaU d d2 r13 (fun r15 r16 r17 r18 =>
(∃ J4 : Prop, (J4 → (∃ J5 : Prop, (J5 → (v.length + 1 ≤ 1000000000 ∧
(In64 (v2 + 1) ∧
∃ m3, m3 < m2 ∧ I2 m3 (v ++ [r9]) (v2 + 1)))) ∧
((0 ≤ r9 →
ybD d d2 (gx ([i, r7]) v2.toNat) r9 (fun r19 r20 =>
(∃ J6 : Prop, (J6 → J5) ∧
((r20 = 0 →
yi6 d d2 (gx ([i, r7]) v2.toNat) r9 r19 (fun r21 =>
((r21 = 0 →
J6) ∧
(¬ (r21 = 0) →
R false)))) ∧
(¬ (r20 = 0) →
R false))))) ∧
(¬ (0 ≤ r9) →
J5)))) ∧
((r14 = 0 →
((r18 = 0 →
yiY d d2 (gx ([i, r7]) v2.toNat) r11 r17 (fun r22 =>
((r22 = 0 →
J4) ∧
(¬ (r22 = 0) →
R false)))) ∧
(¬ (r18 = 0) →
R false))) ∧
(¬ (r14 = 0) →
R false)))))) ∧
((r10 = 0 →
((r12 = 0 →
((r9 < (-1) →
R false) ∧
(¬ (r9 < (-1)) →
((5 < r9 →
R false) ∧
(¬ (5 < r9) →
((((r11.length : Nat) : Int) = d →
J3) ∧
(¬ (((r11.length : Nat) : Int) = d) →
R false))))))) ∧
(¬ (r12 = 0) →
R false))) ∧
(¬ (r10 = 0) →
R false))))))) ∧
(¬ (v2 < ((([i, r7]).length : Nat) : Int)) →
((0 ≤ (0 : Int) ∧ (0 : Int) < ((v.length : Nat) : Int)) ∧
((0 ≤ (1 : Int) ∧ (1 : Int) < ((v.length : Nat) : Int)) ∧
(In64 ((gi v (0 : Int).toNat) - (gi v (1 : Int).toNat)) ∧
ybs i (fun r23 =>
(In64 (r23 + 1) ∧
(In64 ((r23 + 1) - r5) ∧
((((gi v (0 : Int).toNat) - (gi v (1 : Int).toNat)) = ((r23 + 1) - r5) →
yiW (fun r24 =>
R r24)) ∧
(¬ (((gi v (0 : Int).toNat) - (gi v (1 : Int).toNat)) = ((r23 + 1) - r5)) →
R false)))))))))))) ∧
(In64 (r4 + r6) ∧
(In64 ((r4 + r6) + r8) ∧
((((r4 + r6) + r8) = 0 →
((((r7.length : Nat) : Int) = d →
ycP r7 d (fun r25 =>
((r25 = 0 →
J2) ∧
(¬ (r25 = 0) →
R false)))) ∧
(¬ (((r7.length : Nat) : Int) = d) →
R false))) ∧
(¬ (((r4 + r6) + r8) = 0) →
R false))))))))) ∧
(¬ (r = true) →
yiW (fun r26 =>
R r26))))
theorem yjW {O : Nat → Prop} {w : World} {d d2 i Ad ld cd Ai li ci} {R : Bool → Prop} (h : yiZ d d2 i R) (hO : ∀ k, O k → k < w.heap.size) (hA0 : (FP.sl c3 Ad ld cd d2).P O w) (hA1 : (FP.sl cI Ai li ci i).P O w) :
    Calls Tryz.prog 6 #[(.agg #[(ii d), (.slice Ad ld cd)]), (.slice Ai li ci)] w fun e w' => ∃ r27, e = .returned (.bool (r27)) ∧ Sep w no O w' (rl []) ∧ R r27 := by
  unfold yiZ at h; have hS : Sep w no O w (rl [Res.ro (FP.sl c3 Ad ld cd d2), Res.ro (FP.sl cI Ai li ci i)]) := Sep.startl hO [(FP.sl c3 Ad ld cd d2), (FP.sl cI Ai li ci i)] ⟨hA0, hA1, trivial⟩; refine yar (l := [(.agg #[(ii d), (.slice Ad ld cd)]), (.slice Ai li ci)]) func6 rfl ntmps6 (Nat.le_of_ble_eq_true rfl) (zs (zn (ybq (v := (.agg #[(ii d), (.slice Ad ld cd)])) rfl ?_))); intro g w2 hN; replace hS : Sep w no O w2 (stl _ 2 (Res.box 24 g [(ii d), (.slice Ad ld cd)])) := hS.new 2 rfl hN; clear hN; refine zb (zq (za (.bool (false))) (yaa (yac (zs (zq (yas (vs := [(ii d), (.slice Ad ld cd)]) rfl underlying24 rfl yaq ⟨Row.cell (hS.bx 2 rfl) (i := 0) rfl, Row.cell (hS.bx 2 rfl) (i := 1) rfl, trivial⟩) (zq (zm (.slice Ai li ci)) (zn (yan rfl (am3 rfl rfl rfl) enter_30 ((yjk h (yaF _) (hS.rdr 0 rfl) (hS.rdr 1 rfl)).mono ?_))))))))); rintro _ w3 ⟨r, rfl, hC, h⟩; replace hS := hS.pur hC.pure; clear hC; refine ⟨_, rfl, ?_⟩; refine zb (zq (ydA rfl) (yaa ?_)); by_cases hp : r = true
  · replace h := h.1 hp; refine yay (congrArg Value.bool (congrArg Bool.not hp)) (yaf (zs (zq (yas (vs := [(ii d), (.slice Ad ld cd)]) rfl underlying24 rfl yaq ⟨Row.cell (hS.bx 2 rfl) (i := 0) rfl, Row.cell (hS.bx 2 rfl) (i := 1) rfl, trivial⟩) (zn (yan rfl (am1 rfl) enter_32 ((ygs h (yaF _) (hS.rdr 0 rfl)).mono ?_)))))); rintro _ w4 ⟨r2, r3, r4, Ar, lr, cr, rfl, hC, h⟩; replace hS := hS.call1 (hC.widen (ydi (ya1 (fP (fI .i64) (fP (fI .i64) (fI .i64))) _ _ _ _ _) yeb) hS.blt) 3 0 rfl; clear hC; refine ⟨_, rfl, ?_⟩; refine zb (zq (zm (.tuple #[(.agg #[(ii r2), (.slice Ar lr cr)]), (ii r4)])) (zq (zx (.agg #[(ii r2), (.slice Ar lr cr)])) (zq (zx (ii r4)) (zn (ya7 yaq ?_))))); intro g2 w5 hN; replace hS : Sep w no O w5 (stl _ 4 (Res.box 24 g2 [(ii 0), (.slice none 0 0)])) := hS.new 4 rfl hN; clear hN; refine zb (zo (ybF (b := g2) (o := 0) (cells := #[(ii r2), (.slice Ar lr cr)]) rfl rfl yaq rfl rfl (ybc (hS.bx 4 rfl) (Nat.le_of_ble_eq_true rfl)) ?_)); intro w6 e1; replace hS := hS.bstn 4 rfl 0 [(ii r2), (.slice Ar lr cr)] e1; clear e1; refine zb (zq (za (ii r4)) (yaa (zs (zq (yas (vs := [(ii r2), (.slice Ar lr cr)]) rfl underlying24 rfl yaq ⟨Row.cell (hS.bx 4 rfl) (i := 0) rfl, Row.cell (hS.bx 4 rfl) (i := 1) rfl, trivial⟩) (zn (yan rfl (am1 rfl) enter_33 ((yir h (yaF _) (hS.rdo 3 rfl)).mono ?_))))))); rintro _ w7 ⟨r5, r6, rfl, hC, h⟩; replace hS := hS.pur hC.pure; clear hC; refine ⟨_, rfl, ?_⟩; refine zb (zq (zm (.tuple #[(ii r5), (ii r6)])) (zq (zx (ii r5)) (zq (zx (ii r6)) (zq (za (ii r5)) (zq (za (ii r6)) (yaa (zs (zq (yas (vs := [(ii d), (.slice Ad ld cd)]) rfl underlying24 rfl yaq ⟨Row.cell (hS.bx 2 rfl) (i := 0) rfl, Row.cell (hS.bx 2 rfl) (i := 1) rfl, trivial⟩) (zq (zm (.slice Ai li ci)) (zn (yan rfl (am2 rfl rfl) enter_34 ((yjb h (yaF _) (hS.rdr 0 rfl) (hS.rdr 1 rfl)).mono ?_)))))))))))); rintro _ w8 ⟨r7, r8, Ar2, lr2, cr2, rfl, hC, h⟩; replace hS := hS.call1 (hC.widen (ydi (ya1 (fI .i64) _ _ _ _ _) yeb) hS.blt) 5 0 rfl; clear hC; refine ⟨_, rfl, ?_⟩; refine zb (zq (zm (.tuple #[(.slice Ar2 lr2 cr2), (ii r8)])) (zq (zx (.slice Ar2 lr2 cr2)) (zq (zx (ii r8)) (zq (za (.slice Ar2 lr2 cr2)) (zq (za (ii r8)) (yaa (yac (yac ?_)))))))); obtain ⟨J2, hJ, h⟩ := h; refine ydO (fun E ds w' => J2 ∧ ds = [] ∧ E 1 = (Value.slice Ai li ci) ∧ E 2 = (Value.pointer (some (⟨g, 0, none⟩ : Addr))) ∧ E 7 = (ii r5) ∧ E 9 = (Value.slice Ar2 lr2 cr2) ∧ Sep w no O w' (rl [Res.ro (FP.sl cI Ai li ci i), Res.box 24 g [(ii d), (.slice Ad ld cd)], Res.ro (FP.sl c3 Ad ld cd d2), Res.own cI 3 Ar2 lr2 cr2 r7])) ?_ ?_
    · clear h hS; rintro E ds w9 ⟨h, rfl, hE1, hE2, hE7, hE9, hS⟩; replace h := hJ h; refine zs (zq (za (.slice none 0 0)) (yaa (yac (zs (zq (yab hE1) (zq (yab hE9) ?_)))))); replace hS := hS.frz 3 rfl; refine zn (yaD (l := [(0, (.slice Ai li ci)), (1, (.slice Ar2 lr2 cr2))]) (cells := [(.slice Ai li ci), (.slice Ar2 lr2 cr2)]) (bp2 rfl rfl) underlying67 ybu rfl rfl ?_); intro g3 w10 hN; replace hS := hS.lit (n := 2) (c := (cL cI)) 4 rfl hN ([i, r7] : List (List Int)) rfl (by decide) ⟨[(.slice Ai li ci)], _, rfl, (ro_R (hS.ro 0 rfl)), ⟨[(.slice Ar2 lr2 cr2)], _, rfl, (ro_R (hS.ro 3 rfl)), rfl⟩⟩; clear hN; refine zb (zq (yaO (n := ([i, r7]).length) rfl underlying67 (yaL (hS.rdo 4 rfl))) (zq (zm (ii 0)) (yaa (yak ?_)))); replace hS := hS.nil 5 rfl cI 3; obtain ⟨I2, ⟨m0, h0⟩, hr⟩ := h; refine yaw (fun m E ds w' => ∃ v v2 Av lv cv, I2 m v v2 ∧ ds = [] ∧ E 1 = (Value.slice Ai li ci) ∧ E 2 = (Value.pointer (some (⟨g, 0, none⟩ : Addr))) ∧ E 7 = (ii r5) ∧ E 11 = (Value.slice Av lv cv) ∧ E 67 = (Value.slice (some ⟨g3, 0, none⟩) 2 2) ∧ E 68 = (ii ((([i, r7]).length : Nat) : Int)) ∧ E 69 = (ii v2) ∧ Sep w no O w' (rl [Res.own cI 3 Av lv cv v, Res.ro (FP.sl cI Ai li ci i), Res.box 24 g [(ii d), (.slice Ad ld cd)], Res.ro (FP.sl c3 Ad ld cd d2), Res.own (cL cI) 26 (some ⟨g3, 0, none⟩) 2 2 ([i, r7])])) m0 ⟨_, _, _, _, _, h0, rfl, hE1, hE2, hE7, rfl, rfl, rfl, rfl, (hS.sel [5, 0, 1, 2, 4] (by decide))⟩ ?_; clear h0 hS; rintro m2 E ds w11 ⟨v, v2, Av, lv, cv, h, rfl, hE1, hE2, hE7, hE11, hE67, hE68, hE69, hS⟩ again; replace h := hr m2 v v2 h; clear hr; refine zs (zq (yaJ hE69 hE68) (yaa (yac ?_))); by_cases hp2 : v2 < ((([i, r7]).length : Nat) : Int)
      · replace h := h.1 hp2; refine zc hp2 (yaf (yac (yak (zs ?_)))); obtain ⟨hx, h⟩ := h; refine zq (yao hE67 hE69 underlying67 ybu (yaG (hS.rdo 4 rfl) hx)) ?_; obtain ⟨A, l, c, hc, hq⟩ := hS.elo 4 rfl hx 5 rfl; replace hS := hq; clear hq; refine zq (yah (v := (.slice A l c)) rfl underlying26 rfl hc) (zq (za (.slice A l c)) (yaa (zs (zq (yas (vs := [(ii d), (.slice Ad ld cd)]) hE2 underlying24 rfl yaq ⟨Row.cell (hS.bx 2 rfl) (i := 0) rfl, Row.cell (hS.bx 2 rfl) (i := 1) rfl, trivial⟩) (zq (zm (.slice A l c)) (zn (yan rfl (am2 rfl rfl) yjw ((ye1 h (yaF _) (hS.rdr 3 rfl) (hS.rdr 5 rfl)).mono ?_)))))))); rintro _ w12 ⟨r9, r10, rfl, hC, h⟩; replace hS := hS.pur hC.pure; clear hC; refine ⟨_, rfl, ?_⟩; refine zb (zq (zm (.tuple #[(ii r9), (ii r10)])) (zq (zx (ii r9)) (zq (zx (ii r10)) (zq (za (ii r9)) (zq (za (ii r10)) (yaa (zs (zq (yas (vs := [(ii d), (.slice Ad ld cd)]) hE2 underlying24 rfl yaq ⟨Row.cell (hS.bx 2 rfl) (i := 0) rfl, Row.cell (hS.bx 2 rfl) (i := 1) rfl, trivial⟩) (zq (zm (.slice A l c)) (zn (yan rfl (am2 rfl rfl) enter_36 ((yfk h hS.blt (hS.ro 3 rfl) (hS.ro 5 rfl)).mono ?_)))))))))))); rintro _ w13 ⟨r11, r12, Ar3, lr3, cr3, rfl, hC, h⟩; replace hS := hS.call1 hC 6 0 rfl; clear hC; refine ⟨_, rfl, ?_⟩; refine zb (zq (zm (.tuple #[(.slice Ar3 lr3 cr3), (ii r12)])) (zq (zx (.slice Ar3 lr3 cr3)) (zq (zx (ii r12)) (zq (za (.slice Ar3 lr3 cr3)) (zq (za (ii r12)) (yaa (yac (yac ?_)))))))); obtain ⟨J3, hJ, h⟩ := h; refine ydO (fun E ds w' => J3 ∧ ds = [] ∧ E 1 = (Value.slice Ai li ci) ∧ E 2 = (Value.pointer (some (⟨g, 0, none⟩ : Addr))) ∧ E 7 = (ii r5) ∧ E 11 = (Value.slice Av lv cv) ∧ E 13 = (Value.slice A l c) ∧ E 14 = (ii r9) ∧ E 16 = (Value.slice Ar3 lr3 cr3) ∧ E 67 = (Value.slice (some ⟨g3, 0, none⟩) 2 2) ∧ E 68 = (ii ((([i, r7]).length : Nat) : Int)) ∧ E 69 = (ii v2) ∧ Sep w no O w' (rl [Res.ro (FP.sl cI Ai li ci i), Res.box 24 g [(ii d), (.slice Ad ld cd)], Res.ro (FP.sl c3 Ad ld cd d2), Res.own cI 3 Av lv cv v, Res.ro (FP.sl cI A l c (gx ([i, r7]) v2.toNat)), Res.ro (FP.sl cI Ar3 lr3 cr3 r11), Res.own (cL cI) 26 (some ⟨g3, 0, none⟩) 2 2 ([i, r7])])) ?_ ?_
        · clear h hS; rintro E ds w14 ⟨h, rfl, hE1, hE2, hE7, hE11, hE13, hE14, hE16, hE67, hE68, hE69, hS⟩; replace h := hJ h; refine zs (zq (yab hE13) (zq (yab hE16) (zn (yan rfl (am2 rfl rfl) enter_22 ((yjM h (yaF _) (hS.rdr 4 rfl) (hS.rdr 5 rfl)).mono ?_))))); rintro _ w15 ⟨r13, r14, Ar4, lr4, cr4, rfl, hC, h⟩; replace hS := hS.call1 (hC.widen (ydi (ya1 (fI .i64) _ _ _ _ _) yeb) hS.blt) 7 0 rfl; clear hC; refine ⟨_, rfl, ?_⟩; refine zb (zq (zm (.tuple #[(.slice Ar4 lr4 cr4), (ii r14)])) (zq (zx (.slice Ar4 lr4 cr4)) (zq (zx (ii r14)) (zq (za (.slice Ar4 lr4 cr4)) (zq (za (ii r14)) (yaa (zs (zq (yas (vs := [(ii d), (.slice Ad ld cd)]) hE2 underlying24 rfl yaq ⟨Row.cell (hS.bx 1 rfl) (i := 0) rfl, Row.cell (hS.bx 1 rfl) (i := 1) rfl, trivial⟩) (zq (zm (.slice Ar4 lr4 cr4)) (zn (yan rfl (am2 rfl rfl) yhP ((ybE h (yaF _) (hS.rdr 2 rfl) (hS.rdo 7 rfl)).mono ?_)))))))))))); rintro _ w16 ⟨r15, r16, r17, r18, Ar5, lr5, cr5, Ar6, lr6, cr6, rfl, hC, h⟩; replace hS := hS.call2 (hC.widen (ydi (ya1 (fI .i64) _ _ _ _ _) (ydi (ya1 (fI .i64) _ _ _ _ _) yeb)) hS.blt) 8 0 9 1 rfl rfl (by decide) (by decide); clear hC; refine ⟨_, rfl, ?_⟩; refine zb (zq (zm (.tuple #[(.bool (r15)), (.slice Ar5 lr5 cr5), (.slice Ar6 lr6 cr6), (ii r18)])) (zq (zx (.bool (r15))) (zq (zx (.slice Ar5 lr5 cr5)) (zq (zx (.slice Ar6 lr6 cr6)) (zq (zx (ii r18)) (zq (za (.bool (r15))) (zq (za (.slice Ar5 lr5 cr5)) (zq (za (.slice Ar6 lr6 cr6)) (zq (za (ii r18)) (yaa (yac (yac ?_)))))))))))); obtain ⟨J4, hJ, h⟩ := h; refine ydO (fun E ds w' => J4 ∧ ds = [] ∧ E 1 = (Value.slice Ai li ci) ∧ E 2 = (Value.pointer (some (⟨g, 0, none⟩ : Addr))) ∧ E 7 = (ii r5) ∧ E 11 = (Value.slice Av lv cv) ∧ E 13 = (Value.slice A l c) ∧ E 14 = (ii r9) ∧ E 67 = (Value.slice (some ⟨g3, 0, none⟩) 2 2) ∧ E 68 = (ii ((([i, r7]).length : Nat) : Int)) ∧ E 69 = (ii v2) ∧ Sep w no O w' (rl [Res.ro (FP.sl cI Ai li ci i), Res.box 24 g [(ii d), (.slice Ad ld cd)], Res.ro (FP.sl c3 Ad ld cd d2), Res.own cI 3 Av lv cv v, Res.ro (FP.sl cI A l c (gx ([i, r7]) v2.toNat)), Res.own (cL cI) 26 (some ⟨g3, 0, none⟩) 2 2 ([i, r7])])) ?_ ?_
          · clear h hS; rintro E ds w17 ⟨h, rfl, hE1, hE2, hE7, hE11, hE13, hE14, hE67, hE68, hE69, hS⟩; replace h := hJ h; refine yac (zs (zq (yab hE14) (zq (v_geq rfl rfl) (yaa ?_)))); obtain ⟨J5, hJ, h⟩ := h; refine yhY (fun E ds w' => J5 ∧ ds = [] ∧ E 1 = (Value.slice Ai li ci) ∧ E 2 = (Value.pointer (some (⟨g, 0, none⟩ : Addr))) ∧ E 7 = (ii r5) ∧ E 11 = (Value.slice Av lv cv) ∧ E 14 = (ii r9) ∧ E 67 = (Value.slice (some ⟨g3, 0, none⟩) 2 2) ∧ E 68 = (ii ((([i, r7]).length : Nat) : Int)) ∧ E 69 = (ii v2) ∧ Sep w no O w' (rl [Res.ro (FP.sl cI Ai li ci i), Res.box 24 g [(ii d), (.slice Ad ld cd)], Res.ro (FP.sl c3 Ad ld cd d2), Res.own cI 3 Av lv cv v, Res.own (cL cI) 26 (some ⟨g3, 0, none⟩) 2 2 ([i, r7])])) ?_ ?_
            · clear h hS; rintro E ds w18 ⟨h, rfl, hE1, hE2, hE7, hE11, hE14, hE67, hE68, hE69, hS⟩; replace h := hJ h; refine zr (zq (yab hE11) (zq (yab hE14) (zn (yaD (l := [(0, (ii r9))]) (cells := [(ii r9)]) (bp1 rfl) underlying25 yag rfl rfl ?_)))); intro g4 w19 hN; replace hS := hS.litf (n := 1) 5 rfl (fI .i64) hN ([r9] : List Int) rfl (by decide) rfl; clear hN; refine zb ?_; obtain ⟨hx2, h⟩ := h; refine zn (yee (c := cI) rfl rfl underlying25 underlying25 yag rfl rfl (by decide) hS 3 rfl (hS.yo 5 rfl) hx2 ?_); clear hS; intro A2 c2 w20 hS; refine zb (zq (za (.slice A2 (lv + 1) c2)) (yaa (yai (zr ?_)))); obtain ⟨hi, h⟩ := h; refine zq (yaC hE69 rfl hi) (zq (zm (ii (v2 + 1))) (yaa ?_)); obtain ⟨mq, hlt, h⟩ := h; exact again mq _ _ _ ⟨_, _, _, _, _, h, rfl, hE1, hE2, hE7, rfl, hE67, hE68, rfl, (hS.sel [3, 0, 1, 2, 4] (by decide))⟩ hlt
            clear hJ; intro j4; by_cases hp3 : 0 ≤ r9
            · replace h := h.1 hp3; refine zc hp3 (zs (zq (yas (vs := [(ii d), (.slice Ad ld cd)]) hE2 underlying24 rfl yaq ⟨Row.cell (hS.bx 1 rfl) (i := 0) rfl, Row.cell (hS.bx 1 rfl) (i := 1) rfl, trivial⟩) (zq (yab hE13) (zq (yab hE14) (zn (yan rfl (am3 rfl rfl rfl) enter_9 ((yf6 h hS.blt (hS.ro 2 rfl) (hS.ro 4 rfl)).mono ?_))))))); rintro _ w21 ⟨r19, r20, Ar7, lr7, cr7, rfl, hC, h⟩; replace hS := hS.call1 hC 6 0 rfl; clear hC; refine ⟨_, rfl, ?_⟩; refine zb (zq (zm (.tuple #[(.slice Ar7 lr7 cr7), (ii r20)])) (zq (zx (.slice Ar7 lr7 cr7)) (zq (zx (ii r20)) (zq (za (.slice Ar7 lr7 cr7)) (zq (za (ii r20)) (yaa (yac ?_))))))); obtain ⟨J6, hJ, h⟩ := h; refine ydO (fun E ds w' => J6 ∧ ds = [] ∧ E 1 = (Value.slice Ai li ci) ∧ E 2 = (Value.pointer (some (⟨g, 0, none⟩ : Addr))) ∧ E 7 = (ii r5) ∧ E 11 = (Value.slice Av lv cv) ∧ E 14 = (ii r9) ∧ E 67 = (Value.slice (some ⟨g3, 0, none⟩) 2 2) ∧ E 68 = (ii ((([i, r7]).length : Nat) : Int)) ∧ E 69 = (ii v2) ∧ Sep w no O w' (rl [Res.ro (FP.sl cI Ai li ci i), Res.box 24 g [(ii d), (.slice Ad ld cd)], Res.ro (FP.sl c3 Ad ld cd d2), Res.own cI 3 Av lv cv v, Res.own (cL cI) 26 (some ⟨g3, 0, none⟩) 2 2 ([i, r7])])) ?_ ?_
              · clear h hS; rintro E ds w22 ⟨h, rfl, hE1, hE2, hE7, hE11, hE14, hE67, hE68, hE69, hS⟩; replace h := hJ h; exact j4 _ _ _ ⟨h, rfl, hE1, hE2, hE7, hE11, hE14, hE67, hE68, hE69, (hS.sel [0, 1, 2, 3, 4] (by decide))⟩
              clear hJ; intro j5; refine zr (zq (zm (ii r20)) (zq zN (zq (zm (.bool (!(decide (r20 = 0))))) ?_))); by_cases hp4 : r20 = 0
              · replace h := h.1 hp4; refine rl_q (yae rfl (yaj rfl (congrArg Value.bool (congrArg Bool.not (decide_eq_true hp4))))) rfl rfl (yas (vs := [(ii d), (.slice Ad ld cd)]) hE2 underlying24 rfl yaq ⟨Row.cell (hS.bx 1 rfl) (i := 0) rfl, Row.cell (hS.bx 1 rfl) (i := 1) rfl, trivial⟩) (rl_q (yae rfl (yaj rfl (congrArg Value.bool (congrArg Bool.not (decide_eq_true hp4))))) rfl rfl (yab hE13) (rl_q (yae rfl (yaj rfl (congrArg Value.bool (congrArg Bool.not (decide_eq_true hp4))))) rfl rfl (yab hE14) (rl_q (yae rfl (yaj rfl (congrArg Value.bool (congrArg Bool.not (decide_eq_true hp4))))) rfl rfl (zm (.slice Ar7 lr7 cr7)) (rl_n (yae rfl (yaj rfl (congrArg Value.bool (congrArg Bool.not (decide_eq_true hp4))))) rfl rfl rfl (yan rfl (am4 rfl rfl rfl rfl) enter_39 ((yj4 h (yaF _) (hS.rdr 2 rfl) (hS.rdr 4 rfl) (hS.rdo 6 rfl)).mono ?_)))))); rintro _ w23 ⟨r21, rfl, hC, h⟩; replace hS := hS.pur hC.pure; clear hC; refine ⟨_, rfl, ?_⟩; refine zb (rl_q (yae rfl (yaj rfl (congrArg Value.bool (congrArg Bool.not (decide_eq_true hp4))))) rfl rfl zN (zq (yaz (v := (.bool (!(decide (r21 = 0))))) (congrArg Value.bool (congrArg Bool.not (decide_eq_true hp4))) rfl) (yaa ?_))); by_cases hp5 : r21 = 0
                · replace h := h.1 hp5; exact ze hp5 (yaf (j5 _ _ _ ⟨h, rfl, hE1, hE2, hE7, hE11, hE14, hE67, hE68, hE69, (hS.sel [0, 1, 2, 3, 5] (by decide))⟩))
                · replace h := h.2 hp5; exact zf hp5 (zs (zq (za (.bool (false))) (yaa (yal rfl rfl ⟨_, rfl, (hS.sel [] (by decide)), h⟩))))
              · replace h := h.2 hp4; exact rl_p (yad rfl (yaj rfl (congrArg Value.bool (congrArg Bool.not (decide_eq_false hp4)))) rfl) rfl (rl_p (yad rfl (yaj rfl (congrArg Value.bool (congrArg Bool.not (decide_eq_false hp4)))) rfl) rfl (rl_p (yad rfl (yaj rfl (congrArg Value.bool (congrArg Bool.not (decide_eq_false hp4)))) rfl) rfl (rl_p (yad rfl (yaj rfl (congrArg Value.bool (congrArg Bool.not (decide_eq_false hp4)))) rfl) rfl (rl_p (yad rfl (yaj rfl (congrArg Value.bool (congrArg Bool.not (decide_eq_false hp4)))) rfl) rfl (rl_p (yad rfl (yaj rfl (congrArg Value.bool (congrArg Bool.not (decide_eq_false hp4)))) rfl) rfl (zq (yaB (v := (.bool (true))) (congrArg Value.bool (congrArg Bool.not (decide_eq_false hp4))) rfl) (yaa (yau rfl (zs (zq (za (.bool (false))) (yaa (yal rfl rfl ⟨_, rfl, (hS.sel [] (by decide)), h⟩))))))))))))
            · replace h := h.2 hp3; exact zd hp3 (yaf (j4 _ _ _ ⟨h, rfl, hE1, hE2, hE7, hE11, hE14, hE67, hE68, hE69, (hS.sel [0, 1, 2, 3, 5] (by decide))⟩))
          clear hJ; intro j3; refine zr (zq (zm (ii r14)) (zq zN (zq (zm (.bool (!(decide (r14 = 0))))) ?_))); by_cases hp6 : r14 = 0
          · replace h := h.1 hp6; refine rl_q (yae rfl (yaj rfl (congrArg Value.bool (congrArg Bool.not (decide_eq_true hp6))))) rfl rfl (zm (ii r18)) (rl_q (yae rfl (yaj rfl (congrArg Value.bool (congrArg Bool.not (decide_eq_true hp6))))) rfl rfl zN (zq (yaz (v := (.bool (!(decide (r18 = 0))))) (congrArg Value.bool (congrArg Bool.not (decide_eq_true hp6))) rfl) (zq (zm (.bool (!(decide (r18 = 0))))) ?_))); by_cases hp7 : r18 = 0
            · replace h := h.1 hp7; refine rl_q (yae rfl (yaj rfl (congrArg Value.bool (congrArg Bool.not (decide_eq_true hp7))))) rfl rfl (yas (vs := [(ii d), (.slice Ad ld cd)]) hE2 underlying24 rfl yaq ⟨Row.cell (hS.bx 1 rfl) (i := 0) rfl, Row.cell (hS.bx 1 rfl) (i := 1) rfl, trivial⟩) (rl_q (yae rfl (yaj rfl (congrArg Value.bool (congrArg Bool.not (decide_eq_true hp7))))) rfl rfl (yab hE13) (rl_q (yae rfl (yaj rfl (congrArg Value.bool (congrArg Bool.not (decide_eq_true hp7))))) rfl rfl (yab hE16) (rl_q (yae rfl (yaj rfl (congrArg Value.bool (congrArg Bool.not (decide_eq_true hp7))))) rfl rfl (zm (.slice Ar6 lr6 cr6)) (rl_n (yae rfl (yaj rfl (congrArg Value.bool (congrArg Bool.not (decide_eq_true hp7))))) rfl rfl rfl (yan rfl (am4 rfl rfl rfl rfl) enter_38 ((yjB h (yaF _) (hS.rdr 2 rfl) (hS.rdr 4 rfl) (hS.rdr 5 rfl) (hS.rdo 9 rfl)).mono ?_)))))); rintro _ w24 ⟨r22, rfl, hC, h⟩; replace hS := hS.pur hC.pure; clear hC; refine ⟨_, rfl, ?_⟩; refine zb (rl_q (yae rfl (yaj rfl (congrArg Value.bool (congrArg Bool.not (decide_eq_true hp7))))) rfl rfl zN (zq (yaz (v := (.bool (!(decide (r22 = 0))))) (congrArg Value.bool (congrArg Bool.not (decide_eq_true hp7))) rfl) (yaa ?_))); by_cases hp8 : r22 = 0
              · replace h := h.1 hp8; exact ze hp8 (yaf (j3 _ _ _ ⟨h, rfl, hE1, hE2, hE7, hE11, hE13, hE14, hE67, hE68, hE69, (hS.sel [0, 1, 2, 3, 4, 6] (by decide))⟩))
              · replace h := h.2 hp8; exact zf hp8 (zs (zq (za (.bool (false))) (yaa (yal rfl rfl ⟨_, rfl, (hS.sel [] (by decide)), h⟩))))
            · replace h := h.2 hp7; exact rl_p (yad rfl (yaj rfl (congrArg Value.bool (congrArg Bool.not (decide_eq_false hp7)))) rfl) rfl (rl_p (yad rfl (yaj rfl (congrArg Value.bool (congrArg Bool.not (decide_eq_false hp7)))) rfl) rfl (rl_p (yad rfl (yaj rfl (congrArg Value.bool (congrArg Bool.not (decide_eq_false hp7)))) rfl) rfl (rl_p (yad rfl (yaj rfl (congrArg Value.bool (congrArg Bool.not (decide_eq_false hp7)))) rfl) rfl (rl_p (yad rfl (yaj rfl (congrArg Value.bool (congrArg Bool.not (decide_eq_false hp7)))) rfl) rfl (rl_p (yad rfl (yaj rfl (congrArg Value.bool (congrArg Bool.not (decide_eq_false hp7)))) rfl) rfl (zq (yaB (v := (.bool (true))) (congrArg Value.bool (congrArg Bool.not (decide_eq_false hp7))) rfl) (yaa (yau rfl (zs (zq (za (.bool (false))) (yaa (yal rfl rfl ⟨_, rfl, (hS.sel [] (by decide)), h⟩))))))))))))
          · replace h := h.2 hp6; exact rl_p (yad rfl (yaj rfl (congrArg Value.bool (congrArg Bool.not (decide_eq_false hp6)))) rfl) rfl (rl_p (yad rfl (yaj rfl (congrArg Value.bool (congrArg Bool.not (decide_eq_false hp6)))) rfl) rfl (zq (yaB (v := (.bool (true))) (congrArg Value.bool (congrArg Bool.not (decide_eq_false hp6))) rfl) (zq (zm (.bool (true))) (rl_p (yad rfl (yaj rfl rfl) rfl) rfl (rl_p (yad rfl (yaj rfl rfl) rfl) rfl (rl_p (yad rfl (yaj rfl rfl) rfl) rfl (rl_p (yad rfl (yaj rfl rfl) rfl) rfl (rl_p (yad rfl (yaj rfl rfl) rfl) rfl (rl_p (yad rfl (yaj rfl rfl) rfl) rfl (zq (yaB (v := (.bool (true))) rfl rfl) (yaa (yau rfl (zs (zq (za (.bool (false))) (yaa (yal rfl rfl ⟨_, rfl, (hS.sel [] (by decide)), h⟩))))))))))))))))
        clear hJ; intro j2; refine zr (zq (zm (ii r10)) (zq zN (zq (zm (.bool (!(decide (r10 = 0))))) ?_))); by_cases hp9 : r10 = 0
        · replace h := h.1 hp9; refine rl_q (yae rfl (yaj rfl (congrArg Value.bool (congrArg Bool.not (decide_eq_true hp9))))) rfl rfl (zm (ii r12)) (rl_q (yae rfl (yaj rfl (congrArg Value.bool (congrArg Bool.not (decide_eq_true hp9))))) rfl rfl zN (zq (yaz (v := (.bool (!(decide (r12 = 0))))) (congrArg Value.bool (congrArg Bool.not (decide_eq_true hp9))) rfl) (zq (zm (.bool (!(decide (r12 = 0))))) ?_))); by_cases hp10 : r12 = 0
          · replace h := h.1 hp10; refine rl_q (yae rfl (yaj rfl (congrArg Value.bool (congrArg Bool.not (decide_eq_true hp10))))) rfl rfl (zm (ii r9)) (rl_q (yae rfl (yaj rfl (congrArg Value.bool (congrArg Bool.not (decide_eq_true hp10))))) rfl rfl zL (zq (yaz (v := (.bool (decide (r9 < (-1))))) (congrArg Value.bool (congrArg Bool.not (decide_eq_true hp10))) rfl) (zq (zm (.bool (decide (r9 < (-1))))) ?_))); by_cases hp11 : r9 < (-1)
            · replace h := h.1 hp11; exact rl_p (yad rfl (yaj rfl (congrArg Value.bool (decide_eq_true hp11))) rfl) rfl (rl_p (yad rfl (yaj rfl (congrArg Value.bool (decide_eq_true hp11))) rfl) rfl (zq (yaB (v := (.bool (true))) (congrArg Value.bool (decide_eq_true hp11)) rfl) (zq (zm (.bool (true))) (rl_p (yad rfl (yaj rfl rfl) rfl) rfl (rl_p (yad rfl (yaj rfl rfl) rfl) rfl (rl_p (yad rfl (yaj rfl rfl) rfl) rfl (rl_p (yad rfl (yaj rfl rfl) rfl) rfl (rl_p (yad rfl (yaj rfl rfl) rfl) rfl (zq (yaB (v := (.bool (true))) rfl rfl) (yaa (yau rfl (zs (zq (za (.bool (false))) (yaa (yal rfl rfl ⟨_, rfl, (hS.sel [] (by decide)), h⟩)))))))))))))))
            · replace h := h.2 hp11; refine rl_q (yae rfl (yaj rfl (congrArg Value.bool (decide_eq_false hp11)))) rfl rfl (zm (ii r9)) (rl_q (yae rfl (yaj rfl (congrArg Value.bool (decide_eq_false hp11)))) rfl rfl zG (zq (yaz (v := (.bool (decide (5 < r9)))) (congrArg Value.bool (decide_eq_false hp11)) rfl) (zq (zm (.bool (decide (5 < r9)))) ?_))); by_cases hp12 : 5 < r9
              · replace h := h.1 hp12; exact rl_p (yad rfl (yaj rfl (congrArg Value.bool (decide_eq_true hp12))) rfl) rfl (rl_p (yad rfl (yaj rfl (congrArg Value.bool (decide_eq_true hp12))) rfl) rfl (rl_p (yad rfl (yaj rfl (congrArg Value.bool (decide_eq_true hp12))) rfl) rfl (rl_p (yad rfl (yaj rfl (congrArg Value.bool (decide_eq_true hp12))) rfl) rfl (rl_p (yad rfl (yaj rfl (congrArg Value.bool (decide_eq_true hp12))) rfl) rfl (zq (yaB (v := (.bool (true))) (congrArg Value.bool (decide_eq_true hp12)) rfl) (yaa (yau rfl (zs (zq (za (.bool (false))) (yaa (yal rfl rfl ⟨_, rfl, (hS.sel [] (by decide)), h⟩)))))))))))
              · replace h := h.2 hp12; refine rl_q (yae rfl (yaj rfl (congrArg Value.bool (decide_eq_false hp12)))) rfl rfl (zm (.slice Ar3 lr3 cr3)) (rl_q (yae rfl (yaj rfl (congrArg Value.bool (decide_eq_false hp12)))) rfl rfl (yaO (n := r11.length) rfl underlying26 (yaL (hS.rdr 6 rfl))) (rl_q (yae rfl (yaj rfl (congrArg Value.bool (decide_eq_false hp12)))) rfl rfl (yam hE2 underlying24 rfl yag) (rl_q (yae rfl (yaj rfl (congrArg Value.bool (decide_eq_false hp12)))) rfl rfl (zl underlying3 (Row.cell (hS.bx 2 rfl) (i := 0) rfl)) (rl_q (yae rfl (yaj rfl (congrArg Value.bool (decide_eq_false hp12)))) rfl rfl zN (zq (yaz (v := (.bool (!(decide (((r11.length : Nat) : Int) = d))))) (congrArg Value.bool (decide_eq_false hp12)) rfl) (yaa ?_)))))); by_cases hp13 : ((r11.length : Nat) : Int) = d
                · replace h := h.1 hp13; exact ze hp13 (yaf (j2 _ _ _ ⟨h, rfl, hE1, hE2, hE7, hE11, rfl, rfl, rfl, hE67, hE68, hE69, (hS.sel [1, 2, 3, 0, 5, 6, 4] (by decide))⟩))
                · replace h := h.2 hp13; exact zf hp13 (zs (zq (za (.bool (false))) (yaa (yal rfl rfl ⟨_, rfl, (hS.sel [] (by decide)), h⟩))))
          · replace h := h.2 hp10; exact rl_p (yad rfl (yaj rfl (congrArg Value.bool (congrArg Bool.not (decide_eq_false hp10)))) rfl) rfl (rl_p (yad rfl (yaj rfl (congrArg Value.bool (congrArg Bool.not (decide_eq_false hp10)))) rfl) rfl (zq (yaB (v := (.bool (true))) (congrArg Value.bool (congrArg Bool.not (decide_eq_false hp10))) rfl) (zq (zm (.bool (true))) (rl_p (yad rfl (yaj rfl rfl) rfl) rfl (rl_p (yad rfl (yaj rfl rfl) rfl) rfl (zq (yaB (v := (.bool (true))) rfl rfl) (zq (zm (.bool (true))) (rl_p (yad rfl (yaj rfl rfl) rfl) rfl (rl_p (yad rfl (yaj rfl rfl) rfl) rfl (rl_p (yad rfl (yaj rfl rfl) rfl) rfl (rl_p (yad rfl (yaj rfl rfl) rfl) rfl (rl_p (yad rfl (yaj rfl rfl) rfl) rfl (zq (yaB (v := (.bool (true))) rfl rfl) (yaa (yau rfl (zs (zq (za (.bool (false))) (yaa (yal rfl rfl ⟨_, rfl, (hS.sel [] (by decide)), h⟩)))))))))))))))))))
        · replace h := h.2 hp9; exact rl_p (yad rfl (yaj rfl (congrArg Value.bool (congrArg Bool.not (decide_eq_false hp9)))) rfl) rfl (rl_p (yad rfl (yaj rfl (congrArg Value.bool (congrArg Bool.not (decide_eq_false hp9)))) rfl) rfl (zq (yaB (v := (.bool (true))) (congrArg Value.bool (congrArg Bool.not (decide_eq_false hp9))) rfl) (zq (zm (.bool (true))) (rl_p (yad rfl (yaj rfl rfl) rfl) rfl (rl_p (yad rfl (yaj rfl rfl) rfl) rfl (zq (yaB (v := (.bool (true))) rfl rfl) (zq (zm (.bool (true))) (rl_p (yad rfl (yaj rfl rfl) rfl) rfl (rl_p (yad rfl (yaj rfl rfl) rfl) rfl (zq (yaB (v := (.bool (true))) rfl rfl) (zq (zm (.bool (true))) (rl_p (yad rfl (yaj rfl rfl) rfl) rfl (rl_p (yad rfl (yaj rfl rfl) rfl) rfl (rl_p (yad rfl (yaj rfl rfl) rfl) rfl (rl_p (yad rfl (yaj rfl rfl) rfl) rfl (rl_p (yad rfl (yaj rfl rfl) rfl) rfl (zq (yaB (v := (.bool (true))) rfl rfl) (yaa (yau rfl (zs (zq (za (.bool (false))) (yaa (yal rfl rfl ⟨_, rfl, (hS.sel [] (by decide)), h⟩)))))))))))))))))))))))
      · replace h := h.2 hp2; refine zd hp2 (yav rfl (yac (ya3 [0, 1, 2, 3, 4, 5, 6, 7, 10, 8, 9, 11, 12, 13, 14, 15, 16] (fun i => match i with | 8 => [0, 1, 2, 3, 4, 5, 6, 10] | _ => []) ya8 (by kernel_rfl) (by kernel_rfl) ?_))); replace hS := hS.drew; refine zp (yab hE11) ?_; obtain ⟨hx3, h⟩ := h; refine zp (zi underlying25 yag (yaG (hS.rdo 0 rfl) hx3)) (zp (yah (v := (ii (gi v (0 : Int).toNat))) rfl underlying3 rfl (rd_1 (hS.rdo 0 rfl) hx3 (fun q => yaI q) rfl)) ?_); refine zp (yab hE11) ?_; obtain ⟨hx4, h⟩ := h; refine zp (zi underlying25 yag (yaG (hS.rdo 0 rfl) hx4)) (zp (yah (v := (ii (gi v (1 : Int).toNat))) rfl underlying3 rfl (rd_1 (hS.rdo 0 rfl) hx4 (fun q => yaI q) rfl)) ?_); obtain ⟨hi2, h⟩ := h; refine zp (zS hi2) (zp (yab hE1) (zp (yab hE7) (rp_n rfl rfl rfl rfl (yan rfl (am1 rfl) ye6 ((yb3 h (yaF _) (hS.rdr 1 rfl)).mono ?_))))); rintro _ w25 ⟨r23, rfl, hC, h⟩; replace hS := hS.pur hC.pure; clear hC; refine ⟨_, rfl, ?_⟩; refine ⟨⟨fun _ => (yab hE7), ⟨fun hh => Bool.noConfusion (show false = true from hh), ⟨fun _ => (zS hi2), ⟨fun _ => (yah (v := (ii (gi v (1 : Int).toNat))) rfl underlying3 rfl (rd_1 (hS.rdo 0 rfl) hx4 (fun q => yaI q) rfl)), ⟨fun _ => (zi underlying25 yag (yaG (hS.rdo 0 rfl) hx4)), ⟨fun _ => (yab hE11), ⟨fun _ => (yah (v := (ii (gi v (0 : Int).toNat))) rfl underlying3 rfl (rd_1 (hS.rdo 0 rfl) hx3 (fun q => yaI q) rfl)), ⟨fun _ => (zi underlying25 yag (yaG (hS.rdo 0 rfl) hx3)), ⟨fun _ => (yab hE11), trivial⟩⟩⟩⟩⟩⟩⟩⟩⟩, ?_⟩; obtain ⟨hi3, h⟩ := h; refine zp (zA hi3) ?_; obtain ⟨hi4, h⟩ := h; refine zp (zS hi4) (zp zE (zp (zm (.bool (decide (((gi v (0 : Int).toNat) - (gi v (1 : Int).toNat)) = ((r23 + 1) - r5))))) ?_)); by_cases hp14 : ((gi v (0 : Int).toNat) - (gi v (1 : Int).toNat)) = ((r23 + 1) - r5)
        · replace h := h.1 hp14; refine rp_n (yae rfl (yaj rfl (congrArg Value.bool (decide_eq_true hp14)))) rfl rfl rfl (yan rfl (am0) enter_31 ((yjd h (yaF _)).mono ?_)); rintro _ w26 ⟨r24, rfl, hC, h⟩; replace hS := hS.pur hC.pure; clear hC; refine ⟨_, rfl, ?_⟩; exact zb (zp (yaB (v := (.bool (r24))) (congrArg Value.bool (decide_eq_true hp14)) rfl) (zp (za (.bool (r24))) (ybl (yal rfl rfl ⟨_, rfl, (hS.sel [] (by decide)), h⟩))))
        · replace h := h.2 hp14; exact rp_p (yad rfl (yaj rfl (congrArg Value.bool (decide_eq_false hp14))) rfl) rfl (zp (yaz (v := (.bool (false))) (congrArg Value.bool (decide_eq_false hp14)) rfl) (zp (za (.bool (false))) (ybl (yal rfl rfl ⟨_, rfl, (hS.sel [] (by decide)), h⟩))))
    clear hJ; intro j; refine zr (zq (zm (ii r4)) (zq (zm (ii r6)) ?_)); obtain ⟨hi5, h⟩ := h; refine zq (zA hi5) (zq (zm (ii r8)) ?_); obtain ⟨hi6, h⟩ := h; refine zq (zA hi6) (zq zN (zq (zm (.bool (!(decide (((r4 + r6) + r8) = 0))))) ?_)); by_cases hp15 : ((r4 + r6) + r8) = 0
    · replace h := h.1 hp15; refine rl_q (yae rfl (yaj rfl (congrArg Value.bool (congrArg Bool.not (decide_eq_true hp15))))) rfl rfl (zm (.slice Ar2 lr2 cr2)) (rl_q (yae rfl (yaj rfl (congrArg Value.bool (congrArg Bool.not (decide_eq_true hp15))))) rfl rfl (yaO (n := r7.length) rfl underlying26 (yaL (hS.rdo 5 rfl))) (rl_q (yae rfl (yaj rfl (congrArg Value.bool (congrArg Bool.not (decide_eq_true hp15))))) rfl rfl (yam rfl underlying24 rfl yag) (rl_q (yae rfl (yaj rfl (congrArg Value.bool (congrArg Bool.not (decide_eq_true hp15))))) rfl rfl (zl underlying3 (Row.cell (hS.bx 2 rfl) (i := 0) rfl)) (rl_q (yae rfl (yaj rfl (congrArg Value.bool (congrArg Bool.not (decide_eq_true hp15))))) rfl rfl zN (zq (yaz (v := (.bool (!(decide (((r7.length : Nat) : Int) = d))))) (congrArg Value.bool (congrArg Bool.not (decide_eq_true hp15))) rfl) (zq (zm (.bool (!(decide (((r7.length : Nat) : Int) = d))))) ?_)))))); by_cases hp16 : ((r7.length : Nat) : Int) = d
      · replace h := h.1 hp16; refine rl_q (yae rfl (yaj rfl (congrArg Value.bool (congrArg Bool.not (decide_eq_true hp16))))) rfl rfl (zm (.slice Ar2 lr2 cr2)) (rl_q (yae rfl (yaj rfl (congrArg Value.bool (congrArg Bool.not (decide_eq_true hp16))))) rfl rfl (yam rfl underlying24 rfl yag) (rl_q (yae rfl (yaj rfl (congrArg Value.bool (congrArg Bool.not (decide_eq_true hp16))))) rfl rfl (zl underlying3 (Row.cell (hS.bx 2 rfl) (i := 0) rfl)) (rl_n (yae rfl (yaj rfl (congrArg Value.bool (congrArg Bool.not (decide_eq_true hp16))))) rfl rfl rfl (yan rfl (am2 rfl rfl) yjY ((ygX h (yaF _) (hS.rdo 5 rfl)).mono ?_))))); rintro _ w27 ⟨r25, rfl, hC, h⟩; replace hS := hS.pur hC.pure; clear hC; refine ⟨_, rfl, ?_⟩; refine zb (rl_q (yae rfl (yaj rfl (congrArg Value.bool (congrArg Bool.not (decide_eq_true hp16))))) rfl rfl zN (zq (yaz (v := (.bool (!(decide (r25 = 0))))) (congrArg Value.bool (congrArg Bool.not (decide_eq_true hp16))) rfl) (yaa ?_))); by_cases hp17 : r25 = 0
        · replace h := h.1 hp17; exact ze hp17 (yaf (j _ _ _ ⟨h, rfl, rfl, rfl, rfl, rfl, (hS.sel [1, 2, 0, 5] (by decide))⟩))
        · replace h := h.2 hp17; exact zf hp17 (zs (zq (za (.bool (false))) (yaa (yal rfl rfl ⟨_, rfl, (hS.sel [] (by decide)), h⟩))))
      · replace h := h.2 hp16; exact rl_p (yad rfl (yaj rfl (congrArg Value.bool (congrArg Bool.not (decide_eq_false hp16)))) rfl) rfl (rl_p (yad rfl (yaj rfl (congrArg Value.bool (congrArg Bool.not (decide_eq_false hp16)))) rfl) rfl (rl_p (yad rfl (yaj rfl (congrArg Value.bool (congrArg Bool.not (decide_eq_false hp16)))) rfl) rfl (rl_p (yad rfl (yaj rfl (congrArg Value.bool (congrArg Bool.not (decide_eq_false hp16)))) rfl) rfl (rl_p (yad rfl (yaj rfl (congrArg Value.bool (congrArg Bool.not (decide_eq_false hp16)))) rfl) rfl (zq (yaB (v := (.bool (true))) (congrArg Value.bool (congrArg Bool.not (decide_eq_false hp16))) rfl) (yaa (yau rfl (zs (zq (za (.bool (false))) (yaa (yal rfl rfl ⟨_, rfl, (hS.sel [] (by decide)), h⟩)))))))))))
    · replace h := h.2 hp15; exact rl_p (yad rfl (yaj rfl (congrArg Value.bool (congrArg Bool.not (decide_eq_false hp15)))) rfl) rfl (rl_p (yad rfl (yaj rfl (congrArg Value.bool (congrArg Bool.not (decide_eq_false hp15)))) rfl) rfl (rl_p (yad rfl (yaj rfl (congrArg Value.bool (congrArg Bool.not (decide_eq_false hp15)))) rfl) rfl (rl_p (yad rfl (yaj rfl (congrArg Value.bool (congrArg Bool.not (decide_eq_false hp15)))) rfl) rfl (rl_p (yad rfl (yaj rfl (congrArg Value.bool (congrArg Bool.not (decide_eq_false hp15)))) rfl) rfl (zq (yaB (v := (.bool (true))) (congrArg Value.bool (congrArg Bool.not (decide_eq_false hp15))) rfl) (zq (zm (.bool (true))) (rl_p (yad rfl (yaj rfl rfl) rfl) rfl (rl_p (yad rfl (yaj rfl rfl) rfl) rfl (rl_p (yad rfl (yaj rfl rfl) rfl) rfl (rl_p (yad rfl (yaj rfl rfl) rfl) rfl (rl_p (yad rfl (yaj rfl rfl) rfl) rfl (zq (yaB (v := (.bool (true))) rfl rfl) (yaa (yau rfl (zs (zq (za (.bool (false))) (yaa (yal rfl rfl ⟨_, rfl, (hS.sel [] (by decide)), h⟩))))))))))))))))))
  · replace h := h.2 hp; refine yau (congrArg Value.bool (congrArg Bool.not (Bool.eq_false_iff.2 hp))) (zs (zn (yan rfl (am0) enter_31 ((yjd h (yaF _)).mono ?_)))); rintro _ w28 ⟨r26, rfl, hC, h⟩; replace hS := hS.pur hC.pure; clear hC; refine ⟨_, rfl, ?_⟩; exact zb (zq (za (.bool (r26))) (yaa (yal rfl rfl ⟨_, rfl, (hS.sel [] (by decide)), h⟩)))
end Go.Proofs.YtmeoemmemjipdaaGreat

/- What the references' pure forms come to: graphs and divisors. -/
namespace Go.Proofs.YtmeoemmemjipdaaGreat
open Go Go.Proofs.Tryz
set_option linter.unusedVariables false
set_option linter.unusedSimpArgs false
theorem p_r17_In {k : Int} {R : Bool → Prop} (h : R (inF k)) : yfB k R := by
  unfold yfB
  refine ⟨fun h1 => ?_, fun h1 => ?_⟩
  · have e : decide (k ≤ 1048576) = inF k := by unfold inF; simp [h1]
    rw [e]; exact h
  · have e : false = inF k := by unfold inF; simp [h1]
    rw [e]; exact h
theorem yhr {n v : Int} {es : List E3} {R : Bool → Prop} (h : R (decide (0 ≤ v ∧ v < n))) : ycv n es v R := by
  unfold ycv
  refine ⟨fun h1 => ?_, fun h1 => ?_⟩
  · have e : decide (v < n) = decide (0 ≤ v ∧ v < n) := by simp [h1]
    rw [e]; exact h
  · have e : false = decide (0 ≤ v ∧ v < n) := by simp [h1]
    rw [e]; exact h
theorem yiC {d : List Int} {n : Int} {R : Int → Prop} (h : R (yaM d n)) : ycP d n R := by
  unfold ycP
  have hout : ¬ (1 ≤ n ∧ n ≤ 12) → R 2 := fun q => by
    have : yaM d n = 2 := by unfold yaM yfs; rw [if_neg q, if_neg (by omega)]
    rwa [this] at h
  refine ⟨1 ≤ n ∧ n ≤ 12, fun hn => ?_, fun q => hout (by omega), fun q => ⟨fun q2 => hout (by omega), fun q2 => ⟨by omega, by omega⟩⟩⟩
  have hc : yaM d n = if (d.length : Int) = n then (if d.all inF then 0 else 2) else 8 := by unfold yaM; rw [if_pos (by unfold yfs; rw [if_pos hn])]
  rw [hc] at h
  refine ⟨fun hln => ?_, fun hln => by rwa [if_neg hln] at h⟩
  rw [if_pos hln] at h
  refine ⟨Cnt d.length (fun k => ∀ j, j < k → inF (gi d j) = true), Cnt.start (fun j hj => absurd hj (by omega)), ?_⟩
  rintro m _ ⟨k, rfl, rfl, hk, hinv⟩
  refine ⟨fun hlt => ⟨by omega, p_r17_In ⟨fun h1 => Cnt.next (by omega) (by omega) fun j hj => ?_, fun h1 => ?_⟩⟩, fun hge => ?_⟩
  · by_cases e : j = k
    · subst e; simpa using h1
    · exact hinv j (by omega)
  · rw [if_neg (fun hall => h1 ((ycQ inF d).1 hall _ (by omega)))] at h; exact h
  · rw [if_pos ((ycQ inF d).2 fun j hj => hinv j (by omega))] at h; exact h
theorem ycO {d : List Int} {R : Int → Prop} (hl : d.length ≤ 1000000) (hb : ∀ i, i < d.length → -1000000000000 ≤ gi d i ∧ gi d i ≤ 1000000000000) (h : R (dg d)) : ybs d R := by
  unfold ybs
  refine ⟨fun m n v => Cnt d.length (fun k => n = sm k (gi d)) m v, Cnt.start rfl, ?_⟩
  rintro m n _ ⟨k, rfl, rfl, hk, rfl⟩
  refine ⟨fun hlt => ⟨by omega, ?_, Cnt.next (by omega) (by omega) rfl⟩, fun hge => ?_⟩
  · have := yc0 (f := gi d) (B := 1000000000000) (by omega) (n := k + 1) fun i hi => hb i (by omega)
    rw [sm] at this
    exact i64 (by simp only [Int.toNat_natCast]; omega)
  · have : k = d.length := by omega
    subst this; exact h
def paidF (d : List Int) : Bool := (List.range d.length).all fun v => decide (0 ≤ gi d v)
theorem yjm {d : List Int} : paidF d = true ↔ ∀ v, v < d.length → 0 ≤ gi d v := by simp [paidF]
theorem p_r08_edge {n : Int} {es : List E3} {k : Nat} {R : Int → Prop} (hk : k < es.length) (hl : es.length ≤ 1000000000) (h : R (ygl n (pre es k).1 (pre es k).2 (ge es k))) : yd8 n es (k : Int) R := by
  unfold yd8
  simp only [Int.toNat_natCast]
  generalize hx : ge es k = x at h ⊢
  refine ⟨by omega, (0 ≤ x.1 ∧ x.1 < n) ∧ (0 ≤ x.2.1 ∧ x.2.1 < n) ∧ 1 ≤ x.2.2 ∧ x.2.2 ≤ 50, fun hJ => ?_, ?_⟩
  · have hed : ∀ a b, ygl n a b x = if x.1 ≤ x.2.1 ∧ yft a b x.1 x.2.1 < 0 then 0 else 9 := fun a b => by unfold ygl; rw [if_pos hJ]
    rw [hed] at h
    refine ⟨fun q => by rw [if_neg (by omega)] at h; exact h, fun q => ⟨fun h0 => ?_, fun h0 => ?_⟩⟩
    · have e1 : ((k : Int) - 1).toNat = k - 1 := by omega
      rw [e1]
      have hp : pre es k = ((ge es (k - 1)).1, (ge es (k - 1)).2.1) := by unfold pre; rw [if_neg (by omega)]
      rw [hp] at h
      have hc := yiv (ge es (k - 1)).1 (ge es (k - 1)).2.1 x.1 x.2.1
      refine ⟨i64 (by omega), by omega, fun q1 => ?_, fun q1 => ⟨fun q2 => ⟨fun q3 => ?_, fun q3 => ?_⟩, fun q2 => ?_⟩⟩
      · rw [if_neg (fun h => by have := hc.1 h.2; omega)] at h; exact h
      · rw [if_neg (fun h => by have := hc.1 h.2; omega)] at h; exact h
      · rw [if_pos ⟨by omega, hc.2 (by omega)⟩] at h; exact h
      · rw [if_pos ⟨by omega, hc.2 (by omega)⟩] at h; exact h
    · have hp : pre es k = (-1, -1) := by unfold pre; rw [if_pos (by omega)]
      rw [hp, if_pos ⟨by omega, (yiv _ _ _ _).2 (.inl (by omega))⟩] at h
      exact h
  · have hed : ¬ ((0 ≤ x.1 ∧ x.1 < n) ∧ (0 ≤ x.2.1 ∧ x.2.1 < n) ∧ 1 ≤ x.2.2 ∧ x.2.2 ≤ 50) → R 2 := fun q => by unfold ygl at h; rwa [if_neg q] at h
    refine yhr ⟨fun h1 => yhr ⟨fun h2 => ⟨fun h3 => hed (by omega), fun h3 => ⟨fun h4 => hed (by omega), fun h4 => ?_⟩⟩, fun h2 => hed (by simp at h2; omega)⟩, fun h1 => hed (by simp at h1; omega)⟩
    simp only [decide_eq_true_eq] at h1 h2
    exact ⟨h1, h2, by omega, by omega⟩
theorem yiK {n : Int} {es : List E3} {R : Int → Prop} (hl : es.length ≤ 1000000000) (h : R (yat n es)) : ycR n es R := by
  unfold ycR
  have hout : ¬ (1 ≤ n ∧ n ≤ 12) → R 2 := fun q => by unfold yat at h; rwa [if_neg q] at h
  refine ⟨1 ≤ n ∧ n ≤ 12, fun hn => ?_, fun q => hout (by omega), fun q => ⟨fun q2 => hout (by omega), fun q2 => ⟨by omega, by omega⟩⟩⟩
  have hg : yat n es = gchk n (-1) (-1) es := by unfold yat; rw [if_pos hn]
  rw [hg] at h
  refine ⟨Cnt es.length (fun k => gchk n (-1) (-1) es = gchk n (pre es k).1 (pre es k).2 (es.drop k)), Cnt.start rfl, ?_⟩
  rintro m _ ⟨k, rfl, rfl, hk, hinv⟩
  refine ⟨fun hlt => p_r08_edge (by omega) hl ⟨fun h0 => Cnt.next (by omega) (by omega) ?_, fun h0 => ?_⟩, fun hge => ?_⟩
  · rw [ygY (by omega), yfF, if_pos h0] at hinv
    rw [hinv]; simp [pre]
  · rw [ygY (by omega), yfF, if_neg h0] at hinv
    rwa [hinv] at h
  · have hk2 : k = es.length := by omega
    rw [hinv, hk2, List.drop_length] at h
    exact h
theorem p_r08_Between' {n : Int} {es : List E3} {a b : Int} {R : Int → Prop} (hl : es.length ≤ 1000000000) (h : R (((es.find? fun x => decide (x.1 = mnF a b ∧ x.2.1 = mxF a b)).map (·.2.2)).getD 0)) : ya9 n es a b R := by
  unfold ya9
  refine ⟨Cnt es.length (fun k => es.find? (fun x => decide (x.1 = mnF a b ∧ x.2.1 = mxF a b)) = (es.drop k).find? (fun x => decide (x.1 = mnF a b ∧ x.2.1 = mxF a b))), Cnt.start rfl, ?_⟩
  rintro m _ ⟨k, rfl, rfl, hk, hinv⟩
  refine ⟨fun hlt => ?_, fun hge => ?_⟩
  · have hlt : k < es.length := by omega
    rw [ygY hlt, List.find?_cons] at hinv
    simp only [Int.toNat_natCast]
    refine ⟨by omega, fun h1 => ⟨fun h2 => ?_, fun h2 => Cnt.next hlt (by omega) ?_⟩, fun h1 => Cnt.next hlt (by omega) ?_⟩
    · rw [hinv] at h; simpa [h1, h2] using h
    · rw [hinv]; simp [h2]
    · rw [hinv]; simp [h1]
  · have hk2 : k = es.length := by omega
    rw [hinv, hk2, List.drop_length] at h
    exact h
theorem ygS {n : Int} {es : List E3} (hg : yat n es = 0) (u v : Nat) : 0 ≤ W es u v ∧ W es u v ≤ 50 := by
  by_cases e : u = v
  · subst e; rw [yfK]; omega
  · have hok := gchk_ok es _ _ (ye4 hg)
    rw [← yh9 u v e es (-1) (-1) (ye4 hg)]
    cases hf : es.find? fun x => decide (x.1 = mnF (u : Int) v ∧ x.2.1 = mxF (u : Int) v) with
    | none => simp
    | some x => have := hok x (List.mem_of_find?_eq_some hf); simp; omega
theorem ycy {n : Int} {es : List E3} {u v : Nat} {R : Int → Prop} (hl : es.length ≤ 1000000000) (hg : yat n es = 0) (huv : u ≠ v) (h : R (W es u v)) : ya9 n es (u : Int) (v : Int) R :=
  p_r08_Between' hl (by rw [yh9 u v huv es (-1) (-1) (ye4 hg)]; exact h)
theorem yfU {n : Int} {es : List E3} (hg : yat n es = 0) (k v : Nat) : 0 ≤ sm k (fun u => W es v u) ∧ sm k (fun u => W es v u) ≤ k * 50 :=
  ⟨yaX fun i _ => (ygS hg v i).1, (yc0 (f := fun u => W es v u) (B := 50) (by omega) fun i _ => by have := ygS hg v i; omega).2⟩
theorem ygp {n : Nat} {es : List E3} {v : Nat} {R : Int → Prop} (hl : es.length ≤ 1000000000) (hg : yat n es = 0) (h : R (deg n es v)) : ycj (n : Int) es (v : Int) R := by
  obtain ⟨hE, hn1, hn12⟩ := yba hg
  unfold ycj
  refine ⟨fun m a u => Cnt n (fun k => a = sm k (fun u => W es v u)) m u, Cnt.start rfl, ?_⟩
  rintro m a _ ⟨k, rfl, rfl, hk, rfl⟩
  refine ⟨fun hlt => ⟨fun e => Cnt.next (by omega) (by omega) ?_, fun e => ycy hl hg (by omega) ?_⟩, fun hge => ?_⟩
  · have e : k = v := by omega
    subst e
    rw [sm, yfK]; omega
  · have h1 := yfU hg k v
    have h2 := ygS hg k v
    refine ⟨i64 (by omega), Cnt.next (by omega) (by omega) ?_⟩
    rw [sm, ydG es v k]
  · have hk2 : k = n := by omega
    subst hk2; exact h
def yhF (es : List E3) : List (Int × Int) := es.flatMap fun x => List.replicate x.2.2.toNat (x.1, x.2.1)
theorem endsF_take {es : List E3} {k : Nat} (hk : k < es.length) : yhF (es.take (k + 1)) = yhF (es.take k) ++ List.replicate (ge es k).2.2.toNat ((ge es k).1, (ge es k).2.1) := by
  unfold yhF
  rw [List.take_add_one, List.getElem?_eq_getElem hk, ydR hk, List.flatMap_append]
  simp
theorem yhv (es : List E3) (hE : ∀ x ∈ es, 1 ≤ x.2.2 ∧ x.2.2 ≤ 50) : ((yhF es).length : Int) = (es.map (·.2.2)).sum ∧ (yhF es).length ≤ 50 * es.length := by
  induction es with
  | nil => simp [yhF]
  | cons x t ih =>
    have hx := hE x (by simp)
    have := ih fun y hy => hE y (by simp [hy])
    unfold yhF at this ⊢
    rw [List.flatMap_cons, List.length_append, List.length_replicate, List.map_cons, List.sum_cons, List.length_cons]
    omega
theorem p_r08_Ends {n : Int} {es : List E3} {R : List (Int × Int) → Prop} (hl : es.length ≤ 1000) (hE : ∀ x ∈ es, 1 ≤ x.2.2 ∧ x.2.2 ≤ 50) (h : R (yhF es)) : yd6 n es R := by
  unfold yd6
  have hlen : ∀ k, (yhF (es.take k)).length ≤ 50 * k := fun k => by
    have := (yhv (es.take k) fun x hx => hE x (List.mem_of_mem_take hx)).2
    rw [List.length_take] at this
    omega
  refine ⟨fun m out i => Cnt es.length (fun k => out = yhF (es.take k)) m i, Cnt.start (by simp [yhF]), ?_⟩
  rintro m out _ ⟨k, rfl, rfl, hk, rfl⟩
  refine ⟨fun hlt => ?_, fun hge => ?_⟩
  · have hlt : k < es.length := by omega
    have hmk := hE _ (yjI hlt)
    have hl2 := hlen k
    simp only [Int.toNat_natCast]
    refine ⟨fun m2 out2 j => Cnt (ge es k).2.2.toNat (fun i => out2 = yhF (es.take k) ++ List.replicate i ((ge es k).1, (ge es k).2.1)) m2 j, Cnt.start (by simp), ?_⟩
    rintro m2 out2 _ ⟨j, rfl, rfl, hj, rfl⟩
    refine ⟨by omega, fun h1 => ⟨?_, Cnt.next (by omega) (by omega) ?_⟩, fun h1 => Cnt.next hlt (by omega) ?_⟩
    · rw [List.length_append, List.length_replicate]; omega
    · rw [List.append_assoc, List.replicate_succ']
    · have : j = (ge es k).2.2.toNat := by omega
      rw [endsF_take hlt, this]
  · have hk2 : k = es.length := by omega
    rw [hk2, List.take_length]; exact h
theorem p_r08_Size {n : Int} {es : List E3} {R : Int → Prop} (hl : es.length ≤ 1000) (hE : ∀ x ∈ es, 1 ≤ x.2.2 ∧ x.2.2 ≤ 50) (h : R ((es.map (·.2.2)).sum)) : ye2 n es R :=
  p_r08_Ends hl hE (by rw [(yhv es hE).1]; exact h)
theorem p_r08_small {n a b : Int} {es : List E3} {R : Bool → Prop} (h : R (yhl n es a b)) : yds n es a b R := by
  unfold yds
  unfold yhl at h
  refine ⟨fun h1 => ?_, fun h1 => yiK (by omega) ⟨fun h2 => ⟨fun h3 => ?_, fun h3 => ?_⟩, fun h2 => ?_⟩⟩
  · rwa [decide_eq_false (by omega)] at h
  · have hE := gchk_ok es _ _ (ye4 h2)
    refine p_r08_Size (by omega) (fun x hx => (hE x hx).2.2.2.2) ?_
    have e : decide ((es.map (·.2.2)).sum ≤ b) = decide (es.length ≤ 40 ∧ (yat n es = 0 → n ≤ a ∧ (es.map (·.2.2)).sum ≤ b)) := by
      rw [decide_eq_decide]; constructor
      · intro q; exact ⟨by omega, fun _ => ⟨h3, q⟩⟩
      · intro q; exact (q.2 h2).2
    rw [e]; exact h
  · rwa [decide_eq_false (fun q => h3 (q.2 h2).1)] at h
  · rwa [decide_eq_true ⟨by omega, fun q => absurd q h2⟩] at h
end Go.Proofs.YtmeoemmemjipdaaGreat

/- Borrowing: a vertex in debt borrows from its neighbours, until there is no debt, or each vertex has borrowed. No program in sight. -/
namespace Go.Proofs.YtmeoemmemjipdaaGreat
open Go Go.Proofs.Tryz
set_option linter.unusedVariables false
set_option linter.unusedSectionVars false
set_option linter.unusedSimpArgs false
def Win (n : Nat) (es : List E3) (d : List Int) : Prop := ∃ s : Nat → Int, ∀ v, v < n → 0 ≤ gi d v - Lp n es s v
theorem Lp_unit {n : Nat} {es : List E3} {v : Nat} (hv : v < n) (i : Nat) : Lp n es (fun j => if j = v then 1 else 0) i = if i = v then deg n es v else - W es i v := by
  rw [Lp_ind]
  have h1 : sm n (fun u => (if u = v then (1 : Int) else 0) * W es u i) = W es v i := by
    rw [← yc2 (W es v i) hv]
    refine yap fun u hu => ?_
    show (if u = v then (1 : Int) else 0) * W es u i = if u = v then W es v i else 0
    split
    · rename_i e; rw [e]; omega
    · omega
  rw [h1]
  by_cases e : i = v
  · subst e; rw [if_pos rfl, if_pos rfl, yfK]; omega
  · rw [if_neg e, if_neg e, ydG]; omega
structure Bor (n : Nat) (es : List E3) (d : List Int) (c : Nat → Int) (x : List Int) (b : List Bool) : Prop where
  xl : x.length = n
  bl : b.length = n
  val : ∀ v, v < n → gi x v = gi d v + Lp n es c v
  c0 : ∀ v, v < n → 0 ≤ c v
  bo : ∀ v, v < n → (gb b v = true ↔ 0 < c v)
  up : ∀ v, v < n → gi x v ≤ 1000
  least : ∀ t : Nat → Int, (∀ v, v < n → 0 ≤ t v) → (∀ v, v < n → 0 ≤ gi d v + Lp n es t v) → ∀ v, v < n → c v ≤ t v
section
variable {n : Nat} {es : List E3} {d : List Int}
theorem bor_start (hd : d.length = n) (hb : ∀ v, v < n → gi d v ≤ 1000) : Bor n es d (fun _ => 0) d (List.replicate n false) :=
  ⟨hd, by simp, fun v hv => by rw [yeh]; omega, fun v hv => Int.le_refl _, fun v hv => by rw [gb_rep]; simp, hb, fun t ht _ v hv => ht v hv⟩
theorem deg_le {m : Int} (hg : yat m es = 0) (hn : n ≤ 12) (v : Nat) : 0 ≤ deg n es v ∧ deg n es v ≤ 600 := by
  have := yfU hg n v
  unfold deg
  omega
theorem bor_step {m : Int} (hg : yat m es = 0) (hE : EOk n es) (hn : n ≤ 12) {c : Nat → Int} {x : List Int} {b : List Bool} (h : Bor n es d c x b) {v : Nat} (hv : v < n) (hneg : gi x v < 0) {y : List Int} (hyl : y.length = n)
    (hy : ∀ i, i < n → gi y i = if i = v then gi x v + deg n es v else gi x i - W es i v) : Bor n es d (fun j => c j + if j = v then 1 else 0) y (b.set v true) := by
  refine ⟨hyl, by rw [List.length_set, h.bl], fun i hi => ?_, fun i hi => ?_, fun i hi => ?_, fun i hi => ?_, fun t ht0 ht i hi => ?_⟩
  · rw [hy i hi, yfC c (fun j => if j = v then 1 else 0), Lp_unit hv, h.val i hi]
    by_cases e : i = v
    · subst e; rw [if_pos rfl, if_pos rfl, h.val i hi]; omega
    · rw [if_neg e, if_neg e]; omega
  · have := h.c0 i hi
    show 0 ≤ c i + if i = v then 1 else 0
    split <;> omega
  · rw [ydI (by rw [h.bl]; exact hv)]
    have := h.c0 i hi
    show _ ↔ 0 < c i + if i = v then 1 else 0
    by_cases e : i = v
    · rw [if_pos e, if_pos e]; simp; omega
    · rw [if_neg e, if_neg e, h.bo i hi]; simp
  · rw [hy i hi]
    have h1 := deg_le hg hn (n := n) v
    have h2 := h.up i hi
    have h3 := ya4 hE i v
    split <;> omega
  · have h1 := h.least t ht0 ht i hi
    show c i + (if i = v then 1 else 0) ≤ t i
    by_cases e : i = v
    · subst e
      rw [if_pos rfl]
      apply Int.not_lt.1
      intro hlt
      have e2 : t i = c i := by omega
      have h3 : Lp n es t i ≤ Lp n es c i := by
        unfold Lp
        refine ydc fun u hu => ?_
        show W es i u * (t i - t u) ≤ W es i u * (c i - c u)
        exact Int.mul_le_mul_of_nonneg_left (by have := h.least t ht0 ht u hu; omega) (ya4 hE i u)
      have := ht i hi
      have := h.val i hi
      omega
    · rw [if_neg e]; omega
theorem bor_few (hE : EOk n es) (hC : ∀ q, q < n → Conn n es q) (hn : n ≤ 12) (hdb : ∀ v, v < n → -1000 ≤ gi d v) {c : Nat → Int} {x : List Int} {b : List Bool} (h : Bor n es d c x b) {w : Nat} (hw : w < n) (h0 : gb b w ≠ true) : ∀ v, v < n → c v ≤ 288000 := by
  have cw : c w = 0 := by
    have h1 := h.c0 w hw
    have h2 := (h.bo w hw)
    have : ¬ 0 < c w := fun h3 => h0 (h2.2 h3)
    omega
  intro v hv
  have h1 := climb hE (hC w hw) hw (f := c) (G := 24000) (by omega) (fun S hS => ?_) v hv
  · have h2 := low_le (f := c) hv
    have h3 : low n c (c v) * 24000 ≤ 12 * 24000 := Int.mul_le_mul_of_nonneg_right (by omega) (by omega)
    omega
  · have h4 : sm n (fun v => if S v = true then Lp n es c v else 0) ≤ sm n (fun _ => 2000) := ydc fun u hu => by
      show (if S u = true then Lp n es c u else 0) ≤ 2000
      have h5 := h.val u hu
      have h6 := h.up u hu
      have h7 := hdb u hu
      split <;> omega
    rw [ydp] at h4
    omega
theorem bor_total (hn : n ≤ 12) {c : Nat → Int} (hc : ∀ v, v < n → c v ≤ 288000) : sm n c ≤ 3456000 := by
  have h := ydc (f := c) (g := fun _ => 288000) (n := n) hc
  rw [ydp] at h
  omega
theorem bor_count {c : Nat → Int} {v : Nat} (hv : v < n) : sm n (fun j => c j + if j = v then 1 else 0) = sm n c + 1 := by
  rw [ybB c (fun j => if j = v then 1 else 0), yc2 1 hv]
theorem bor_win {c : Nat → Int} {x : List Int} {b : List Bool} (h : Bor n es d c x b) (hx : ∀ v, v < n → 0 ≤ gi x v) : Win n es d := by
  refine ⟨fun i => (-1) * c i, fun v hv => ?_⟩
  rw [ygu]
  have := hx v hv
  rw [h.val v hv] at this
  omega
theorem max_at (s : Nat → Int) : ∀ n : Nat, 1 ≤ n → ∃ w, w < n ∧ ∀ v, v < n → s v ≤ s w
  | 0, h => absurd h (by omega)
  | 1, _ => ⟨0, by omega, fun v hv => by rw [show v = 0 by omega]; omega⟩
  | n + 2, _ => by
    obtain ⟨w, hw, h⟩ := max_at s (n + 1) (by omega)
    by_cases c : s (n + 1) ≤ s w
    · refine ⟨w, by omega, fun v hv => ?_⟩
      by_cases e : v = n + 1
      · rw [e]; exact c
      · exact h v (by omega)
    · refine ⟨n + 1, by omega, fun v hv => ?_⟩
      by_cases e : v = n + 1
      · rw [e]; omega
      · have := h v (by omega); omega
theorem yj7 {q : Nat} {r : List Int} {s : Nat → Int} (hE : EOk n es) (hq : q < n) (hr : Red n es q r) (hl : ∀ v, v < n → gi r v = gi d v - Lp n es s v) : Win n es d ↔ 0 ≤ gi r q := by
  constructor
  · rintro ⟨t, ht⟩
    -- the end of t is the form behind a firing
    have h1 := yg0 hE hq hr (d' := tab (fun v => gi d v - Lp n es t v) n) (fun v hv _ => by rw [yde _ hv]; exact ht v hv) (f := fun i => t i + (-1) * s i) fun v hv => by
      rw [yde _ hv, yfC t (fun i => (-1) * s i), ygu, hl v hv]; omega
    have h2 : 0 ≤ Lp n es (fun i => t i + (-1) * s i) q := by
      unfold Lp
      refine yaX fun u hu => ?_
      exact Int.mul_nonneg (ya4 hE q u) (by have := h1 u hu; show 0 ≤ t q + -1 * s q - (t u + -1 * s u); omega)
    have h3 := ht q hq
    rw [yfC t (fun i => (-1) * s i), ygu] at h2
    rw [hl q hq]; omega
  · intro h0
    refine ⟨s, fun v hv => ?_⟩
    rw [← hl v hv]
    by_cases e : v = q
    · rw [e]; exact h0
    · exact hr.pos v hv e
end
end Go.Proofs.YtmeoemmemjipdaaGreat

/- The genus: how many single edges there are, and how many chips a reduced divisor has. No program in sight. -/
namespace Go.Proofs.YtmeoemmemjipdaaGreat
open Go Go.Proofs.Tryz
set_option linter.unusedVariables false
set_option linter.unusedSimpArgs false
def ycE (es : List E3) : Int := (es.map fun x => if x.1 = x.2.1 then 0 else x.2.2).sum
theorem ygF {n : Nat} : ∀ {es : List E3}, EOk n es → tot n es = 2 * ycE es
  | [], _ => by
    unfold tot ycE
    rw [yap (g := fun _ => 0) (fun v _ => by rw [yap (g := fun _ => 0) (fun u _ => W_nil v u), ybr]), ybr]
    simp
  | x :: es, hE => by
    have ih := ygF (es := es) (fun y hy => hE y (by simp [hy]))
    have hx := hE x (by simp)
    have h1 : tot n (x :: es) = sm n (fun v => sm n (fun u => w1 x v u)) + tot n es := by
      unfold tot
      rw [← ybB]
      refine yap fun v _ => ?_
      rw [← ybB]
      exact yap fun u _ => yeR x es v u
    have hp : ycE (x :: es) = (if x.1 = x.2.1 then 0 else x.2.2) + ycE es := by simp [ycE]
    rw [h1, hp, ih]
    by_cases e : x.1 = x.2.1
    · rw [if_pos e]
      have h2 : sm n (fun v => sm n (fun u => w1 x v u)) = 0 := by
        rw [yap (g := fun _ => 0) (fun v _ => by rw [yap (g := fun _ => 0) (fun u _ => by unfold w1; rw [if_neg (fun h => h.1 e)]), ybr]), ybr]
      omega
    · rw [if_neg e]
      have h2 : sm n (fun v => sm n (fun u => w1 x v u)) = sm n (fun v => sm n (fun u => (if v = x.1.toNat then (if u = x.2.1.toNat then x.2.2 else 0) else 0) + (if v = x.2.1.toNat then (if u = x.1.toNat then x.2.2 else 0) else 0))) :=
        yap fun v _ => yap fun u _ => by
          show w1 x v u = ite _ _ _ + ite _ _ _
          unfold w1
          by_cases a1 : v = x.1.toNat
          · by_cases a2 : u = x.2.1.toNat
            · rw [if_pos ⟨e, .inl ⟨by omega, by omega⟩⟩, if_pos a1, if_pos a2, if_neg (by omega)]; omega
            · rw [if_neg (fun h => by omega), if_pos a1, if_neg a2, if_neg (by omega)]; omega
          · rw [if_neg a1]
            by_cases b1 : v = x.2.1.toNat
            · rw [if_pos b1]
              by_cases b2 : u = x.1.toNat
              · rw [if_pos ⟨e, .inr ⟨by omega, by omega⟩⟩, if_pos b2]; omega
              · rw [if_neg (fun h => by omega), if_neg b2]; omega
            · rw [if_neg (fun h => by omega), if_neg b1]; omega
      have h3 : ∀ a b : Nat, a < n → b < n → sm n (fun v => sm n (fun u => if v = a then (if u = b then x.2.2 else 0) else 0)) = x.2.2 := fun a b ha hb => by
        rw [yap (g := fun v => if v = a then x.2.2 else 0) (fun v _ => by
          by_cases e : v = a
          · simp only [if_pos e]; exact yc2 _ hb
          · simp only [if_neg e]; exact ybr n)]
        exact yc2 _ ha
      have h4 : sm n (fun v => sm n (fun u => (if v = x.1.toNat then (if u = x.2.1.toNat then x.2.2 else 0) else 0) + (if v = x.2.1.toNat then (if u = x.1.toNat then x.2.2 else 0) else 0))) = x.2.2 + x.2.2 := by
        have e : ∀ A B : Nat → Nat → Int, sm n (fun v => sm n (fun u => A v u + B v u)) = sm n (fun v => sm n (A v)) + sm n (fun v => sm n (B v)) := fun A B => by
          rw [← ybB]
          exact yap fun v _ => by rw [← ybB]
        refine (e (fun v u => if v = x.1.toNat then (if u = x.2.1.toNat then x.2.2 else 0) else 0) (fun v u => if v = x.2.1.toNat then (if u = x.1.toNat then x.2.2 else 0) else 0)).trans ?_
        rw [h3 x.1.toNat x.2.1.toNat (by omega) (by omega), h3 x.2.1.toNat x.1.toNat (by omega) (by omega)]
      omega
end Go.Proofs.YtmeoemmemjipdaaGreat

/- What the references' pure forms come to: connectedness, errors, scripts. -/
namespace Go.Proofs.YtmeoemmemjipdaaGreat
open Go Go.Proofs.Tryz
set_option linter.unusedVariables false
set_option linter.unusedSimpArgs false
section
variable {n : Nat} {es : List E3}
theorem p_r08_Reached {v : Nat} {R : List Bool → Prop} (hl : es.length ≤ 1000000000) (hg : yat n es = 0) (hv : v < n) (h : ∀ o : List Bool, o.length = n → (∀ u, u < n → gb o u = decide (root (yax es) u = root (yax es) v)) → R o) : ycL (n : Int) es (v : Int) R := by
  obtain ⟨hE, hn1, hn12⟩ := yba hg
  unfold ycL
  simp only [Int.toNat_natCast]
  refine ⟨by omega, by simp; omega, ?_⟩
  let Q : List Bool → Prop := fun o => o.length = n ∧ gb o v = true ∧ ∀ u, u < n → gb o u = true → root (yax es) u = root (yax es) v
  let Z : List Bool → List Bool → Prop := fun o0 o => (Cl n es o0 → o = o0) ∧ (o = o0 ∨ cf o < cf o0) ∧ ∀ a, gb o0 a = true → gb o a = true
  have hq4 : Q ((List.replicate n false).set v true) := by
    refine ⟨by simp, by rw [ydI (by simpa using hv), if_pos rfl], fun u hu h => ?_⟩
    rw [ydI (by simpa using hv)] at h
    split at h
    · rename_i e; rw [e]
    · rw [gb_rep] at h; cases h
  have hcf0 : cf ((List.replicate n false).set v true) + 1 = n := by
    rw [cf_set (by simpa using hv) (gb_rep n v)]
    unfold cf
    rw [List.filter_eq_self.2 (fun x hx => by rw [(List.mem_replicate.1 hx).2]; rfl)]
    simp
  have hsetQ : ∀ {o : List Bool} {b : Nat}, Q o → b < n → root (yax es) b = root (yax es) v → Q (o.set b true) := by
    rintro o b ⟨q1, q4, q5⟩ hb hr
    have hbl : b < o.length := by omega
    refine ⟨by simpa using q1, ?_, fun u hu h => ?_⟩
    · rw [ydI hbl]; split <;> first | rfl | exact q4
    · rw [ydI hbl] at h
      split at h
      · rename_i e; rw [e]; exact hr
      · exact q5 u hu h
  refine ⟨fun m i o => Cnt n (fun k => Q o ∧ (Cl n es o ∨ cf o + k + 1 ≤ n)) m i, Cnt.start ⟨hq4, .inr (by omega)⟩, ?_⟩
  rintro m _ o0 ⟨k, rfl, rfl, hk, hq5, hpr⟩
  refine ⟨fun hlt => ?_, fun hge => ?_⟩
  · refine ⟨fun m i o => Cnt n (fun a => Q o ∧ Z o0 o ∧ ∀ a', a' < a → gb o0 a' = true → ∀ b, b < n → 0 < W es a' b → gb o b = true) m i, Cnt.start ⟨hq5, ⟨fun _ => rfl, .inl rfl, fun _ h => h⟩, fun a' h => absurd h (by omega)⟩, ?_⟩
    rintro m _ o ⟨a, rfl, rfl, ha, hq6, hz, hdone⟩
    refine ⟨fun hlta => ?_, fun hgea => ?_⟩
    · refine ⟨fun m i o => Cnt n (fun b => Q o ∧ Z o0 o ∧ (∀ a', a' < a → gb o0 a' = true → ∀ b, b < n → 0 < W es a' b → gb o b = true) ∧ (gb o0 a = true → ∀ b', b' < b → 0 < W es a b' → gb o b' = true)) m i, Cnt.start ⟨hq6, hz, hdone, fun _ b' h => absurd h (by omega)⟩, ?_⟩
      clear hq6 hz hdone hq5
      rintro m _ o ⟨b, rfl, rfl, hb, hq7, hz, hdone, hnow⟩
      have hol := hq7.1
      refine ⟨fun hltb => ⟨by omega, fun hx => ?_, fun hx => Cnt.next (by omega) (by omega) ⟨hq7, hz, hdone, fun h => absurd (hz.2.2 a h) (by simpa using hx)⟩⟩, fun hgeb => ?_⟩
      · simp only [Int.toNat_natCast] at hx ⊢
        have hstep : (a ≠ b → 0 < W es a b) → Q (o.set b true) ∧ Z o0 (o.set b true) ∧ (∀ a', a' < a → gb o0 a' = true → ∀ b', b' < n → 0 < W es a' b' → gb (o.set b true) b' = true) ∧ (gb o0 a = true → ∀ b', b' < b + 1 → 0 < W es a b' → gb (o.set b true) b' = true) := by
          intro hW
          have hbl : b < o.length := by omega
          have hup : ∀ x, gb o x = true → gb (o.set b true) x = true := fun x h => by rw [ydI hbl]; split <;> first | rfl | exact h
          have hrb : root (yax es) b = root (yax es) v := by
            have h1 := hq7.2.2 a (by omega) hx
            by_cases eab : a = b
            · rw [← eab]; exact h1
            · rw [← root_W hE hn1 hn12 (hW eab)]; exact h1
          refine ⟨hsetQ hq7 (by omega) hrb, ⟨fun hcl => ?_, ?_, fun x h => hup x (hz.2.2 x h)⟩, fun a' h1 h2 b' h3 h4 => hup _ (hdone a' h1 h2 b' h3 h4), fun h1 b' h2 h3 => ?_⟩
          · have e0 := hz.1 hcl
            subst e0
            refine set_same ?_
            by_cases eab : a = b
            · rw [← eab]; exact hx
            · exact hcl a b (by omega) (by omega) hx (hW eab)
          · cases hob : gb o b with
            | true => rw [set_same hob]; exact hz.2.1
            | false =>
              have := cf_set hbl hob
              rcases hz.2.1 with h | h
              · right; rw [← h]; omega
              · right; omega
          · by_cases e2 : b' = b
            · subst e2; rw [ydI hbl, if_pos rfl]
            · exact hup _ (hnow h1 b' (by omega) h3)
        have hpass : ¬ 0 < W es a b → (gb o0 a = true → ∀ b', b' < b + 1 → 0 < W es a b' → gb o b' = true) := fun h h1 b' h2 h3 => by
          by_cases e2 : b' = b
          · subst e2; exact absurd h3 h
          · exact hnow h1 b' (by omega) h3
        by_cases eab : a = b
        · subst eab
          refine p_r08_Between' hl ⟨fun h => ⟨by omega, Cnt.next (by omega) (by omega) (hstep fun h => absurd rfl h)⟩, fun h => Cnt.next (by omega) (by omega) ⟨hq7, hz, hdone, hpass (by rw [show W es a a = 0 from yfK es a]; omega)⟩⟩
        · refine ycy hl hg eab ⟨fun h => ⟨by omega, Cnt.next (by omega) (by omega) (hstep fun _ => h)⟩, fun h => Cnt.next (by omega) (by omega) ⟨hq7, hz, hdone, hpass h⟩⟩
      · have hbn : b = n := by omega
        subst hbn
        refine Cnt.next (by omega) (by omega) ⟨hq7, hz, fun a' h1 h2 b' h3 h4 => ?_⟩
        by_cases e2 : a' = a
        · subst e2; exact hnow h2 b' h3 h4
        · exact hdone a' (by omega) h2 b' h3 h4
    · have han : a = n := by omega
      subst han
      refine Cnt.next (by omega) (by omega) ⟨hq6, ?_⟩
      by_cases hcl : Cl a es o0
      · rw [hz.1 hcl]; exact .inl hcl
      · rcases hz.2.1 with h | h
        · exfalso
          subst h
          exact hcl fun x y hx hy h1 h2 => hdone x hx h1 y hy h2
        · rcases hpr with h2 | h2
          · exact absurd h2 hcl
          · right; omega
  · have hkn : k = n := by omega
    subst hkn
    rcases hpr with q | q
    · exact h o0 hq5.1 (cl_root hE hn1 hn12 q hv hq5.2.1 hq5.2.2)
    · omega
theorem p_r08_Parts {R : Int → Prop} (hl : es.length ≤ 1000000000) (hg : yat n es = 0) (h : ∀ k : Int, (k = 1 ↔ ycJ n es = true) → R k) : ydr (n : Int) es R := by
  obtain ⟨hE, hn1, hn12⟩ := yba hg
  have hcr := conn_root hE hn1 hn12
  unfold ydr
  simp only [Int.toNat_natCast]
  refine ⟨by omega, ?_⟩
  refine ⟨fun m k i o => Cnt n (fun v => 0 ≤ k ∧ k ≤ v ∧ (v = 0 → k = 0) ∧ (0 < v → 1 ≤ k ∧ (k = 1 ↔ ∀ x, x < v → root (yax es) x = root (yax es) 0)) ∧ o.length = n ∧ (∀ u, u < n → (gb o u = true ↔ ∃ x, x < v ∧ root (yax es) u = root (yax es) x))) m i,
    Cnt.start ⟨by omega, by omega, fun _ => rfl, fun h => absurd h (by omega), by simp, fun u _ => by rw [gb_rep]; simp⟩, ?_⟩
  rintro m k _ o ⟨v, rfl, rfl, hv, k0, k1, k2, k3, hol, hseen⟩
  refine ⟨fun hlt => ?_, fun hge => ?_⟩
  · have hlt : v < n := by omega
    simp only [Int.toNat_natCast]
    refine ⟨by omega, fun hx => ?_, fun hx => ⟨i64 (by omega), p_r08_Reached hl hg hlt fun ro hrl hro => ?_⟩⟩
    · obtain ⟨x, hxv, hxr⟩ := (hseen v hlt).1 hx
      refine Cnt.next hlt (by omega) ⟨k0, by omega, fun h => absurd h (by omega), fun _ => ?_, hol, fun u hu => ?_⟩
      · have h3 := k3 (by omega)
        refine ⟨h3.1, ?_⟩
        rw [h3.2]
        constructor
        · intro h y hy
          by_cases e : y = v
          · subst e; rw [hxr]; exact h x hxv
          · exact h y (by omega)
        · intro h y hy; exact h y (by omega)
      · rw [hseen u hu]
        constructor
        · rintro ⟨y, hy, hyr⟩; exact ⟨y, by omega, hyr⟩
        · rintro ⟨y, hy, hyr⟩
          by_cases e : y = v
          · subst e; exact ⟨x, hxv, hyr.trans hxr⟩
          · exact ⟨y, by omega, hyr⟩
    · refine ⟨fun m i o' => Cnt n (fun u => o'.length = n ∧ (∀ x, x < n → (gb o' x = true ↔ (gb o x = true ∨ (x < u ∧ gb ro x = true))))) m i, Cnt.start ⟨hol, fun x _ => by simp⟩, ?_⟩
      rintro m _ o' ⟨u, rfl, rfl, hu, hol', hor⟩
      refine ⟨fun hltu => ?_, fun hgeu => ?_⟩
      · have hltu : u < n := by omega
        simp only [Int.toNat_natCast]
        have hou := hor u hltu
        have st : ∀ b : Bool, (b = true ↔ (gb o u = true ∨ gb ro u = true)) → (o'.set u b).length = n ∧ (∀ x, x < n → (gb (o'.set u b) x = true ↔ (gb o x = true ∨ (x < u + 1 ∧ gb ro x = true)))) := fun b hbb => by
          refine ⟨by simpa using hol', fun x hx => ?_⟩
          rw [ydI (by omega)]
          by_cases e : x = u
          · subst e
            rw [if_pos rfl, hbb]
            constructor
            · rintro (h | h)
              · exact .inl h
              · exact .inr ⟨by omega, h⟩
            · rintro (h | h)
              · exact .inl h
              · exact .inr h.2
          · rw [if_neg e, hor x hx]
            constructor
            · rintro (h | h)
              · exact .inl h
              · exact .inr ⟨by omega, h.2⟩
            · rintro (h | h)
              · exact .inl h
              · exact .inr ⟨by omega, h.2⟩
        refine ⟨by omega, fun hx2 => Cnt.next hltu (by omega) (st true ?_), fun hx2 => ⟨by omega, Cnt.next hltu (by omega) (st _ ?_)⟩⟩
        · have := hou.1 hx2
          constructor
          · intro _; rcases this with h | h
            · exact .inl h
            · exact .inr h.2
          · intro _; rfl
        · constructor
          · intro h; exact .inr h
          · rintro (h | h)
            · exact absurd (hou.2 (.inl h)) hx2
            · exact h
      · have hun : u = n := by omega
        subst hun
        have hnew : ¬ ∃ x, x < v ∧ root (yax es) v = root (yax es) x := fun h => hx ((hseen v hlt).2 h)
        refine Cnt.next (by omega) (by omega) ⟨by omega, by omega, fun h => absurd h (by omega), fun _ => ⟨by omega, ?_⟩, hol', fun x hxn => ?_⟩
        · by_cases e0 : v = 0
          · subst e0
            have := k2 rfl
            subst this
            constructor
            · intro _ y hy; rw [show y = 0 by omega]
            · intro _; rfl
          · have h3 := k3 (by omega)
            constructor
            · intro h; omega
            · intro h; exact absurd ⟨0, by omega, h v (by omega)⟩ hnew
        · rw [hor x hxn, hseen x hxn, hro x hxn, decide_eq_true_eq]
          constructor
          · rintro (⟨y, hy, hyr⟩ | h)
            · exact ⟨y, by omega, hyr⟩
            · exact ⟨v, by omega, h.2⟩
          · rintro ⟨y, hy, hyr⟩
            by_cases e : y = v
            · subst e; exact .inr ⟨hxn, hyr⟩
            · exact .inl ⟨y, by omega, hyr⟩
  · have hvn : v = n := by omega
    subst hvn
    refine h k ?_
    rw [(k3 (by omega)).2, hcr]
theorem yiI {R : Bool → Prop} (hl : es.length ≤ 1000000000) (hg : yat n es = 0) (h : R (ycJ n es)) : ycM (n : Int) es R :=
  p_r08_Parts hl hg fun k hk => by
    have e : decide (k = 1) = ycJ n es := by rw [Bool.eq_iff_iff, decide_eq_true_eq]; exact hk
    rw [e]; exact h
end
section
variable {n q : Int} {es : List E3} {d s : List Int}
theorem p_r25_Joined {R : Int → Prop} (hl : es.length ≤ 1000000000) (h : R (yca n es)) : yc7 n es R := by
  unfold yc7
  unfold yca at h
  refine yiK hl ⟨fun h0 => ?_, fun h0 => by rwa [if_neg h0] at h⟩
  rw [if_pos h0] at h
  have hn : 1 ≤ n ∧ n ≤ 12 := by
    unfold yat at h0
    split at h0
    · assumption
    · omega
  obtain ⟨n, rfl⟩ : ∃ n' : Nat, n = (n' : Int) := ⟨n.toNat, by omega⟩
  exact yiI hl h0 ⟨fun h1 => by rwa [if_pos h1] at h, fun h1 => by rwa [if_neg h1] at h⟩
def lowF (n : Int) (d : List Int) : Bool := decide (d.length ≤ 100 ∧ (yaM d n = 0 → ∀ j, j < d.length → -100 ≤ gi d j ∧ gi d j ≤ 100))
theorem ygv : lowF n d = true ↔ d.length ≤ 100 ∧ (yaM d n = 0 → ∀ j, j < d.length → -100 ≤ gi d j ∧ gi d j ≤ 100) := by unfold lowF; exact decide_eq_true_iff
theorem p_r34_Low {R : Bool → Prop} (h : R (lowF n d)) : yeE n es d R := by
  unfold yeE
  have ht : (d.length ≤ 100 ∧ (yaM d n = 0 → ∀ j, j < d.length → -100 ≤ gi d j ∧ gi d j ≤ 100)) → R true := fun q => by rwa [ygv.2 q] at h
  have hf : ¬ (d.length ≤ 100 ∧ (yaM d n = 0 → ∀ j, j < d.length → -100 ≤ gi d j ∧ gi d j ≤ 100)) → R false := fun q => by
    have : lowF n d = false := by rw [Bool.eq_false_iff]; exact fun q2 => q (ygv.1 q2)
    rwa [this] at h
  refine ⟨fun h1 => hf (by omega), fun h1 => yiC ⟨fun h2 => ?_, fun h2 => ht ⟨by omega, fun q => absurd q h2⟩⟩⟩
  refine ⟨Cnt d.length (fun k => ∀ j, j < k → -100 ≤ gi d j ∧ gi d j ≤ 100), Cnt.start (fun j hj => absurd hj (by omega)), ?_⟩
  rintro m _ ⟨k, rfl, rfl, hk, hinv⟩
  simp only [Int.toNat_natCast]
  refine ⟨fun hlt => ⟨by omega, fun h3 => hf fun q => ?_, fun h3 => ⟨fun h4 => hf fun q => ?_, fun h4 => Cnt.next (by omega) (by omega) fun j hj => ?_⟩⟩, fun hge => ht ⟨by omega, fun _ j hj => hinv j (by omega)⟩⟩
  · have := q.2 h2 k (by omega); omega
  · have := q.2 h2 k (by omega); omega
  · by_cases e : j = k
    · subst e; omega
    · exact hinv j (by omega)
def plusF (a b : List Int) (k : Int) : List Int := tab (fun i => gi a i + k * gi b i) a.length
theorem yf1 {a b : List Int} {k : Int} {R : List Int → Prop} (hl : a.length ≤ 1000) (hlb : a.length ≤ b.length) (hk : -1 ≤ k ∧ k ≤ 1) (ha : ∀ j, j < a.length → -1000000000000000 ≤ gi a j ∧ gi a j ≤ 1000000000000000) (hb : ∀ j, j < a.length → -1000000000000000 ≤ gi b j ∧ gi b j ≤ 1000000000000000) (h : R (plusF a b k)) : ycm a b k R := by
  unfold ycm
  simp only [Int.toNat_natCast]
  refine ⟨by omega, fun m i out => Cnt a.length (fun j => out = upto (fun i => gi a i + k * gi b i) j a.length) m i, Cnt.start (yiM _ _).symm, ?_⟩
  rintro m _ out ⟨i, rfl, rfl, hi, rfl⟩
  refine ⟨fun hlt => ?_, fun hge => ?_⟩
  · have hlt : i < a.length := by omega
    have h1 := ha i hlt
    have h2 := hb i hlt
    simp only [Int.toNat_natCast]
    have hkb : -1000000000000000 ≤ k * gi b i ∧ k * gi b i ≤ 1000000000000000 := by
      have : k = -1 ∨ k = 0 ∨ k = 1 := by omega
      rcases this with rfl | rfl | rfl <;> omega
    refine ⟨by omega, by omega, i64 (by omega), i64 (by omega), by rw [ybR]; omega, Cnt.next hlt (by omega) ?_⟩
    exact yjF (fun i => gi a i + k * gi b i) hlt
  · have hkn : i = a.length := by omega
    subst hkn
    rw [yjD]; exact h
def appF (n : Nat) (es : List E3) (d s : List Int) : List Int := tab (fun v => gi d v - Lp n es (gi s) v) n
theorem yja {n : Nat} {es : List E3} {d s : List Int} : (appF n es d s).length = n := ya2 _ _
end
end Go.Proofs.YtmeoemmemjipdaaGreat

/- What the pure forms of the program's and the library's small functions come to. -/
namespace Go.Proofs.YtmeoemmemjipdaaGreat
open Go Go.Proofs.Tryz
set_option linter.unusedVariables false
set_option linter.unusedSimpArgs false
theorem ydd {a b : List Int} {R : Bool → Prop} (hl : a.length ≤ 1000000000) (h : R (decide (a = b))) : ya0 a b R := by
  unfold ya0
  have ht : a = b → R true := fun q => by rwa [decide_eq_true q] at h
  have hf : ¬ a = b → R false := fun q => by rwa [decide_eq_false q] at h
  refine ⟨fun hln => ?_, fun hln => hf fun q => hln (by rw [q])⟩
  refine ⟨Cnt a.length (fun k => ∀ j, j < k → gi a j = gi b j), Cnt.start (fun j hj => absurd hj (by omega)), ?_⟩
  rintro m _ ⟨k, rfl, rfl, hk, hinv⟩
  simp only [Int.toNat_natCast]
  refine ⟨fun hlt => ⟨by omega, by omega, fun h1 => Cnt.next (by omega) (by omega) fun j hj => ?_, fun h1 => hf fun q => h1 (by rw [q])⟩, fun hge => ht (yeT (by omega) fun j hj => hinv j (by omega))⟩
  by_cases e : j = k
  · subst e; exact h1
  · exact hinv j (by omega)
theorem yfo {s : List Int} {R : List Int → Prop} (hl : s.length ≤ 1000000000) (h : R s) : ybg s R := by
  unfold ybg
  exact fun nil hn => ⟨fun q => by rw [hn q] at h; exact h, fun q => ⟨by omega, h⟩⟩
end Go.Proofs.YtmeoemmemjipdaaGreat

/- What the references' pure forms on sets come to. -/
namespace Go.Proofs.YtmeoemmemjipdaaGreat
open Go Go.Proofs.Tryz
set_option linter.unusedVariables false
set_option linter.unusedSimpArgs false
section
variable {n : Nat} {es : List E3} {d : List Int}
end
end Go.Proofs.YtmeoemmemjipdaaGreat

/- What the library's pure forms come to: search, minimum, order. -/
namespace Go.Proofs.YtmeoemmemjipdaaGreat
open Go Go.Proofs.Tryz
set_option linter.unusedVariables false
set_option linter.unusedSimpArgs false
theorem yju {x : List Int} {R : Int → Prop} (hl : x.length ≤ 1000000000) (h0 : 0 < x.length) (h : ∀ m, (∃ k, k < x.length ∧ gi x k = m) → (∀ k, k < x.length → m ≤ gi x k) → R m) : ybn x R := by
  unfold ybn
  refine ⟨True, fun _ => ⟨by omega, ?_⟩, fun q => by omega, fun _ => trivial⟩
  refine ⟨fun c m i => Cnt x.length (fun k => 1 ≤ k ∧ (∃ j, j < k ∧ gi x j = m) ∧ ∀ j, j < k → m ≤ gi x j) c i, ⟨x.length - 1, 1, rfl, rfl, h0, by omega, ⟨0, by omega, rfl⟩, fun j hj => by rw [show j = 0 by omega]; exact Int.le_refl _⟩, ?_⟩
  rintro c m _ ⟨k, rfl, rfl, hk, h1, ⟨j0, hj0, rfl⟩, hm⟩
  simp only [Int.toNat_natCast]
  refine ⟨fun hlt => ⟨by omega, Cnt.next (by omega) (by omega) ⟨by omega, ?_, fun j hj => ?_⟩⟩, fun hge => ?_⟩
  · by_cases q : gi x k < gi x j0
    · exact ⟨k, by omega, by unfold mnF; rw [if_pos q]⟩
    · exact ⟨j0, by omega, by unfold mnF; rw [if_neg q]⟩
  · rw [mnF_eq]
    by_cases e : j = k
    · subst e; omega
    · have := hm j (by omega); omega
  · have : k = x.length := by omega
    subst this
    exact h _ ⟨j0, hj0, rfl⟩ hm
end Go.Proofs.YtmeoemmemjipdaaGreat

/- What the pure forms of chips, graph and firing come to. -/
namespace Go.Proofs.YtmeoemmemjipdaaGreat
open Go Go.Proofs.Tryz
set_option linter.unusedVariables false
set_option linter.unusedSimpArgs false
theorem yjA {k : Int} {R : Bool → Prop} (h : R (inF k)) : yct k R := by
  unfold yct
  refine ⟨fun h1 => ?_, fun h1 => ?_⟩
  · have e : decide (k ≤ 1048576) = inF k := by unfold inF; simp [h1]
    rw [e]; exact h
  · have e : false = inF k := by unfold inF; simp [h1]
    rw [e]; exact h
theorem ygE {d : List Int} {n : Int} {R : Int → Prop} (h : R (yaM d n)) : ych d n R := by
  unfold ych ycB
  have hout : ¬ (1 ≤ n ∧ n ≤ 12) → R 2 := fun q => by
    have : yaM d n = 2 := by unfold yaM yfs; rw [if_neg q, if_neg (by omega)]
    rwa [this] at h
  refine ⟨fun q => ⟨fun q2 => absurd q2 (by omega), fun _ => hout (by omega)⟩, fun q => ⟨fun q2 => ⟨fun q3 => absurd q3 (by omega), fun _ => hout (by omega)⟩, fun q2 => ⟨fun _ => ?_, fun q3 => absurd rfl q3⟩⟩⟩
  have hc : yaM d n = if (d.length : Int) = n then (if d.all inF then 0 else 2) else 8 := by unfold yaM; rw [if_pos (by unfold yfs; rw [if_pos (by omega)])]
  rw [hc] at h
  refine ⟨fun hln => ?_, fun hln => by rwa [if_neg hln] at h⟩
  rw [if_pos hln] at h
  refine ⟨Cnt d.length (fun k => ∀ j, j < k → inF (gi d j) = true), Cnt.start (fun j hj => absurd hj (by omega)), ?_⟩
  rintro m _ ⟨k, rfl, rfl, hk, hinv⟩
  refine ⟨fun hlt => ⟨by omega, yjA ⟨fun h1 => Cnt.next (by omega) (by omega) fun j hj => ?_, fun h1 => ?_⟩⟩, fun hge => ?_⟩
  · by_cases e : j = k
    · subst e; simpa using h1
    · exact hinv j (by omega)
  · rw [if_neg (fun hall => h1 ((ycQ inF d).1 hall _ (by omega)))] at h; exact h
  · rw [if_pos ((ycQ inF d).2 fun j hj => hinv j (by omega))] at h; exact h
theorem yge {n v : Int} {R : Bool → Prop} (h : R (decide (0 ≤ v ∧ v < n))) : yb1 n v R := by
  unfold yb1
  refine ⟨fun h1 => ?_, fun h1 => ?_⟩
  · have e : decide (v < n) = decide (0 ≤ v ∧ v < n) := by simp [h1]
    rw [e]; exact h
  · have e : false = decide (0 ≤ v ∧ v < n) := by simp [h1]
    rw [e]; exact h
theorem ygD {a b : Int} {R : Int → Prop} (h : R (cmpF a b)) : ybt a b R := by
  unfold ybt ycf
  unfold cmpF at h
  refine ⟨fun q => absurd q (by simp), fun _ => ⟨fun q => absurd q (by simp), fun _ => ⟨fun h1 => by rwa [if_pos h1] at h, fun h1 => ?_⟩⟩⟩
  rw [if_neg h1] at h
  refine ⟨fun h2 => by rwa [if_pos h2] at h, fun h2 => by rwa [if_neg h2] at h⟩
theorem p_cmp_Or2 {x y : Int} {R : Int → Prop} (h : R (orF x y)) : ydb [x, y] R := by
  unfold ydb
  unfold orF at h
  refine ⟨Cnt 2 (fun k => ∀ j, j < k → gi [x, y] j = 0), Cnt.start (fun j hj => absurd hj (by omega)), ?_⟩
  rintro m _ ⟨k, rfl, rfl, hk, hinv⟩
  simp only [Int.toNat_natCast, List.length_cons, List.length_nil]
  have hk3 : k = 0 ∨ k = 1 ∨ k = 2 := by omega
  have g0 : gi [x, y] 0 = x := rfl
  have g1 : gi [x, y] 1 = y := rfl
  have hnx : gi [x, y] k = 0 → ∀ j, j < k + 1 → gi [x, y] j = 0 := fun q j hj => by
    by_cases e : j = k
    · subst e; exact q
    · exact hinv j (by omega)
  refine ⟨fun hlt => ⟨by omega, fun q => Cnt.next (by omega) (by omega) (hnx q), fun q => ?_⟩, fun hge => ?_⟩
  · rcases hk3 with rfl | rfl | rfl
    · rw [g0] at q ⊢; rwa [if_pos q] at h
    · have h0 := hinv 0 (by omega)
      rw [g0] at h0
      rw [g1]; rwa [if_neg (fun q2 => q2 h0)] at h
    · exact absurd hlt (by omega)
  · have : k = 2 := by omega
    subst this
    have h0 := hinv 0 (by omega)
    have h1 := hinv 1 (by omega)
    rw [g0] at h0
    rw [g1] at h1
    rw [if_neg (fun q2 => q2 h0), h1] at h; exact h
theorem p_pair_compare {a b c d : Int} {R : Int → Prop} (h : R (yft a b c d)) : ybO a b c d R :=
  ygD (ygD (p_cmp_Or2 h))
theorem ygw {n : Int} {es : List E3} {R : Int → Prop} (hl : es.length ≤ 1000000000) (h : R (yat n es)) : yci n es R := by
  unfold yci
  have hout : ¬ (1 ≤ n ∧ n ≤ 12) → R 2 := fun q => by unfold yat at h; rwa [if_neg q] at h
  refine ⟨1 ≤ n ∧ n ≤ 12, fun hn => ?_, fun q => hout (by omega), fun q => ⟨fun q2 => hout (by omega), fun q2 => ⟨by omega, by omega⟩⟩⟩
  have hg : yat n es = gchk n (-1) (-1) es := by unfold yat; rw [if_pos hn]
  rw [hg] at h
  refine ⟨fun m i a b => Cnt es.length (fun k => a = (pre es k).1 ∧ b = (pre es k).2 ∧ gchk n (-1) (-1) es = gchk n (pre es k).1 (pre es k).2 (es.drop k)) m i, Cnt.start ⟨rfl, rfl, rfl⟩, ?_⟩
  rintro m _ _ _ ⟨k, rfl, rfl, hk, rfl, rfl, hinv⟩
  simp only [Int.toNat_natCast]
  refine ⟨fun hlt => ⟨by omega, ?_⟩, fun hge => ?_⟩
  · have hlt : k < es.length := by omega
    rw [ygY hlt, yfF] at hinv
    generalize hx : ge es k = x at hinv ⊢
    have hed : R (if ygl n (pre es k).1 (pre es k).2 x = 0 then gchk n x.1 x.2.1 (es.drop (k + 1)) else ygl n (pre es k).1 (pre es k).2 x) := by rw [← hinv]; exact h
    have h2 : ¬ ((0 ≤ x.1 ∧ x.1 < n) ∧ (0 ≤ x.2.1 ∧ x.2.1 < n) ∧ 1 ≤ x.2.2 ∧ x.2.2 ≤ 50) → R 2 := fun q => by
      unfold ygl at hed; rw [if_neg q, if_neg (by omega)] at hed; exact hed
    refine ⟨(0 ≤ x.1 ∧ x.1 < n) ∧ (0 ≤ x.2.1 ∧ x.2.1 < n) ∧ 1 ≤ x.2.2 ∧ x.2.2 ≤ 50, fun hJ => ?_, yge ⟨fun q1 => yge ⟨fun q2 => ⟨fun q3 => h2 (by omega), fun q3 => ⟨fun q4 => h2 (by omega), fun q4 => ?_⟩⟩, fun q2 => h2 (by simp at q2; omega)⟩, fun q1 => h2 (by simp at q1; omega)⟩⟩
    · have he : ygl n (pre es k).1 (pre es k).2 x = if x.1 ≤ x.2.1 ∧ yft (pre es k).1 (pre es k).2 x.1 x.2.1 < 0 then 0 else 9 := by unfold ygl; rw [if_pos hJ]
      rw [he] at hed hinv
      refine ⟨fun q => ?_, fun q => p_pair_compare ⟨fun q2 => ?_, fun q2 => Cnt.next hlt (by omega) ⟨?_, ?_, ?_⟩⟩⟩
      · rw [if_neg (show ¬ (x.1 ≤ x.2.1 ∧ _) by omega), if_neg (by omega)] at hed; exact hed
      · rw [if_neg (show ¬ (x.1 ≤ x.2.1 ∧ _) by omega), if_neg (by omega)] at hed; exact hed
      · simp [pre, hx]
      · simp [pre, hx]
      · have hc : x.1 ≤ x.2.1 ∧ yft (pre es k).1 (pre es k).2 x.1 x.2.1 < 0 := ⟨by omega, by omega⟩
        rw [if_pos hc, if_pos rfl] at hinv
        rw [hinv]
        simp [pre, hx]
    · simp only [decide_eq_true_eq] at q1 q2
      exact ⟨q1, q2, by omega, by omega⟩
  · have hk2 : k = es.length := by omega
    rw [hinv, hk2, List.drop_length] at h
    exact h
theorem W_snoc (x : E3) (v u : Nat) : ∀ l : List E3, W (l ++ [x]) v u = W l v u + w1 x v u
  | [] => by rw [List.nil_append, yeR, W_nil]; omega
  | y :: t => by rw [List.cons_append, yeR, yeR, W_snoc x v u t]; omega
def e1 (x : E3) (s : Nat → Int) (v : Nat) : Int := (if (v : Int) = x.1 then x.2.2 * (s x.1.toNat - s x.2.1.toNat) else 0) - (if (v : Int) = x.2.1 then x.2.2 * (s x.1.toNat - s x.2.1.toNat) else 0)
theorem Lp_snoc {n : Nat} {l : List E3} {x : E3} {s : Nat → Int} {v : Nat} (hx : 0 ≤ x.1 ∧ x.1 < n ∧ 0 ≤ x.2.1 ∧ x.2.1 < n) (hv : v < n) : Lp n (l ++ [x]) s v = Lp n l s v + e1 x s v := by
  have h1 : Lp n (l ++ [x]) s v = Lp n l s v + sm n (fun u => w1 x v u * (s v - s u)) := by
    unfold Lp
    rw [← ybB]
    refine yap fun u _ => ?_
    rw [W_snoc, Int.add_mul]
  rw [h1]
  congr 1
  obtain ⟨a, ha⟩ : ∃ a : Nat, x.1 = a := ⟨x.1.toNat, by omega⟩
  obtain ⟨b, hb⟩ : ∃ b : Nat, x.2.1 = b := ⟨x.2.1.toNat, by omega⟩
  unfold e1
  rw [ha, hb, Int.toNat_natCast, Int.toNat_natCast]
  have ean : a < n := by omega
  have ebn : b < n := by omega
  by_cases hab : a = b
  · subst hab
    rw [show (fun u => w1 x v u * (s v - s u)) = fun _ => 0 from ?_, ybr]
    · omega
    · funext u
      unfold w1
      rw [if_neg (by omega)]; omega
  · by_cases e1 : v = a
    · subst e1
      rw [if_pos rfl, if_neg (by omega), show (fun u => w1 x v u * (s v - s u)) = fun u => if u = b then x.2.2 * (s v - s b) else 0 from ?_, yc2 _ ebn]
      · omega
      · funext u
        unfold w1
        by_cases e2 : u = b
        · subst e2; rw [if_pos ⟨by omega, .inl ⟨ha, hb⟩⟩, if_pos rfl]
        · rw [if_neg (by omega), if_neg e2]; omega
    · by_cases e3 : v = b
      · subst e3
        rw [if_neg (by omega), if_pos rfl, show (fun u => w1 x v u * (s v - s u)) = fun u => if u = a then x.2.2 * (s v - s a) else 0 from ?_, yc2 _ ean]
        · rw [show s a - s v = -(s v - s a) by omega, Int.mul_neg]; omega
        · funext u
          unfold w1
          by_cases e2 : u = a
          · subst e2; rw [if_pos ⟨by omega, .inr ⟨ha, hb⟩⟩, if_pos rfl]
          · rw [if_neg (by omega), if_neg e2]; omega
      · rw [if_neg (by omega), if_neg (by omega), show (fun u => w1 x v u * (s v - s u)) = fun _ => 0 from ?_, ybr]
        · omega
        · funext u
          unfold w1
          rw [if_neg (by omega)]; omega
theorem flow_bound {x : E3} {s : Nat → Int} (hm : 1 ≤ x.2.2 ∧ x.2.2 ≤ 50) (ha : -2000000000 ≤ s x.1.toNat ∧ s x.1.toNat ≤ 2000000000) (hb : -2000000000 ≤ s x.2.1.toNat ∧ s x.2.1.toNat ≤ 2000000000) : -200000000000 ≤ x.2.2 * (s x.1.toNat - s x.2.1.toNat) ∧ x.2.2 * (s x.1.toNat - s x.2.1.toNat) ≤ 200000000000 := by
  generalize x.2.2 = m at hm ⊢
  have h : -4000000000 ≤ s x.1.toNat - s x.2.1.toNat ∧ s x.1.toNat - s x.2.1.toNat ≤ 4000000000 := by omega
  generalize s x.1.toNat - s x.2.1.toNat = y at h ⊢
  have := Int.natAbs_mul m y
  have h4 : m.natAbs ≤ 50 := by omega
  have h5 : y.natAbs ≤ 4000000000 := by omega
  have := Nat.mul_le_mul h4 h5
  omega
theorem yjL {n : Nat} {es : List E3} (hE : EOk n es) {s : Nat → Int} (hs : ∀ j, j < n → -2000000000 ≤ s j ∧ s j ≤ 2000000000) {v : Nat} (hv : v < n) : ∀ k, k ≤ es.length → -(400000000000 * (k : Int)) ≤ Lp n (es.take k) s v ∧ Lp n (es.take k) s v ≤ 400000000000 * k
  | 0, _ => by
    have : Lp n [] s v = 0 := by
      unfold Lp
      rw [show (fun u => W [] v u * (s v - s u)) = fun _ => 0 from ?_, ybr]
      funext u; rw [W_nil]; omega
    rw [List.take_zero, this]; omega
  | k + 1, hk => by
    have ih := yjL hE hs hv k (by omega)
    have hx := hE _ (yjI (show k < es.length by omega))
    have hf := flow_bound (x := ge es k) (s := s) (by omega) (hs _ (by omega)) (hs _ (by omega))
    have e : es.take (k + 1) = es.take k ++ [ge es k] := by rw [List.take_add_one, List.getElem?_eq_getElem (by omega), ydR (by omega)]; rfl
    rw [e, Lp_snoc (by omega) hv]
    unfold e1
    split <;> split <;> omega
theorem Lp_nil {n : Nat} {s : Nat → Int} {v : Nat} : Lp n [] s v = 0 := by
  unfold Lp
  rw [show (fun u => W [] v u * (s v - s u)) = fun _ => 0 from ?_, ybr]
  funext u; rw [W_nil]; omega
theorem edge_step {n : Nat} {es : List E3} (hE : EOk n es) {d s : List Int} {k : Nat} (hk : k < es.length) :
    ((appF n (es.take k) d s).set (ge es k).1.toNat (gi (appF n (es.take k) d s) (ge es k).1.toNat - (ge es k).2.2 * (gi s (ge es k).1.toNat - gi s (ge es k).2.1.toNat))).set (ge es k).2.1.toNat
      (gi ((appF n (es.take k) d s).set (ge es k).1.toNat (gi (appF n (es.take k) d s) (ge es k).1.toNat - (ge es k).2.2 * (gi s (ge es k).1.toNat - gi s (ge es k).2.1.toNat))) (ge es k).2.1.toNat + (ge es k).2.2 * (gi s (ge es k).1.toNat - gi s (ge es k).2.1.toNat)) = appF n (es.take (k + 1)) d s := by
  have hx := hE _ (yjI hk)
  have e : es.take (k + 1) = es.take k ++ [ge es k] := by rw [List.take_add_one, List.getElem?_eq_getElem hk, ydR hk]; rfl
  have hal : (appF n (es.take k) d s).length = n := yja
  refine yeT (by rw [List.length_set, List.length_set, yja, yja]) fun i hi => ?_
  rw [List.length_set, List.length_set, hal] at hi
  have h1 : ∀ j, j < n → gi (appF n (es.take k) d s) j = gi d j - Lp n (es.take k) (gi s) j := fun j hj => yde _ hj
  have h2 : gi (appF n (es.take (k + 1)) d s) i = gi d i - (Lp n (es.take k) (gi s) i + e1 (ge es k) (gi s) i) := by
    rw [← Lp_snoc (by omega) hi, ← e]; exact yde _ hi
  rw [h2, ybi (by rw [List.length_set, hal]; omega), ybi (by rw [hal]; omega), ybi (by rw [hal]; omega)]
  unfold e1
  by_cases q1 : i = (ge es k).2.1.toNat
  · rw [if_pos q1, if_pos (show (i : Int) = (ge es k).2.1 by omega)]
    by_cases q2 : (ge es k).2.1.toNat = (ge es k).1.toNat
    · rw [if_pos q2, if_pos (show (i : Int) = (ge es k).1 by omega), ← q2, ← q1, h1 i hi]; omega
    · rw [if_neg q2, if_neg (show ¬ (i : Int) = (ge es k).1 by omega), ← q1, h1 i hi]; omega
  · rw [if_neg q1, if_neg (show ¬ (i : Int) = (ge es k).2.1 by omega)]
    by_cases q2 : i = (ge es k).1.toNat
    · rw [if_pos q2, if_pos (show (i : Int) = (ge es k).1 by omega), ← q2, h1 i hi]; omega
    · rw [if_neg q2, if_neg (show ¬ (i : Int) = (ge es k).1 by omega), h1 i hi]; omega
section
variable {n : Nat} {es : List E3} {d s : List Int}
theorem app_start (hdl : d.length = n) : d = appF n (es.take 0) d s := by
  refine eq_tab hdl _ fun i _ => ?_
  rw [List.take_zero, Lp_nil]; omega
end
end Go.Proofs.YtmeoemmemjipdaaGreat

/- Words for the laws of layer 34. -/
namespace Go.Proofs.YtmeoemmemjipdaaGreat
open Go Go.Proofs.Tryz
set_option linter.unusedVariables false
set_option linter.unusedSimpArgs false
structure Right (n : Int) (es : List E3) (d : List Int) : Prop where
  few : yhl n es 6 9 = true
  joined : yca n es = 0
  chips : yaM d n = 0
  low : lowF n d = true
theorem Right.nat {n : Nat} {es : List E3} {d : List Int} (h : Right (n : Int) es d) : d.length = n ∧ ∀ j, j < n → -100 ≤ gi d j ∧ gi d j ≤ 100 := by
  have hl := (ygQ h.chips).1
  refine ⟨hl, fun j hj => (ygv.1 h.low).2 h.chips j (by omega)⟩
end Go.Proofs.YtmeoemmemjipdaaGreat

/- What the pure forms of 'effective' and of its reference come to. -/
namespace Go.Proofs.YtmeoemmemjipdaaGreat
open Go Go.Proofs.Tryz
set_option linter.unusedVariables false
set_option linter.unusedSimpArgs false
theorem win_dg {n : Nat} {es : List E3} {d : List Int} (hd : d.length = n) (h : Win n es d) : 0 ≤ dg d := by
  obtain ⟨s, hs⟩ := h
  have h1 : 0 ≤ sm n (fun v => gi d v - Lp n es s v) := yaX hs
  rw [yeD, yfb] at h1
  unfold dg
  rw [hd]; omega
theorem conn_all {n : Nat} {es : List E3} (hg : yat n es = 0) (hc : ycJ n es = true) : ∀ q, q < n → Conn n es q := fun q hq => by
  obtain ⟨hE, hn1, hn12⟩ := yba hg
  exact (ygK hE hn1 hn12 hq).1 hc
def yeX (d : List Int) (v : Nat) (k : Int) : List Int := d.set v (gi d v + k)
theorem yep (d : List Int) (v : Nat) (k : Int) : (yeX d v k).length = d.length := by simp [yeX]
theorem ydL {d : List Int} {v : Nat} (hv : v < d.length) (k : Int) (i : Nat) : gi (yeX d v k) i = if i = v then gi d v + k else gi d i := by unfold yeX; rw [ybi hv]
theorem dg_addAt {d : List Int} {v : Nat} (hv : v < d.length) (k : Int) : dg (yeX d v k) = dg d + k := by
  unfold dg
  rw [yep]
  have h2 : sm d.length (gi (yeX d v k)) = sm d.length (fun i => gi d i + if i = v then k else 0) := yap fun i hi => by
    rw [ydL hv]
    show _ = gi d i + if i = v then k else 0
    split
    · rename_i e; rw [e]
    · omega
  rw [h2, ybB, yc2 k hv]
theorem given0 {n : Int} {es : List E3} {d : List Int} : yaH n es 0 d = if yca n es = 0 then yaM d n else yca n es := by
  unfold yaH yca
  by_cases h1 : yat n es = 0
  · rw [if_pos h1, if_pos h1]
    have hn : 1 ≤ n := by
      unfold yat at h1
      split at h1
      · omega
      · omega
    by_cases h2 : ycJ n es = true
    · rw [if_pos h2, if_pos h2, if_pos rfl, if_pos (by omega)]
    · rw [if_neg h2, if_neg h2, if_neg (by omega)]
  · rw [if_neg h1, if_neg h1, if_neg h1]
theorem yiq {n : Int} {es : List E3} {d : List Int} {R : Int → Prop} (hl : es.length ≤ 1000000000) (h : R (yaH n es 0 d)) : ycW n es d R := by
  unfold ycW
  rw [given0] at h
  exact p_r25_Joined hl ⟨fun h0 => yiC (by rwa [if_pos h0] at h), fun h0 => by rwa [if_neg h0] at h⟩
def LossOk (n : Int) (es : List E3) (q : Int) (d s : List Int) (e : Int) : Prop :=
  (yaH n es q d ≠ 0 ∧ e = yaH n es q d) ∨ (yaH n es q d = 0 ∧ yaM s n ≠ 0 ∧ e = yaM s n) ∨
  (yaH n es q d = 0 ∧ yaM s n = 0 ∧ (Red n.toNat es q.toNat (appF n.toNat es d s) ∧ gi (appF n.toNat es d s) q.toNat < 0) ∧ e = 0) ∨
  (yaH n es q d = 0 ∧ yaM s n = 0 ∧ ¬ (Red n.toNat es q.toNat (appF n.toNat es d s) ∧ gi (appF n.toNat es d s) q.toNat < 0) ∧ e = 16)
theorem LossOk.eq {n : Int} {es : List E3} {q : Int} {d s : List Int} {e e' : Int} (h : LossOk n es q d s e) (h' : LossOk n es q d s e') : e = e' := by
  rcases h with h | h | h | h <;> rcases h' with h' | h' | h' | h' <;> first | (exact absurd h'.2.2.1 h.2.2.1) | (exact absurd h.2.2.1 h'.2.2.1) | (rw [h.2.2.2, h'.2.2.2]; done) | (rw [h.2, h'.2]; done) | (exact absurd h'.1 h.1) | (exact absurd h.1 h'.1) | (rw [h.2.2, h'.2.2]; done) | (exact absurd h'.2.1 h.2.1) | (exact absurd h.2.1 h'.2.1)
theorem red_set {n : Nat} {es : List E3} {q : Nat} {x : List Int} (hl : x.length = n) (hq : q < n) (z : Int) : Red n es q (x.set q z) ↔ Red n es q x := by
  have hg : ∀ v, v ≠ q → gi (x.set q z) v = gi x v := fun v hv => by rw [ybi (by omega), if_neg hv]
  constructor
  · rintro ⟨h1, h2⟩
    refine ⟨fun v hv hne => by rw [← hg v hne]; exact h1 v hv hne, fun S hS hex => ?_⟩
    obtain ⟨v, hv, hSv, hlt⟩ := h2 S hS hex
    exact ⟨v, hv, hSv, by rw [← hg v (fun e => by rw [e, hS] at hSv; cases hSv)]; exact hlt⟩
  · rintro ⟨h1, h2⟩
    refine ⟨fun v hv hne => by rw [hg v hne]; exact h1 v hv hne, fun S hS hex => ?_⟩
    obtain ⟨v, hv, hSv, hlt⟩ := h2 S hS hex
    exact ⟨v, hv, hSv, by rw [hg v (fun e => by rw [e, hS] at hSv; cases hSv)]; exact hlt⟩
theorem red_lt {n : Nat} {es : List E3} {q : Nat} {r : List Int} (hE : EOk n es) (hr : Red n es q r) {v : Nat} (hv : v < n) (hne : v ≠ q) : gi r v < deg n es v := by
  obtain ⟨x, hx, hSx, hlt⟩ := hr.no (fun x => decide (x = v)) (by simp; exact fun h => hne h.symm) ⟨v, hv, by simp⟩
  have hxv : x = v := by simpa using hSx
  subst hxv
  refine Int.lt_of_lt_of_le hlt (ydc fun u hu => ?_)
  have := ya4 hE x u
  show (if _ then _ else _) ≤ _
  split <;> omega
end Go.Proofs.YtmeoemmemjipdaaGreat

/- What Winnable, Price and Needy come to, and their references. -/
namespace Go.Proofs.YtmeoemmemjipdaaGreat
open Go Go.Proofs.Tryz
set_option linter.unusedVariables false
set_option linter.unusedSimpArgs false
theorem ydV {n : Nat} {es : List E3} {q : Nat} {d : List Int} (h : yaH n es q d = 0) : EOk n es ∧ 1 ≤ n ∧ n ≤ 12 ∧ yat n es = 0 ∧ ycJ n es = true ∧ q < n ∧ d.length = n ∧ yaM d n = 0 := by
  obtain ⟨k1, k2, k3, k4, k5⟩ := yb0 h
  obtain ⟨hE, hn1, hn12⟩ := yba k1
  exact ⟨hE, hn1, hn12, k1, k2, by omega, (ygQ k5).1, k5⟩
theorem ycI {n : Int} {es : List E3} {d : List Int} {R : Bool → List Int → List Int → Int → Prop} (hS : Small n es d ∨ RedIn n es 0 d) (hdl : d.length ≤ 1000000000) (h0 : yaH n es 0 d ≠ 0 → R false [] [] (yaH n es 0 d))
    (h1 : yaH n es 0 d = 0 → ∀ r s, Reduces n.toNat es 0 d r s → ∀ b, (b = true ↔ Win n.toNat es d) → R b r s 0) : yaU n es d R := by
  unfold yaU
  refine ⟨hS, hdl, fun h => ⟨fun q => absurd q h, fun _ => h0 h⟩, fun h r s hr hrl hsl => ?_⟩
  obtain ⟨n, rfl⟩ : ∃ n' : Nat, n = (n' : Int) := ⟨n.toNat, by have := yb0 h; omega⟩
  obtain ⟨hE, hn1, hn12, hg, hc, -, hd, -⟩ := ydV (q := 0) h
  have e0 : (0 : Int).toNat = 0 := rfl
  simp only [Int.toNat_natCast, e0] at hr hrl hsl h1 ⊢
  refine ⟨fun _ => ⟨by omega, h1 h r s hr _ ?_⟩, fun q => absurd trivial q⟩
  rw [decide_eq_true_eq, yj7 hE (by omega) hr.red hr.lp]
structure PriceOk (n : Nat) (es : List E3) (d : List Int) (v : Nat) (k : Int) : Prop where
  pos : 0 ≤ k
  few : k = 0 ∨ k ≤ 18 - dg d
  iff : ∀ j, 0 ≤ j → (Win n es (yeX d v j) ↔ k ≤ j)
theorem PriceOk.eq {n : Nat} {es : List E3} {d : List Int} {v : Nat} {k k' : Int} (h : PriceOk n es d v k) (h' : PriceOk n es d v k') : k = k' := by
  have h1 := h.pos
  have h2 := h'.pos
  have h3 := (h'.iff k h1).1 ((h.iff k h1).2 (Int.le_refl _))
  have h4 := (h.iff k' h2).1 ((h'.iff k' h2).2 (Int.le_refl _))
  omega
theorem tot_few {n : Nat} {es : List E3} (hE : EOk n es) (hn : 1 ≤ n) (h12 : n ≤ 12) (hs : (es.map (·.2.2)).sum ≤ 9) : tot n es ≤ 18 := by
  have := tot_le hE hn h12; omega
theorem dg_lp {n : Nat} {es : List E3} {x d : List Int} {s : Nat → Int} (hx : x.length = n) (hd : d.length = n) (h : ∀ v, v < n → gi x v = gi d v - Lp n es s v) : dg x = dg d := by
  unfold dg
  rw [hx, hd, yap (g := fun v => gi d v - Lp n es s v) h, yeD, yfb]; omega
def castL (l : List Nat) : List Int := l.map fun v : Nat => (v : Int)
def yj3 (n : Nat) (es : List E3) (d : List Int) (out : List Int) : Prop := ∃ f : Nat → Bool, (∀ v, v < n → (f v = true ↔ Win n es (yeX d v 1))) ∧ out = castL ((List.range n).filter f)
theorem yj3.eq {n : Nat} {es : List E3} {d o o' : List Int} (h : yj3 n es d o) (h' : yj3 n es d o') : o = o' := by
  obtain ⟨f, hf, rfl⟩ := h
  obtain ⟨f', hf', rfl⟩ := h'
  congr 1
  refine List.filter_congr fun v hv => ?_
  rw [List.mem_range] at hv
  rw [Bool.eq_iff_iff, hf v hv, hf' v hv]
theorem filt_len (f : Nat → Bool) (k : Nat) : (castL ((List.range k).filter f)).length ≤ k := by
  unfold castL
  rw [List.length_map]
  refine Nat.le_trans (List.length_filter_le _ _) ?_
  simp
end Go.Proofs.YtmeoemmemjipdaaGreat

/- What firing a set comes to. -/
namespace Go.Proofs.YtmeoemmemjipdaaGreat
open Go Go.Proofs.Tryz
set_option linter.unusedVariables false
set_option linter.unusedSimpArgs false
section
variable {n : Nat} {es : List E3} {d : List Int} {set : List Int}
end
end Go.Proofs.YtmeoemmemjipdaaGreat

/- Words for the laws of layer 36: what its small functions come to; the chapter's examples come out right. -/
namespace Go.Proofs.YtmeoemmemjipdaaGreat
open Go Go.Proofs.Tryz
set_option linter.unusedVariables false
set_option linter.unusedSimpArgs false
theorem red_of_dec {n : Nat} {es : List E3} {q : Nat} {d : List Int} (hq : q < n) (h1 : ∀ v, v < n → v ≠ q → 0 ≤ gi d v) (h2 : ∀ m, m < 2 ^ n → 1 ≤ m → m.testBit q = false → ¬ (∀ v, v < n → m.testBit v = true → outS n es m.testBit v ≤ gi d v)) : Red n es q d :=
  (yig hq h1).1 fun m a b c => h2 m b a c
end Go.Proofs.YtmeoemmemjipdaaGreat

/- What the pure forms of sums, of equivalence and of lists of divisors come to. -/
namespace Go.Proofs.YtmeoemmemjipdaaGreat
open Go Go.Proofs.Tryz
set_option linter.unusedVariables false
set_option linter.unusedSimpArgs false
theorem yj6 {n : Nat} {l : List (List Int)} {R : Int → Prop} (hl : l.length ≤ 1000) (h0 : 0 < l.length) (hd : ∀ k, k < l.length → (gx l k).length = n ∧ yaM (gx l k) n = 0) (h : R 0) : ydz l R := by
  unfold ydz
  refine ⟨Cnt l.length (fun _ => True), Cnt.start trivial, ?_⟩
  rintro m _ ⟨k, rfl, rfl, hk, -⟩
  simp only [Int.toNat_natCast]
  refine ⟨fun hlt => ⟨by omega, ygE ⟨fun _ => Cnt.next (by omega) (by omega) trivial, fun q => absurd ?_ q⟩⟩, fun hge => ?_⟩
  · rw [(hd k (by omega)).1]; exact (hd k (by omega)).2
  · refine ⟨Cnt l.length (fun _ => True), Cnt.start trivial, ?_⟩
    rintro m _ ⟨k2, rfl, rfl, hk2, -⟩
    simp only [Int.toNat_natCast, Int.toNat_zero]
    exact ⟨fun hlt => ⟨by omega, by omega, fun _ => Cnt.next (by omega) (by omega) trivial, fun q => absurd (by rw [(hd k2 (by omega)).1, (hd 0 h0).1]) q⟩, fun hge => h⟩
theorem own_two {n : Nat} {a b : List Int} (ha : a.length = n ∧ yaM a n = 0) (hb : b.length = n ∧ yaM b n = 0) : ∀ k : Nat, k < ([a, b] : List (List Int)).length → (gx [a, b] k).length = n ∧ yaM (gx [a, b] k) n = 0 := fun k hk => by
  rcases (by simp at hk; omega : k = 0 ∨ k = 1) with rfl | rfl
  · exact ha
  · exact hb
theorem p_chips_each {n : Nat} {a b : List Int} {F : Int → Int → (Int → Prop) → Prop} {f : Int → Int → Int} {R : List Int → Int → Prop} (hn : n ≤ 12) (ha : a.length = n ∧ yaM a n = 0) (hb : b.length = n ∧ yaM b n = 0)
    (hF : ∀ v, v < n → ∀ R' : Int → Prop, R' (f (gi a v) (gi b v)) → F (gi a v) (gi b v) R') (hin : ∀ v, v < n → inF (f (gi a v) (gi b v)) = true) (h : R (tab (fun i => f (gi a i) (gi b i)) n) 0) : yje a b F R := by
  unfold yje
  refine yj6 (n := n) (by simp) (by simp) (own_two ha hb) ⟨fun _ => ?_, fun q => absurd rfl q⟩
  refine ⟨by omega, fun m v out => Cnt n (fun k => out = upto (fun i => f (gi a i) (gi b i)) k n) m v, ?_, ?_⟩
  · rw [ha.1]; exact Cnt.start (yiM _ _).symm
  rintro m _ out ⟨k3, rfl, rfl, hk3, rfl⟩
  have hal := ha.1
  have hbl := hb.1
  simp only [Int.toNat_natCast, List.length_replicate, hal]
  refine ⟨fun hlt => ?_, fun hge => ?_⟩
  · refine ⟨by omega, by omega, hF k3 (by omega) _ ⟨by rw [ybR]; omega, by rw [List.length_set, ybR]; omega, yjA ⟨fun _ => Cnt.next (by omega) (by omega) (yjF (fun i => f (gi a i) (gi b i)) (by omega)), fun q => absurd ?_ q⟩⟩⟩
    rw [ybi (by rw [ybR]; omega), if_pos rfl]
    exact hin k3 (by omega)
  · have e : k3 = n := by omega
    subst e
    rw [yjD]; exact h
theorem p_chips_Sub' {n : Nat} {a b : List Int} {R : List Int → Int → Prop} (hn : 1 ≤ n ∧ n ≤ 12) (hal : a.length = n) (hbl : b.length = n) (ha : ∀ j, j < n → -400000 ≤ gi a j ∧ gi a j ≤ 400000) (hb : ∀ j, j < n → -400000 ≤ gi b j ∧ gi b j ≤ 400000)
    (h : R (tab (fun i => gi a i - gi b i) n) 0) : yjc a b R := by
  refine p_chips_each (f := fun x y => x - y) hn.2 ⟨hal, yfP hal hn.1 hn.2 fun j hj => by have := ha j hj; omega⟩ ⟨hbl, yfP hbl hn.1 hn.2 fun j hj => by have := hb j hj; omega⟩ (fun v hv R' hR' => ⟨?_, hR'⟩) (fun v hv => ?_) h
  · have := ha v hv; have := hb v hv; exact i64 (by omega)
  · have := ha v hv; have := hb v hv
    unfold inF; rw [decide_eq_true_eq]; omega
theorem sum_dg : ∀ (d : List Int), d.sum = dg d := by
  have key : ∀ (l : List Int) (n : Nat), n ≤ l.length → sm n (gi l) = (l.take n).sum := fun l n => by
    induction n with
    | zero => intro _; simp [sm]
    | succ n ih =>
      intro h
      rw [sm, ih (by omega), List.take_add_one, List.sum_append, ybb (by omega : n < l.length), List.getElem?_eq_getElem (by omega : n < l.length)]
      simp
  intro d
  unfold dg
  rw [key d d.length (Nat.le_refl _), List.take_length]
theorem gi_drop (d : List Int) (k i : Nat) : gi (d.drop k) i = gi d (k + i) := by unfold gi; simp
theorem dg_entry {d : List Int} (h : ∀ a ∈ d, 0 ≤ a) {j : Nat} (hj : j < d.length) : 0 ≤ gi d j ∧ gi d j ≤ d.sum := by
  have h1 : ∀ i, i < d.length → 0 ≤ gi d i := fun i hi => h _ (gi_mem hi)
  refine ⟨h1 j hj, ?_⟩
  rw [sum_dg]
  exact yhy h1 j hj
theorem yei (n k : Nat) : (ybG (n + 1) k).length ≤ (k + 1) ^ n := by
  induction n generalizing k with
  | zero => simp [ybG]
  | succ n ih =>
    show ((List.range (k + 1)).flatMap fun i => (ybG (n + 1) (k - i)).map ((i : Int) :: ·)).length ≤ _
    rw [List.length_flatMap]
    have h : ∀ (L : List Nat), (∀ i ∈ L, i ≤ k) → (L.map fun i => ((ybG (n + 1) (k - i)).map ((i : Int) :: ·)).length).sum ≤ L.length * (k + 1) ^ n := fun L => by
      induction L with
      | nil => simp
      | cons a L ihL =>
        intro hL
        have h1 := ihL fun i hi => hL i (by simp [hi])
        have h2 := ih (k - a)
        have h3 : (k - a + 1) ^ n ≤ (k + 1) ^ n := Nat.pow_le_pow_left (by omega) n
        simp only [List.map_cons, List.sum_cons, List.length_cons, List.length_map] at h1 ⊢
        rw [Nat.add_mul, Nat.one_mul]
        omega
    have := h (List.range (k + 1)) fun i hi => by rw [List.mem_range] at hi; omega
    rw [List.length_range] at this
    rwa [Nat.pow_succ, Nat.mul_comm]
end Go.Proofs.YtmeoemmemjipdaaGreat

/- Ranks of divisors, plainly: what takes any effective divisor of a degree away. No program in sight. -/
namespace Go.Proofs.YtmeoemmemjipdaaGreat
open Go Go.Proofs.Tryz
set_option linter.unusedVariables false
set_option linter.unusedSectionVars false
set_option linter.unusedSimpArgs false
theorem dg_n {d : List Int} {n : Nat} (h : d.length = n) : dg d = sm n (gi d) := by unfold dg; rw [h]
theorem ygT {n : Nat} {es : List E3} {a b : List Int} (h : ∀ v, v < n → gi a v ≤ gi b v) (ha : Win n es a) : Win n es b := by
  obtain ⟨s, hs⟩ := ha
  exact ⟨s, fun v hv => by have := hs v hv; have := h v hv; omega⟩
theorem win_eqv {n : Nat} {es : List E3} {x y : List Int} {s : Nat → Int} (h : ∀ v, v < n → gi y v = gi x v - Lp n es s v) : Win n es x ↔ Win n es y := by
  constructor
  · rintro ⟨t, ht⟩
    refine ⟨fun i => t i + (-1) * s i, fun v hv => ?_⟩
    rw [yfC t (fun i => (-1) * s i), ygu, h v hv]
    have := ht v hv
    omega
  · rintro ⟨t, ht⟩
    refine ⟨fun i => t i + s i, fun v hv => ?_⟩
    rw [yfC t s]
    have := ht v hv
    rw [h v hv] at this
    omega
def half (n : Nat) (es : List E3) (r : Nat → Nat → Bool) : Int := sm n (fun v => sm n (fun u => if r u v = true then W es v u else 0))
theorem yjZ {n : Nat} {es : List E3} {r : Nat → Nat → Bool} : half n es r = half n es (fun u v => r v u) := by
  unfold half
  rw [yg7 (fun v u => if r u v = true then W es v u else 0)]
  refine yap fun v hv => yap fun u hu => ?_
  show (if r v u = true then W es u v else 0) = if r v u = true then W es v u else 0
  rw [ydG]
theorem half_le {n : Nat} {es : List E3} (hE : EOk n es) {r : Nat → Nat → Bool} (h : ∀ u v, r u v = true → r v u = true → False) : 2 * half n es r ≤ tot n es := by
  have h1 : half n es r + half n es r ≤ tot n es := by
    conv => lhs; arg 2; rw [yjZ]
    unfold half tot
    rw [← ybB]
    refine ydc fun v hv => ?_
    show _ + _ ≤ _
    rw [← ybB]
    refine ydc fun u hu => ?_
    show (if r u v = true then W es v u else 0) + (if r v u = true then W es v u else 0) ≤ W es v u
    have := ya4 hE v u
    by_cases e1 : r u v = true
    · rw [if_pos e1, if_neg (fun e2 => h u v e1 e2)]; omega
    · rw [if_neg e1]; split <;> omega
  omega
theorem half_ge {n : Nat} {es : List E3} (hE : EOk n es) {r : Nat → Nat → Bool} (h : ∀ u v, u ≠ v → r u v = true ∨ r v u = true) : tot n es ≤ 2 * half n es r := by
  have h1 : tot n es ≤ half n es r + half n es r := by
    conv => rhs; arg 2; rw [yjZ]
    unfold half tot
    rw [← ybB]
    refine ydc fun v hv => ?_
    show _ ≤ _ + _
    rw [← ybB]
    refine ydc fun u hu => ?_
    show W es v u ≤ (if r u v = true then W es v u else 0) + (if r v u = true then W es v u else 0)
    have := ya4 hE v u
    by_cases e : u = v
    · subst e; rw [yfK]; split <;> omega
    · rcases h u v e with q | q
      · rw [if_pos q]; split <;> omega
      · rw [if_pos q]; split <;> omega
  omega
def ords (n : Nat) (es : List E3) (b : List Bool) (ρ : Nat → Nat) (v : Nat) : Int := sm n (fun u => if gb b u = true ∧ ¬ ρ u < ρ v then 0 else W es v u)
theorem bor_all {n : Nat} {es : List E3} {d : List Int} (hg : yat n es = 0) (hE : EOk n es) (hC : ∀ q, q < n → Conn n es q) (hn : n ≤ 12) (hdb : ∀ v, v < n → -1000 ≤ gi d v) (hw : ¬ Win n es d) :
    ∀ (N : Nat) (c : Nat → Int) (x : List Int) (b : List Bool) (ρ : Nat → Nat) (K : Nat), 3456001 - sm n c ≤ N → Bor n es d c x b → (∀ u, u < n → ρ u < K) → (∀ v, v < n → gb b v = true → gi x v ≤ ords n es b ρ v - 1) →
      ∃ c x b ρ, Bor n es d c x b ∧ (∀ v, v < n → gb b v = true) ∧ ∀ v, v < n → gi x v ≤ ords n es b ρ v - 1 := by
  intro N
  induction N with
  | zero =>
    intro c x b ρ K hN hB hρ hx
    by_cases hall : ∀ v, v < n → gb b v = true
    · exact ⟨c, x, b, ρ, hB, hall, fun v hv => hx v hv (hall v hv)⟩
    · exfalso
      obtain ⟨w, hw1⟩ := Classical.not_forall.1 hall
      obtain ⟨hw2, hw3⟩ := Classical.not_imp.1 hw1
      have := bor_total hn (bor_few hE hC hn hdb hB hw2 hw3)
      omega
  | succ N ih =>
    intro c x b ρ K hN hB hρ hx
    by_cases hall : ∀ v, v < n → gb b v = true
    · exact ⟨c, x, b, ρ, hB, hall, fun v hv => hx v hv (hall v hv)⟩
    · have hdebt : ¬ ∀ v, v < n → 0 ≤ gi x v := fun q => hw (bor_win hB q)
      obtain ⟨v, hv1⟩ := Classical.not_forall.1 hdebt
      obtain ⟨hv, hv3⟩ := Classical.not_imp.1 hv1
      have hneg : gi x v < 0 := by omega
      have hy : ∀ i, i < n → gi (tab (fun i => if i = v then gi x v + deg n es v else gi x i - W es i v) n) i = if i = v then gi x v + deg n es v else gi x i - W es i v := fun i hi => yde _ hi
      have hB2 := bor_step hg hE hn hB hv hneg (ya2 _ n) hy
      refine ih _ _ _ (fun u => if u = v then K else ρ u) (K + 1) (by rw [bor_count hv]; omega) hB2 (fun u hu => ?_) fun i hi hbi => ?_
      · show (if u = v then K else ρ u) < K + 1
        have := hρ u hu
        split <;> omega
      · rw [hy i hi]
        have hgb : ∀ u, gb (b.set v true) u = if u = v then true else gb b u := fun u => by
          rw [ydI (by rw [hB.bl]; exact hv)]
        by_cases e : i = v
        · subst e
          rw [if_pos rfl]
          have h1 : ords n es (b.set i true) (fun u => if u = i then K else ρ u) i = deg n es i := by
            unfold ords deg
            refine yap fun u hu => ?_
            show (if gb (b.set i true) u = true ∧ ¬ (if u = i then K else ρ u) < (if i = i then K else ρ i) then 0 else W es i u) = W es i u
            by_cases e : u = i
            · subst e; rw [yfK]; exact ite_self _
            · rw [if_neg]
              rintro ⟨_, h⟩
              rw [if_neg e, if_pos rfl] at h
              exact h (hρ u hu)
          rw [h1]; omega
        · rw [if_neg e]
          rw [hgb, if_neg e] at hbi
          have h0 := hx i hi hbi
          have h1 : ords n es b ρ i ≤ ords n es (b.set v true) (fun u => if u = v then K else ρ u) i + W es i v := by
            have h2 : ords n es (b.set v true) (fun u => if u = v then K else ρ u) i + W es i v = sm n (fun u => (if gb (b.set v true) u = true ∧ ¬ (if u = v then K else ρ u) < (if i = v then K else ρ i) then 0 else W es i u) + if u = v then W es i v else 0) := by
              rw [ybB, yc2 _ hv]; rfl
            rw [h2]
            unfold ords
            refine ydc fun u hu => ?_
            show (if gb b u = true ∧ ¬ ρ u < ρ i then 0 else W es i u) ≤ (if gb (b.set v true) u = true ∧ ¬ (if u = v then K else ρ u) < (if i = v then K else ρ i) then 0 else W es i u) + if u = v then W es i v else 0
            rw [hgb, if_neg e]
            have := ya4 hE i u
            by_cases e2 : u = v
            · subst e2
              rw [if_pos rfl, if_pos rfl, if_pos rfl]
              split <;> split <;> omega
            · rw [if_neg e2, if_neg e2, if_neg e2]; omega
          omega
theorem win_many {n : Nat} {es : List E3} {d : List Int} (hg : yat n es = 0) (hC : ∀ q, q < n → Conn n es q) (hn : n ≤ 12) (hd : d.length = n) (hdb : ∀ v, v < n → -1000 ≤ gi d v ∧ gi d v ≤ 1000) (h : ycE es + 1 - n ≤ dg d) : Win n es d := by
  apply Classical.byContradiction
  intro hw
  have hE := (yba hg).1
  obtain ⟨c, x, b, ρ, hB, hall, hx⟩ := bor_all hg hE hC hn (fun v hv => (hdb v hv).1) hw 3456001 (fun _ => 0) d (List.replicate n false) (fun _ => 0) 1 (by rw [ybr]; omega) (bor_start hd fun v hv => (hdb v hv).2) (fun _ _ => by omega) (fun v hv h => by rw [gb_rep] at h; cases h)
  have h1 : dg x = dg d := dg_lp (n := n) (es := es) hB.xl hd (s := fun i => (-1) * c i) fun v hv => by rw [ygu, hB.val v hv]; omega
  have h2 : dg x ≤ half n es (fun u v => decide (ρ u < ρ v)) - n := by
    rw [dg_n hB.xl]
    have h3 : half n es (fun u v => decide (ρ u < ρ v)) - n = sm n (fun v => ords n es b ρ v - 1) := by
      rw [yeD, ydp]
      have : half n es (fun u v => decide (ρ u < ρ v)) = sm n (fun v => ords n es b ρ v) := by
        unfold half ords
        refine yap fun v hv => yap fun u hu => ?_
        show (if decide (ρ u < ρ v) = true then W es v u else 0) = if gb b u = true ∧ ¬ ρ u < ρ v then 0 else W es v u
        by_cases e : ρ u < ρ v
        · rw [if_pos (by simpa using e), if_neg (fun q => q.2 e)]
        · rw [if_neg (by simpa using e), if_pos ⟨hall u hu, e⟩]
      have e9 : sm n (ords n es b ρ) = sm n (fun v => ords n es b ρ v) := rfl
      rw [this, e9]; omega
    rw [h3]
    exact ydc hx
  have h4 := half_le hE (r := fun u v => decide (ρ u < ρ v)) (fun u v a b => by simp at a b; omega)
  rw [ygF hE] at h4
  omega
def nu (n : Nat) (es : List E3) : List Int := tab (fun v => sm n (fun u => if decide (u < v) = true then W es v u else 0) - 1) n
theorem nu_dg {n : Nat} {es : List E3} (hE : EOk n es) : dg (nu n es) = ycE es - n := by
  have h1 : dg (nu n es) = half n es (fun u v => decide (u < v)) - n := by
    rw [dg_n (show (nu n es).length = n from ya2 _ n)]
    have : sm n (gi (nu n es)) = sm n (fun v => sm n (fun u => if decide (u < v) = true then W es v u else 0) - 1) := yap fun v hv => yde _ hv
    rw [this, yeD, ydp]
    show _ - _ = half n es (fun u v => decide (u < v)) - n
    have e9 : half n es (fun u v => decide (u < v)) = sm n (fun v => sm n (fun u => if decide (u < v) = true then W es v u else 0)) := rfl
    rw [e9]; omega
  have h2 := half_le hE (r := fun u v => decide (u < v)) (fun u v a b => by simp at a b; omega)
  have h3 := half_ge hE (r := fun u v => decide (u < v)) (fun u v h => by simp; omega)
  rw [ygF hE] at h2 h3
  omega
theorem least_at (p : Nat → Prop) {n : Nat} (h : ∃ v, v < n ∧ p v) : ∃ v, v < n ∧ p v ∧ ∀ u, u < v → ¬ p u := by
  obtain ⟨v, hv, hp⟩ := h
  have : ∀ v, v < n → p v → ∃ v, v < n ∧ p v ∧ ∀ u, u < v → ¬ p u := by
    intro v
    induction v using Nat.strongRecOn with
    | ind v ih =>
      intro hv hp
      by_cases q : ∃ u, u < v ∧ p u
      · obtain ⟨u, hu, hpu⟩ := q
        exact ih u hu (by omega) hpu
      · exact ⟨v, hv, hp, fun u hu hpu => q ⟨u, hu, hpu⟩⟩
  exact this v hv hp
theorem nu_lose {n : Nat} {es : List E3} (hE : EOk n es) (hn : 1 ≤ n) : ¬ Win n es (nu n es) := by
  rintro ⟨s, hs⟩
  obtain ⟨w, hw, hmax⟩ := max_at s n hn
  obtain ⟨v, hv, hp, hlow⟩ := least_at (fun v => s v = s w) (n := n) ⟨w, hw, rfl⟩
  have h1 := hs v hv
  have h2 : sm n (fun u => if decide (u < v) = true then W es v u else 0) ≤ Lp n es s v := by
    unfold Lp
    refine ydc fun u hu => ?_
    show (if decide (u < v) = true then W es v u else 0) ≤ W es v u * (s v - s u)
    have h3 := ya4 hE v u
    have h4 := hmax u hu
    by_cases e : u < v
    · rw [if_pos (by simpa using e)]
      have h5 : s u ≠ s w := hlow u e
      have h6 : W es v u * 1 ≤ W es v u * (s v - s u) := Int.mul_le_mul_of_nonneg_left (by omega) h3
      omega
    · rw [if_neg (by simpa using e)]
      exact Int.mul_nonneg h3 (by omega)
  have h3 : gi (nu n es) v = sm n (fun u => if decide (u < v) = true then W es v u else 0) - 1 := yde _ hv
  omega
theorem nu_bound {n : Nat} {es : List E3} (hE : EOk n es) {T : Int} (ht : tot n es ≤ T) {v : Nat} (hv : v < n) : -1 ≤ gi (nu n es) v ∧ gi (nu n es) v ≤ T := by
  have h3 : gi (nu n es) v = sm n (fun u => if decide (u < v) = true then W es v u else 0) - 1 := yde _ hv
  have h4 : 0 ≤ sm n (fun u => if decide (u < v) = true then W es v u else 0) := yaX fun u _ => by
    have := ya4 hE v u
    show 0 ≤ if decide (u < v) = true then W es v u else 0
    split <;> omega
  have h5 : sm n (fun u => if decide (u < v) = true then W es v u else 0) ≤ deg n es v := ydc fun u _ => by
    have := ya4 hE v u
    show (if decide (u < v) = true then W es v u else 0) ≤ W es v u
    split <;> omega
  have h6 : deg n es v ≤ tot n es := yhy (f := fun v => sm n (fun u => W es v u)) (fun i _ => yaX fun u _ => ya4 hE i u) v hv
  omega
def sb (n : Nat) (d e : List Int) : List Int := tab (fun i => gi d i - gi e i) n
theorem ycd (n : Nat) (d e : List Int) : (sb n d e).length = n := ya2 _ _
theorem yff {n : Nat} {d e : List Int} {v : Nat} (hv : v < n) : gi (sb n d e) v = gi d v - gi e v := yde _ hv
theorem dg_sb {n : Nat} {d e : List Int} (hd : d.length = n) (he : e.length = n) : dg (sb n d e) = dg d - dg e := by
  rw [dg_n (ycd n d e), dg_n hd, dg_n he, ← yeD]
  exact yap fun v hv => yff hv
structure Eff (n : Nat) (e : List Int) (r : Int) : Prop where
  len : e.length = n
  pos : ∀ v, v < n → 0 ≤ gi e v
  deg : dg e = r
theorem Eff.nonneg {n : Nat} {e : List Int} {r : Int} (h : Eff n e r) : 0 ≤ r := by
  rw [← h.deg, dg_n h.len]; exact yaX h.pos
theorem Eff.le {n : Nat} {e : List Int} {r : Int} (h : Eff n e r) {v : Nat} (hv : v < n) : gi e v ≤ r := by
  rw [← h.deg, dg_n h.len]; exact yhy h.pos v hv
theorem Eff.add {n : Nat} {e : List Int} {r : Int} (h : Eff n e r) {v : Nat} (hv : v < n) {k : Int} (hk : 0 ≤ gi e v + k) : Eff n (yeX e v k) (r + k) :=
  ⟨by rw [yep, h.len], fun i hi => by
    rw [ydL (by rw [h.len]; exact hv)]
    have := h.pos i hi
    split <;> omega, by rw [dg_addAt (by rw [h.len]; exact hv), h.deg]⟩
theorem yhU (n : Nat) : Eff n (List.replicate n 0) 0 :=
  ⟨by simp, fun v hv => by rw [ybb (by simpa using hv)]; simp, by
    rw [dg_n (n := n) (by simp), yap (g := fun _ => 0) fun v hv => by rw [ybb (by simpa using hv)]; simp]
    exact ybr n⟩
theorem eff_at {n : Nat} (hn : 1 ≤ n) {k : Int} (hk : 0 ≤ k) : Eff n (yeX (List.replicate n 0) 0 k) k := by
  have h := (yhU n).add (v := 0) (by omega) (k := k) (by have := (yhU n).pos 0 (by omega); omega)
  rwa [Int.zero_add] at h
theorem yif {n v : Nat} (hv : v < n) : gi (List.replicate n 0) v = 0 := by rw [ybb (by simpa using hv)]; simp
def AL (n : Nat) (es : List E3) (d : List Int) (r : Int) : Prop := ∀ e, Eff n e r → Win n es (sb n d e)
structure RkOk (n : Nat) (es : List E3) (d : List Int) (k : Int) : Prop where
  lo : -1 ≤ k
  al : AL n es d k
  no : ¬ AL n es d (k + 1)
section
variable {n : Nat} {es : List E3} {d : List Int}
theorem al_neg {r : Int} (hr : r < 0) : AL n es d r := fun e he => by have := he.nonneg; omega
theorem al_down (hn : 1 ≤ n) {r : Int} (h : AL n es d (r + 1)) : AL n es d r := fun e he => by
  have h1 := h _ (he.add (v := 0) (k := 1) (by omega) (by have := he.pos 0 (by omega); omega))
  refine ygT (fun v hv => ?_) h1
  rw [yff hv, yff hv, ydL (by rw [he.len]; omega)]
  split
  · rename_i e; subst e; omega
  · omega
theorem al_le (hn : 1 ≤ n) : ∀ (k : Nat) {r : Int}, AL n es d (r + k) → AL n es d r
  | 0, r, h => by simpa using h
  | k + 1, r, h => al_le hn k (al_down hn (by rw [Int.add_assoc]; exact_mod_cast h))
theorem ygN (hn : 1 ≤ n) {r r' : Int} (h : r ≤ r') (ha : AL n es d r') : AL n es d r := by
  refine al_le hn (r' - r).toNat ?_
  rwa [show r + ((r' - r).toNat : Int) = r' from by omega]
theorem RkOk.eq (hn : 1 ≤ n) {k k' : Int} (h : RkOk n es d k) (h' : RkOk n es d k') : k = k' := by
  rcases Int.lt_trichotomy k k' with q | q | q
  · exact absurd (ygN hn (by omega) h'.al) h.no
  · exact q
  · exact absurd (ygN hn (by omega) h.al) h'.no
theorem RkOk.ge (hn : 1 ≤ n) {k r : Int} (h : RkOk n es d k) : r ≤ k ↔ AL n es d r :=
  ⟨fun q => ygN hn q h.al, fun q => Int.not_lt.1 fun lt => h.no (ygN hn (by omega) q)⟩
theorem sb_zero {v : Nat} (hv : v < n) : gi (sb n d (List.replicate n 0)) v = gi d v := by rw [yff hv, yif hv]; omega
theorem al_zero : AL n es d 0 ↔ Win n es d := by
  constructor
  · intro h; exact ygT (fun v hv => by rw [sb_zero hv]; exact Int.le_refl _) (h _ (yhU n))
  · intro h e he
    refine ygT (fun v hv => ?_) h
    have h1 := he.pos v hv
    have h2 := he.le hv
    rw [yff hv]; omega
theorem rk_lose (h : ¬ Win n es d) : RkOk n es d (-1) := ⟨by omega, al_neg (by omega), fun q => h (al_zero.1 q)⟩
theorem RkOk.win (hn : 1 ≤ n) {k : Int} (h : RkOk n es d k) : 0 ≤ k ↔ Win n es d := (h.ge hn).trans al_zero
theorem RkOk.top (hn : 1 ≤ n) (hd : d.length = n) {k : Int} (h : RkOk n es d k) (hw : Win n es d) : k ≤ dg d := by
  have h0 := (h.win hn).2 hw
  have h1 := win_dg (ycd n d _) (h.al _ (eff_at hn h0))
  rw [dg_sb hd (eff_at hn h0).len, (eff_at hn h0).deg] at h1
  omega
theorem al_eqv {x y : List Int} {s : Nat → Int} (h : ∀ v, v < n → gi y v = gi x v - Lp n es s v) {r : Int} : AL n es x r ↔ AL n es y r := by
  have key : ∀ e, Win n es (sb n x e) ↔ Win n es (sb n y e) := fun e => win_eqv (s := s) fun v hv => by rw [yff hv, yff hv, h v hv]; omega
  exact ⟨fun q e he => (key e).1 (q e he), fun q e he => (key e).2 (q e he)⟩
theorem rk_eqv {x y : List Int} {s : Nat → Int} (h : ∀ v, v < n → gi y v = gi x v - Lp n es s v) {k : Int} : RkOk n es x k ↔ RkOk n es y k :=
  ⟨fun q => ⟨q.lo, (al_eqv h).1 q.al, fun a => q.no ((al_eqv h).2 a)⟩, fun q => ⟨q.lo, (al_eqv h).2 q.al, fun a => q.no ((al_eqv h).1 a)⟩⟩
theorem rk_big (hg : yat n es = 0) (hC : ∀ q, q < n → Conn n es q) (h1 : 1 ≤ n) (hn : n ≤ 12) (hd : d.length = n) (hdb : ∀ v, v < n → -200 ≤ gi d v ∧ gi d v ≤ 200) (hdg : dg d ≤ 200) (ht : tot n es ≤ 18) (h : 2 * (ycE es + 1 - n) - 2 < dg d) :
    RkOk n es d (dg d - (ycE es + 1 - n)) := by
  have hE := (yba hg).1
  have hg0 : 0 ≤ ycE es + 1 - n := by
    apply Classical.byContradiction
    intro q
    have hl : (yeX (List.replicate n (0 : Int)) 0 (-1)).length = n := by rw [yep]; simp
    have hdg1 : dg (yeX (List.replicate n (0 : Int)) 0 (-1)) = -1 := by rw [dg_addAt (by simp; omega), (yhU n).deg]; rfl
    have hw := win_many hg hC hn hl (fun v hv => by
      rw [ydL (by simp; omega), yif hv, yif (by omega)]
      split <;> omega) (by rw [hdg1]; omega)
    have := win_dg hl hw
    omega
  refine ⟨by omega, fun e he => ?_, fun hal => ?_⟩
  · refine win_many hg hC hn (ycd n d e) (fun v hv => ?_) ?_
    · rw [yff hv]
      have := he.pos v hv
      have := he.le hv
      have := hdb v hv
      omega
    · rw [dg_sb hd he.len, he.deg]; omega
  · have hnl : (nu n es).length = n := ya2 _ n
    have h2 : Win n es (sb n d (nu n es)) := by
      refine win_many hg hC hn (ycd n d _) (fun v hv => ?_) ?_
      · rw [yff hv]
        have := nu_bound hE ht hv
        have := hdb v hv
        omega
      · rw [dg_sb hd hnl, nu_dg hE]; omega
    obtain ⟨s, hs⟩ := h2
    obtain ⟨e, he⟩ : ∃ e, e = tab (fun v => gi (sb n d (nu n es)) v - Lp n es s v) n := ⟨_, rfl⟩
    have hge : ∀ v, v < n → gi e v = gi (sb n d (nu n es)) v - Lp n es s v := fun v hv => by rw [he]; exact yde _ hv
    have hel : e.length = n := by rw [he]; exact ya2 _ n
    have heff : Eff n e (dg d - (ycE es + 1 - n) + 1) := ⟨hel, fun v hv => by rw [hge v hv]; exact hs v hv, by
      rw [dg_lp hel (ycd n d _) hge, dg_sb hd hnl, nu_dg hE]; omega⟩
    have h3 := hal e heff
    refine nu_lose hE h1 ((win_eqv (x := nu n es) (y := sb n d e) (s := fun i => (-1) * s i) fun v hv => ?_).2 h3)
    rw [ygu, yff hv, hge v hv, yff hv]
    omega
theorem rk_step (hn : 1 ≤ n) (hd : d.length = n) (hw : Win n es d) {k : Nat → Int} (hk : ∀ v, v < n → RkOk n es (yeX d v (-1)) (k v)) {m : Int} (h1 : ∀ v, v < n → m ≤ k v + 1) (h2 : ∃ v, v < n ∧ m = k v + 1) : RkOk n es d m := by
  obtain ⟨v, hv, hm⟩ := h2
  refine ⟨by have := (hk v hv).lo; omega, fun e he => ?_, fun q => ?_⟩
  · by_cases e0 : m = 0
    · subst e0; exact al_zero.2 hw e he
    · have hpos : ∃ u, u < n ∧ 1 ≤ gi e u := by
        apply Classical.byContradiction
        intro q
        have : dg e ≤ 0 := by
          rw [dg_n he.len, ← ybr n]
          exact ydc fun u hu => Int.not_lt.1 fun lt => q ⟨u, hu, lt⟩
        have := he.nonneg
        have := he.deg
        omega
      obtain ⟨u, hu, hu1⟩ := hpos
      have h3 := ygN hn (r := m - 1) (by have := h1 u hu; omega) (hk u hu).al (yeX e u (-1)) (by have := he.add hu (k := -1) (by omega); exact this)
      refine ygT (fun i hi => ?_) h3
      rw [yff hi, yff hi, ydL (by rw [hd]; exact hu), ydL (by rw [he.len]; exact hu)]
      split
      · rename_i e; subst e; omega
      · omega
  · refine (hk v hv).no fun e he => ?_
    have h3 := q (yeX e v 1) (by have := he.add hv (k := 1) (by have := he.pos v hv; omega); rwa [show k v + 1 + 1 = m + 1 from by omega] at this)
    refine ygT (fun i hi => ?_) h3
    rw [yff hi, yff hi, ydL (d := e) (by rw [he.len]; exact hv), ydL (d := d) (by rw [hd]; exact hv)]
    split
    · rename_i e; subst e; omega
    · omega
end
end Go.Proofs.YtmeoemmemjipdaaGreat

/- What the finder of ranks comes to. -/
namespace Go.Proofs.YtmeoemmemjipdaaGreat
open Go Go.Proofs.Tryz
set_option linter.unusedVariables false
set_option linter.unusedSimpArgs false
theorem ygc {n : Nat} {d : List Int} {R : Int → Int → Prop} (hn : 1 ≤ n ∧ n ≤ 12) (hd : d.length = n) (hb : ∀ j, j < n → -1000000 ≤ gi d j ∧ gi d j ≤ 1000000) (h : R (dg d) 0) : ybC d R := by
  unfold ybC
  refine yj6 (n := n) (by simp) (by simp) (fun k hk => ?_) ⟨fun _ => ?_, fun q => absurd rfl q⟩
  · have e : k = 0 := by simp at hk; omega
    subst e
    exact ⟨hd, yfP hd hn.1 hn.2 fun j hj => by have := hb j hj; show -1048576 ≤ gi d j ∧ gi d j ≤ 1048576; omega⟩
  refine ⟨fun m s v => Cnt d.length (fun k => s = sm k (gi d)) m v, Cnt.start rfl, ?_⟩
  rintro m _ _ ⟨k, rfl, rfl, hk, rfl⟩
  simp only [Int.toNat_natCast]
  refine ⟨fun hlt => ⟨by omega, ?_, ?_⟩, fun hge => ?_⟩
  · have h1 := yc0 (f := gi d) (B := 1000000) (by omega) (n := k) (fun i hi => hb i (by omega))
    have h2 := hb k (by omega)
    exact i64 (by omega)
  · exact Cnt.next (by omega) (by omega) rfl
  · have e : k = d.length := by omega
    subst e; exact h
def errL (n : Int) : List (List Int) → Int
  | [] => 0
  | d :: t => if yaM d n = 0 then errL n t else yaM d n
theorem yii {d : List Int} {t : List (List Int)} {k : Nat} : gx (d :: t) (k + 1) = gx t k := by simp [gx]
theorem yh4 {d : List Int} {t : List (List Int)} : gx (d :: t) 0 = d := by simp [gx]
theorem errL_zero {n : Int} : ∀ {l : List (List Int)}, (∀ j, j < l.length → yaM (gx l j) n = 0) → errL n l = 0
  | [], _ => rfl
  | d :: t, h => by
    have h0 := h 0 (by simp)
    rw [yh4] at h0
    unfold errL
    rw [if_pos h0]
    exact errL_zero fun j hj => by have := h (j + 1) (by simpa using hj); rwa [yii] at this
theorem errL_at {n : Int} : ∀ {l : List (List Int)} {k : Nat}, k < l.length → (∀ j, j < k → yaM (gx l j) n = 0) → yaM (gx l k) n ≠ 0 → errL n l = yaM (gx l k) n
  | [], k, hk, _, _ => by simp at hk
  | d :: t, 0, hk, h, hn => by
    rw [yh4] at hn ⊢
    unfold errL
    rw [if_neg hn]
  | d :: t, k + 1, hk, h, hn => by
    have h0 := h 0 (by omega)
    rw [yh4] at h0
    rw [yii] at hn ⊢
    unfold errL
    rw [if_pos h0]
    exact errL_at (by simpa using hk) (fun j hj => by have := h (j + 1) (by omega); rwa [yii] at this) hn
def givL (n : Int) (es : List E3) (l : List (List Int)) : Int := if yca n es = 0 then errL n l else yca n es
theorem yjX {n : Int} {es : List E3} {d : List Int} : givL n es [d] = yaH n es 0 d := by
  rw [given0]
  unfold givL errL errL
  by_cases e : yaM d n = 0 <;> simp [e]
theorem yfz {n : Int} {es : List E3} {l : List (List Int)} {R : Int → Prop} (hl : es.length ≤ 1000) (hll : l.length ≤ 1000) (h : R (givL n es l)) : yb6 n es l R := by
  unfold yb6
  refine ⟨by omega, fun hg => ⟨fun hc => ?_, fun hc => ?_⟩, fun hg => ?_⟩
  · have hj : yca n es = 0 := by
      have := of_decide_eq_true hc
      unfold yca; rw [if_pos this.1, if_pos this.2]
    have e : givL n es l = errL n l := by unfold givL; rw [if_pos hj]
    rw [e] at h
    refine ⟨Cnt l.length (fun k => ∀ j, j < k → yaM (gx l j) n = 0), Cnt.start (fun j hj => absurd hj (by omega)), ?_⟩
    rintro m _ ⟨k, rfl, rfl, hk, hinv⟩
    simp only [Int.toNat_natCast]
    refine ⟨fun hlt => ⟨by omega, ygE ⟨fun h0 => Cnt.next (by omega) (by omega) fun j hj => ?_, fun hne => ?_⟩⟩, fun hge => ?_⟩
    · by_cases e : j = k
      · rw [e]; exact h0
      · exact hinv j (by omega)
    · rw [errL_at (by omega) hinv hne] at h; exact h
    · have e : k = l.length := by omega
      rw [errL_zero (by rw [← e]; exact hinv)] at h; exact h
  · have hj : yca n es = 13 := by
      unfold yca; rw [if_pos hg, if_neg]
      intro q; exact hc (decide_eq_true ⟨hg, q⟩)
    have e : givL n es l = 13 := by unfold givL; rw [if_neg (by omega), hj]
    rw [e] at h; exact h
  · have hj : yca n es = yat n es := by unfold yca; rw [if_neg hg]
    have e : givL n es l = yat n es := by unfold givL; rw [if_neg (by omega), hj]
    rw [e] at h; exact h
def keyF (r : List Int) : List Int := cpy (List.replicate 12 (0 : Int)) r
theorem ygg (r : List Int) : (keyF r).length = 12 := by unfold keyF; rw [cpy_length]; simp
theorem gi_keyF {r : List Int} {i : Nat} (hi : i < 12) : gi (keyF r) i = if i < r.length then gi r i else 0 := by
  unfold keyF
  rw [gi_cpy (by simpa using hi), yif hi]
theorem keyF_inj {n : Nat} {r r' : List Int} (hn : n ≤ 12) (h : r.length = n) (h' : r'.length = n) (e : keyF r = keyF r') : r = r' := by
  refine yeT (by omega) fun k hk => ?_
  have h1 := gi_keyF (r := r) (i := k) (by omega)
  have h2 := gi_keyF (r := r') (i := k) (by omega)
  rw [if_pos (by omega)] at h1 h2
  rw [← h1, ← h2, e]
structure MOk (n : Nat) (es : List E3) (m : List (List Int × Int)) : Prop where
  keys : KOk 12 m
  vals : ∀ p ∈ m, ∃ r, p.1 = keyF r ∧ Eff n r (dg r) ∧ dg r ≤ 5 ∧ RkOk n es r p.2
theorem MOk.nil (n : Nat) (es : List E3) : MOk n es [] := ⟨KOk.nil 12, fun p hp => by simp at hp⟩
theorem keyF_ok {n : Nat} {r : List Int} (hr : Eff n r (dg r)) (h5 : dg r ≤ 5) : yit 12 (keyF r) := by
  refine ⟨ygg r, fun x hx => ?_⟩
  obtain ⟨i, hi, rfl⟩ := List.getElem_of_mem hx
  rw [ygg] at hi
  rw [← ybb (by rw [ygg]; exact hi), gi_keyF hi]
  split
  · have hi2 : i < n := by rw [← hr.len]; assumption
    have := hr.pos i hi2
    have := hr.le hi2
    exact i64 (by omega)
  · exact i64 (by omega)
theorem MOk.put {n : Nat} {es : List E3} {m : List (List Int × Int)} (h : MOk n es m) {r : List Int} {v : Int} (hr : Eff n r (dg r)) (h5 : dg r ≤ 5) (hk : RkOk n es r v) : MOk n es (mput m (keyF r) v) := by
  have hK := h.keys.put (keyF_ok hr h5) v
  refine ⟨hK, fun p hp => ?_⟩
  rcases mput_mem hp with e | e
  · obtain ⟨j, hj⟩ := List.mem_iff_getElem?.1 hp
    have h1 := mget_at hK.1 (k := p.1) (v := p.2) hj
    rw [e, mget_put, if_pos rfl] at h1
    cases h1
    exact ⟨r, e, hr, h5, hk⟩
  · exact h.vals p e
theorem MOk.get {n : Nat} {es : List E3} {m : List (List Int × Int)} (h : MOk n es m) (hn : n ≤ 12) {r : List Int} {v : Int} (hr : r.length = n) (hg : mget m (keyF r) = some v) : RkOk n es r v := by
  obtain ⟨r', h1, h2, h3, h4⟩ := h.vals _ (mget_mem hg)
  have e := keyF_inj hn hr h2.len h1
  subst e; exact h4
theorem nodup_le : ∀ {l K : List (List Int)}, l.Nodup → (∀ x ∈ l, x ∈ K) → l.length ≤ K.length
  | [], K, _, _ => Nat.zero_le _
  | a :: t, K, h, hs => by
    have h1 := List.nodup_cons.1 h
    have ha : a ∈ K := hs a (by simp)
    have h2 := nodup_le (l := t) (K := K.erase a) h1.2 fun x hx => (List.mem_erase_of_ne (by rintro rfl; exact h1.1 hx)).2 (hs x (by simp [hx]))
    rw [List.length_erase_of_mem ha] at h2
    have : 0 < K.length := List.length_pos_of_mem ha
    simp only [List.length_cons]
    omega
theorem flat_le {f : Nat → List (List Int)} {B : Nat} : ∀ {l : List Nat}, (∀ a ∈ l, (f a).length ≤ B) → (l.flatMap f).length ≤ l.length * B
  | [], _ => by simp
  | a :: t, h => by
    rw [List.flatMap_cons, List.length_append, List.length_cons, Nat.add_mul, Nat.one_mul]
    have := h a (by simp)
    have := flat_le (f := f) (l := t) fun b hb => h b (by simp [hb])
    omega
theorem yhT {n k : Nat} {e : List Int} (h : Eff (n + 1) e (k : Int)) : e ∈ ybG (n + 1) k := by
  refine (ydW n k e).2 ⟨h.len, fun a ha => ?_, by rw [sum_dg, h.deg]⟩
  obtain ⟨i, hi, rfl⟩ := List.getElem_of_mem ha
  rw [← ybb hi]
  exact h.pos i (by rw [← h.len]; exact hi)
theorem ye3 {n k : Nat} {e : List Int} (h : e ∈ ybG (n + 1) k) : Eff (n + 1) e (k : Int) := by
  obtain ⟨h1, h2, h3⟩ := (ydW n k e).1 h
  exact ⟨h1, fun v hv => (dg_entry h2 (by omega)).1, by rw [← sum_dg, h3]⟩
theorem MOk.len {n : Nat} {es : List E3} {m : List (List Int × Int)} (h : MOk n es m) (h1 : 1 ≤ n) (hn : n ≤ 5) : m.length ≤ 7776 := by
  obtain ⟨n, rfl⟩ : ∃ k, n = k + 1 := ⟨n - 1, by omega⟩
  have hN : (m.map (·.1)).Nodup := by
    have := h.keys.1
    unfold List.Nodup
    rw [List.pairwise_map]
    exact this
  have h2 := nodup_le (K := (List.range 6).flatMap fun k => (ybG (n + 1) k).map keyF) hN fun x hx => by
    obtain ⟨p, hp, rfl⟩ := List.mem_map.1 hx
    obtain ⟨r, e, hr, h5, -⟩ := h.vals p hp
    obtain ⟨k, hk⟩ : ∃ k : Nat, dg r = (k : Int) := ⟨(dg r).toNat, by have := hr.nonneg; omega⟩
    rw [hk] at hr
    rw [List.mem_flatMap]
    exact ⟨k, List.mem_range.2 (by omega), List.mem_map.2 ⟨r, yhT hr, e.symm⟩⟩
  have h3 := flat_le (f := fun k => (ybG (n + 1) k).map keyF) (B := 1296) (l := List.range 6) fun k hk => by
    rw [List.length_map]
    have h1 := yei n k
    have h2 : (k + 1) ^ n ≤ 6 ^ n := Nat.pow_le_pow_left (by have := List.mem_range.1 hk; omega) n
    have h3 : 6 ^ n ≤ 6 ^ 4 := Nat.pow_le_pow_right (by omega) (by omega)
    omega
  simp only [List.length_map, List.length_range] at h2 h3
  omega
structure GOk (n : Nat) (es : List E3) : Prop where
  g : yat n es = 0
  c : ycJ n es = true
  el : es.length ≤ 40
  n1 : 1 ≤ n
  n5 : n ≤ 5
  su : (es.map (·.2.2)).sum ≤ 9
section
variable {n : Nat} {es : List E3}
theorem GOk.E (G : GOk n es) : EOk n es := (yba G.g).1
theorem GOk.C (G : GOk n es) : ∀ q, q < n → Conn n es q := conn_all G.g G.c
theorem GOk.tot (G : GOk n es) : tot n es ≤ 18 := tot_few G.E G.n1 (by have := G.n5; omega) G.su
theorem GOk.giv (G : GOk n es) {d : List Int} (hd : d.length = n) (hb : ∀ v, v < n → -1000000 ≤ gi d v ∧ gi d v ≤ 1000000) : yaH n es 0 d = 0 := by
  have := G.n1
  have := G.n5
  unfold yaH; rw [if_pos G.g, if_pos G.c, if_pos ⟨by omega, by omega⟩]
  exact yfP hd (by omega) (by omega) fun v hv => by have := hb v hv; omega
theorem GOk.small (G : GOk n es) {d : List Int} (hb : ∀ v, v < n → -200 ≤ gi d v ∧ gi d v ≤ 200) : Small (n : Int) es d :=
  ⟨G.el, fun _ => ⟨by have := G.n5; omega, G.su⟩, fun _ v hv => hb v (by omega)⟩
theorem set_back {r : List Int} {k : Nat} (hk : k < r.length) : (r.set k (gi r k - 1)).set k (gi (r.set k (gi r k - 1)) k + 1) = r := by
  refine yeT (by simp) fun i hi => ?_
  rw [ybi (by simpa using hk), ybi hk, ybi hk]
  split
  · rename_i e; subst e; simp
  · rfl
theorem RkOk.few (hn : 1 ≤ n) {d : List Int} (hd : d.length = n) {k : Int} (h : RkOk n es d k) : -1 ≤ k ∧ (k = -1 ∨ k ≤ dg d) := by
  refine ⟨h.lo, ?_⟩
  by_cases hw : Win n es d
  · exact .inr (h.top hn hd hw)
  · exact .inl (h.eq hn (rk_lose hw))
theorem fr_find {Rec : Int → List (Int × Int × Int) → Int → List (List Int × Int) → List Int → (Int → Int → List (List Int × Int) → Prop) → Prop} (G : GOk n es) {d : List Int} {m : List (List Int × Int)} {R : Int → Int → List (List Int × Int) → Prop}
    (hd : d.length = n) (hb : ∀ v, v < n → -200 ≤ gi d v ∧ gi d v ≤ 200) (h5 : dg d ≤ 5) (hm : MOk n es m)
    (hrec : ∀ (d' : List Int) (m' : List (List Int × Int)) (R' : Int → Int → List (List Int × Int) → Prop), d'.length = n → (∀ v, v < n → -200 ≤ gi d' v ∧ gi d' v ≤ 200) → dg d' = dg d - 1 → 0 ≤ dg d → MOk n es m' → (∀ k m'', RkOk n es d' k → MOk n es m'' → R' k 0 m'') → Rec n es (ycE es + 1 - n) m' d' R')
    (h : ∀ k m', RkOk n es d k → MOk n es m' → R k 0 m') : yaW Rec n es (ycE es + 1 - n) m d R := by
  have hn1 := G.n1
  have hn5 := G.n5
  have hpm : 0 ≤ 2 * ycE es ∧ 2 * ycE es ≤ 18 := by
    have h1 := ygF G.E
    have h2 := G.tot
    have h3 : 0 ≤ tot n es := yaX fun v _ => yaX fun u _ => ya4 G.E v u
    omega
  have hdb : -1000 ≤ dg d ∧ dg d ≤ 5 := by
    have := yc0 (f := gi d) (B := 200) (by omega) (n := n) (fun i hi => by have := hb i hi; omega)
    rw [dg_n hd] at h5 ⊢
    omega
  unfold yaW
  refine ygc ⟨hn1, by omega⟩ hd (fun j hj => by have := hb j hj; omega) ⟨fun _ => ⟨fun hneg => h _ _ (rk_lose fun q => by have := win_dg hd q; omega) hm, fun hnn => ⟨i64 (by omega), i64 (by omega), fun hbig => ⟨i64 (by omega), h _ _ (rk_big G.g G.C hn1 (by omega) hd hb (by omega) G.tot (by omega)) hm⟩, fun hsm => ?_⟩⟩, fun q => absurd rfl q⟩
  refine ycI (.inl (G.small hb)) (by omega) (fun q => absurd (G.giv hd fun v hv => by have := hb v hv; omega) q) fun _ r s hr b hbw => ⟨fun _ => ⟨fun hbt => ?_, fun hbf => h _ _ (rk_lose fun q => hbf (hbw.2 (by simpa using q))) hm⟩, fun q => absurd rfl q⟩
  simp only [Int.toNat_natCast] at hr hbw
  have hw := hbw.1 hbt
  have hrl : r.length = n := hr.dl
  have hrq : 0 ≤ gi r 0 := (yj7 G.E (by omega) hr.red hr.lp).1 hw
  have hrd : dg r = dg d := dg_lp hrl hd hr.lp
  have heff : Eff n r (dg r) := ⟨hrl, fun v hv => by
    by_cases e : v = 0
    · subst e; exact hrq
    · exact hr.pos v hv e, rfl⟩
  have hrw : Win n es r := (win_eqv hr.lp).1 hw
  have hre : ∀ v, v < n → 0 ≤ gi r v ∧ gi r v ≤ 5 := fun v hv => by have := heff.pos v hv; have := heff.le hv; omega
  have back : ∀ {k : Int}, RkOk n es r k → RkOk n es d k := fun q => (rk_eqv hr.lp).2 q
  refine ⟨by omega, hm.keys, keyF_ok heff (by omega), fun hsome => ?_, fun hnone => ⟨fun hfull => absurd hfull (by have := hm.len hn1 hn5; omega), fun _ => ?_⟩⟩
  · obtain ⟨v, hv⟩ := Option.isSome_iff_exists.1 hsome
    rw [hv]
    exact h _ _ (back (hm.get (by omega) hrl hv)) hm
  refine ⟨fun c least i m' r' => Cnt n (fun k => MOk n es m' ∧ r' = r ∧ ∃ κ : Nat → Int, (∀ u, u < k → RkOk n es (yeX r u (-1)) (κ u)) ∧ (∀ u, u < k → least ≤ κ u + 1) ∧ (least = dg d ∨ ∃ u, u < k ∧ least = κ u + 1)) c i,
    Cnt.start ⟨hm, rfl, fun _ => 0, fun u hu => absurd hu (by omega), fun u hu => absurd hu (by omega), .inl rfl⟩, ?_⟩
  rintro c least _ m' r' ⟨k, rfl, rfl, hk, hm', rfl, κ, hκ, hle, hat⟩
  simp only [Int.toNat_natCast]
  have hal : ∀ u, (yeX r' u (-1)).length = n := fun u => by rw [yep, hrl]
  have hadg : ∀ u, u < n → dg (yeX r' u (-1)) = dg d - 1 := fun u hu => by rw [dg_addAt (by omega), hrd]; omega
  have hse : ∀ {x : Int}, dg d = x → 0 ≤ x := fun e => by have := heff.nonneg; omega
  refine ⟨fun hlt => ⟨by omega, i64 (by have := hre k (by omega); omega), ?_⟩, fun hge => ⟨hm'.keys, ?_⟩⟩
  · refine hrec (yeX r' k (-1)) m' _ (hal k) (fun v hv => ?_) (hadg k (by omega)) (hse rfl) hm' fun j m'' hj hm'' => ?_
    · rw [ydL (by omega)]
      have := hre v hv
      have := hre k (by omega)
      split <;> omega
    · have hj2 := hj.few hn1 (hal k)
      rw [hadg k (by omega)] at hj2
      have hgk := hre k (by omega)
      refine ⟨by rw [List.length_set]; omega, ?_, fun _ => ⟨i64 (by omega), ?_⟩, fun q => absurd rfl q⟩
      · rw [ybi (by omega), if_pos rfl]
        exact i64 (by omega)
      · refine Cnt.next (by omega) (by omega) ⟨hm'', set_back (by omega), fun u => if u = k then j else κ u, fun u hu => ?_, fun u hu => ?_, ?_⟩
        · show RkOk n es (yeX r' u (-1)) (if u = k then j else κ u)
          by_cases e : u = k
          · subst e; rw [if_pos rfl]; exact hj
          · rw [if_neg e]; exact hκ u (by omega)
        · show mnF least (j + 1) ≤ (if u = k then j else κ u) + 1
          rw [mnF_eq]
          by_cases e : u = k
          · rw [if_pos e]; omega
          · rw [if_neg e]; have := hle u (by omega); omega
        · rw [mnF_eq]
          rcases Int.le_total least (j + 1) with q | q
          · rw [Int.min_eq_left q]
            rcases hat with a | ⟨u, hu, a⟩
            · exact .inl a
            · refine .inr ⟨u, by omega, ?_⟩
              show least = (if u = k then j else κ u) + 1
              rw [if_neg (by omega)]; exact a
          · rw [Int.min_eq_right q]
            refine .inr ⟨k, by omega, ?_⟩
            show j + 1 = (if k = k then j else κ k) + 1
            rw [if_pos rfl]
  · have e : k = n := by omega
    subst e
    have hk0 := hκ 0 (by omega)
    have hst : RkOk k es r' least := rk_step hn1 hrl hrw hκ hle (by
      rcases hat with a | a
      · refine ⟨0, by omega, ?_⟩
        have h1 := hle 0 (by omega)
        have h2 := hk0.few hn1 (hal 0)
        rw [hadg 0 (by omega)] at h2
        have h3 := heff.nonneg
        omega
      · exact a)
    exact h _ _ (back hst) (hm'.put heff (by omega) hst)
theorem p_find2 (G : GOk n es) : ∀ (fu : Nat) {d : List Int} {m : List (List Int × Int)} {R : Int → Int → List (List Int × Int) → Prop}, dg d + 1 < fu → -1 ≤ dg d → d.length = n → (∀ v, v < n → -200 ≤ gi d v ∧ gi d v ≤ 200) → dg d ≤ 5 → MOk n es m →
    (∀ k m', RkOk n es d k → MOk n es m' → R k 0 m') → ya6 fu n es (ycE es + 1 - n) m d R
  | 0, _, _, _, hf, h1, _, _, _, _, _ => by omega
  | fu + 1, d, m, R, hf, h1, hd, hb, h5, hm, h => by
    show yaW (ya6 fu) n es (ycE es + 1 - n) m d R
    exact fr_find G hd hb h5 hm (fun d' m' R' hd' hb' hdg h0 hm' h' => p_find2 G fu (by omega) (by omega) hd' hb' (by omega) hm' h') h
theorem p_find (G : GOk n es) {d : List Int} {m : List (List Int × Int)} {R : Int → Int → List (List Int × Int) → Prop} (hd : d.length = n) (hb : ∀ v, v < n → -200 ≤ gi d v ∧ gi d v ≤ 200) (h5 : dg d ≤ 5) (hm : MOk n es m)
    (h : ∀ k m', RkOk n es d k → MOk n es m' → R k 0 m') : ∃ fu, yb8 fu n es (ycE es + 1 - n) m d R := by
  refine ⟨1, ?_⟩
  show yaW (fun a b c e f R' => ∃ fu, ya6 fu a b c e f R') n es (ycE es + 1 - n) m d R
  exact fr_find G hd hb h5 hm (fun d' m' R' hd' hb' hdg h0 hm' h' => ⟨8, p_find2 G 8 (by omega) (by omega) hd' hb' (by omega) hm' h'⟩) h
end
end Go.Proofs.YtmeoemmemjipdaaGreat

/- What graph.Loopless and graph.Genus come to. -/
namespace Go.Proofs.YtmeoemmemjipdaaGreat
open Go Go.Proofs.Tryz
set_option linter.unusedVariables false
set_option linter.unusedSimpArgs false
def yeL (es : List E3) : List E3 := es.filter fun x => decide (x.1 ≠ x.2.1)
theorem yiy {es : List E3} {k : Nat} (hk : k < es.length) : yeL (es.take (k + 1)) = yeL (es.take k) ++ if (ge es k).1 = (ge es k).2.1 then [] else [ge es k] := by
  have e : es.take (k + 1) = es.take k ++ [ge es k] := by rw [List.take_add_one, List.getElem?_eq_getElem hk, ydR hk]; rfl
  unfold yeL
  rw [e, List.filter_append]
  congr 1
  by_cases q : (ge es k).1 = (ge es k).2.1
  · rw [if_pos q]; simp [q]
  · rw [if_neg q]; simp [q]
theorem yjV : ∀ (es : List E3) (v u : Nat), W (yeL es) v u = W es v u
  | [], v, u => rfl
  | x :: es, v, u => by
    unfold yeL
    rw [List.filter_cons, yeR]
    by_cases q : x.1 = x.2.1
    · have : w1 x v u = 0 := by unfold w1; rw [if_neg (fun h => h.1 q)]
      rw [if_neg (by simpa using q), this]
      have := yjV es v u
      unfold yeL at this
      rw [this]; omega
    · rw [if_pos (by simpa using q), yeR]
      have := yjV es v u
      unfold yeL at this
      rw [this]
theorem pcmp_le {a b c d : Int} : yft a b c d ≤ 0 ↔ a < c ∨ (a = c ∧ b ≤ d) := by
  unfold yft orF cmpF
  (repeat' split) <;> omega
theorem pcmp_trans {a b c d e f : Int} (h1 : yft a b c d ≤ 0) (h2 : yft c d e f < 0) : yft a b e f < 0 := by
  have h1 := pcmp_le.1 h1
  have h2 := (yiv _ _ _ _).1 h2
  exact (yiv _ _ _ _).2 (by omega)
theorem ygn {n : Int} {p : E3 → Bool} : ∀ (es : List E3) (a b a' b' : Int), yft a' b' a b ≤ 0 → gchk n a b es = 0 → gchk n a' b' (es.filter p) = 0
  | [], a, b, a', b', _, _ => rfl
  | x :: t, a, b, a', b', h, hg => by
    unfold gchk at hg
    by_cases c1 : (0 ≤ x.1 ∧ x.1 < n) ∧ (0 ≤ x.2.1 ∧ x.2.1 < n) ∧ 1 ≤ x.2.2 ∧ x.2.2 ≤ 50
    · rw [if_pos c1] at hg
      by_cases c2 : x.1 ≤ x.2.1 ∧ yft a b x.1 x.2.1 < 0
      · rw [if_pos c2] at hg
        have h3 := pcmp_trans h c2.2
        rw [List.filter_cons]
        split
        · unfold gchk
          rw [if_pos c1, if_pos ⟨c2.1, h3⟩]
          exact ygn t _ _ _ _ (pcmp_le.2 (by omega)) hg
        · exact ygn t _ _ _ _ (by omega) hg
      · rw [if_neg c2] at hg; omega
    · rw [if_neg c1] at hg; omega
theorem yjT {n : Int} {es : List E3} (h : yat n es = 0) : yat n (yeL es) = 0 := by
  unfold yat at h ⊢
  split
  · rename_i c
    rw [if_pos c] at h
    exact ygn es _ _ _ _ (by decide) h
  · rename_i c; rw [if_neg c] at h; exact h
theorem yhC {n : Nat} {es : List E3} {R : Int → List E3 → Int → Prop} (hl : es.length ≤ 1000) (hg : yat n es = 0) (h : R n (yeL es) 0) : ybZ n es R := by
  unfold ybZ ycN
  refine ygw (by omega) ⟨fun _ => ?_, fun q => absurd hg q⟩
  refine ⟨fun m v out => Cnt es.length (fun k => out = yeL (es.take k) ∧ out.length ≤ k) m v, Cnt.start ⟨rfl, Nat.le_refl _⟩, ?_⟩
  rintro m _ out ⟨k, rfl, rfl, hk, hout, hol⟩
  simp only [Int.toNat_natCast]
  refine ⟨fun hlt => ⟨by omega, fun q => Cnt.next (by omega) (by omega) ⟨?_, by omega⟩, fun q => ⟨by omega, Cnt.next (by omega) (by omega) ⟨?_, by simpa using hol⟩⟩⟩, fun hge => ?_⟩
  · rw [yiy (by omega), if_pos q, List.append_nil]; exact hout
  · rw [yiy (by omega), if_neg q, hout]
    have hx := (yba hg).1 _ (List.mem_of_getElem? (ydj (show k < es.length by omega)))
    have e : mnF (ge es k).2.2 50 = (ge es k).2.2 := by rw [mnF_eq]; omega
    rw [e]
  · have e : k = es.length := by omega
    rw [e, List.take_length] at hout
    rw [hout]; exact h
def sF : List E3 → List E3
  | [] => []
  | x :: t => List.replicate x.2.2.toNat (x.1, x.2.1, 1) ++ sF t
theorem yiw : ∀ (a b : List E3), sF (a ++ b) = sF a ++ sF b
  | [], b => rfl
  | x :: t, b => by rw [List.cons_append, sF, sF, yiw t b, List.append_assoc]
theorem sF_take {es : List E3} {k : Nat} (hk : k < es.length) : sF (es.take (k + 1)) = sF (es.take k) ++ List.replicate (ge es k).2.2.toNat ((ge es k).1, (ge es k).2.1, 1) := by
  rw [List.take_add_one, List.getElem?_eq_getElem hk, ← ydR hk, yiw]
  simp [sF]
theorem sF_pre {es : List E3} {k : Nat} (hk : k < es.length) {j : Nat} (hj : j ≤ (ge es k).2.2.toNat) : sF (es.take k) ++ List.replicate j ((ge es k).1, (ge es k).2.1, 1) <+: sF es := by
  have h1 : es = es.take (k + 1) ++ es.drop (k + 1) := (List.take_append_drop _ _).symm
  have h2 : sF es = sF (es.take k) ++ List.replicate (ge es k).2.2.toNat ((ge es k).1, (ge es k).2.1, 1) ++ sF (es.drop (k + 1)) := by
    conv => lhs; rw [h1]
    rw [yiw, sF_take hk]
  obtain ⟨i, hi⟩ : ∃ i, (ge es k).2.2.toNat = j + i := ⟨(ge es k).2.2.toNat - j, by omega⟩
  rw [h2, hi, ← List.replicate_append_replicate]
  exact ⟨List.replicate i ((ge es k).1, (ge es k).2.1, 1) ++ sF (es.drop (k + 1)), by simp only [List.append_assoc]⟩
theorem sF_ok {n : Nat} : ∀ {es : List E3}, EOk n es → EOk n (sF es)
  | [], _ => fun x hx => by simp [sF] at hx
  | y :: t, h => fun x hx => by
    rw [sF, List.mem_append] at hx
    rcases hx with q | q
    · have := h y (by simp)
      have e := (List.mem_replicate.1 q).2
      subst e
      simp only
      omega
    · exact sF_ok (fun z hz => h z (by simp [hz])) x q
theorem W_rep (a b : Int) (l : List E3) (v u : Nat) : ∀ k : Nat, W (List.replicate k (a, b, 1) ++ l) v u = (k : Int) * w1 (a, b, 1) v u + W l v u
  | 0 => by simp
  | k + 1 => by
    rw [List.replicate_succ, List.cons_append, yeR, W_rep a b l v u k, Int.natCast_add, Int.add_mul]
    omega
theorem W_sF {n : Nat} (v u : Nat) : ∀ {es : List E3}, EOk n es → W (sF es) v u = W es v u
  | [], _ => rfl
  | x :: t, h => by
    have hx := h x (by simp)
    rw [sF, W_rep, yeR, W_sF v u (fun z hz => h z (by simp [hz]))]
    have : ((x.2.2.toNat : Nat) : Int) * w1 (x.1, x.2.1, 1) v u = w1 x v u := by
      unfold w1
      simp only
      split
      · omega
      · omega
    omega
theorem sF_len {n : Nat} : ∀ {es : List E3}, EOk n es → ((sF es).length : Int) = (es.map (·.2.2)).sum
  | [], _ => rfl
  | x :: t, h => by
    have hx := h x (by simp)
    have := sF_len (es := t) fun z hz => h z (by simp [hz])
    rw [sF, List.length_append, List.length_replicate, List.map_cons, List.sum_cons, ← this]
    omega
theorem yjR : ∀ (es : List E3), ((yeL es).map (·.2.2)).sum = ycE es
  | [] => rfl
  | x :: t => by
    have ih := yjR t
    unfold yeL ycE at *
    rw [List.filter_cons, List.map_cons, List.sum_cons]
    by_cases q : x.1 = x.2.1
    · rw [if_neg (by simpa using q), if_pos q, ih]; omega
    · rw [if_pos (by simpa using q), if_neg q, List.map_cons, List.sum_cons, ih]
theorem sF_few {n : Nat} : ∀ {es : List E3}, EOk n es → (sF es).length ≤ 50 * es.length
  | [], _ => Nat.le_refl _
  | x :: t, h => by
    have hx := h x (by simp)
    have := sF_few (es := t) fun z hz => h z (by simp [hz])
    rw [sF, List.length_append, List.length_replicate, List.length_cons]
    omega
def gmap (y : Int × Int × Int) : E3 := (y.2.1, y.2.2, 1)
theorem yg5 {n : Nat} {es : List E3} (hE : EOk n es) (hl : es.length ≤ 1000) : ybN (n : Int) es (fun l => l.map gmap <+: sF es) (fun l => l.map gmap = sF es) := by
  unfold ybN
  refine ⟨fun m pre e2 v => Cnt es.length (fun k => pre.map gmap = sF (es.take k) ∧ 0 ≤ e2 ∧ e2 ≤ 50 * k) m v, Cnt.start ⟨rfl, by omega, by omega⟩, ?_⟩
  rintro m pre e2 _ ⟨k, rfl, rfl, hk, hpre, he0, he1⟩
  simp only [Int.toNat_natCast]
  refine ⟨fun hlt => ⟨by omega, ?_⟩, fun hge => ?_⟩
  · have hkl : k < es.length := by omega
    have hx := hE _ (List.mem_of_getElem? (ydj hkl))
    refine ⟨fun m pre e3 v => Cnt (ge es k).2.2.toNat (fun j => pre.map gmap = sF (es.take k) ++ List.replicate j ((ge es k).1, (ge es k).2.1, 1) ∧ 0 ≤ e3 ∧ e3 ≤ 50 * k + j) m v, Cnt.start ⟨by simpa using hpre, he0, by omega⟩, ?_⟩
    rintro m3 pre3 e3 _ ⟨j, rfl, rfl, hj, hp3, h30, h31⟩
    have hstep : ∀ e : Int, (pre3 ++ [(e, (ge es k).1, (ge es k).2.1)]).map gmap = sF (es.take k) ++ List.replicate (j + 1) ((ge es k).1, (ge es k).2.1, 1) := fun e => by
      rw [List.map_append, hp3, List.replicate_succ', List.append_assoc]; rfl
    refine ⟨fun h1 => ⟨?_, ⟨i64 (by omega), Cnt.next (by omega) (by omega) ⟨hstep e3, by omega, by omega⟩⟩, trivial⟩, fun h1 => Cnt.next (by omega) (by omega) ⟨?_, by omega, by omega⟩⟩
    · show (pre3 ++ [(e3, (ge es k).1, (ge es k).2.1)]).map gmap <+: sF es
      rw [hstep]; exact sF_pre hkl (by omega)
    · have e : j = (ge es k).2.2.toNat := by omega
      rw [sF_take hkl, hp3, e]
  · have e : k = es.length := by omega
    rw [e, List.take_length] at hpre
    exact hpre
def castF (F : List Nat) : List Int := F.map fun v : Nat => (v : Int)
theorem gi_castF {F : List Nat} {v : Nat} (hv : v < F.length) : gi (castF F) v = (gn F v : Int) := by
  unfold castF
  rw [ybb (by simpa using hv), yfY hv]; simp
theorem ygR {F : List Nat} (hF : ycD F) {v : Nat} (hv : v < 12) {R : Int → Prop} (h : R (root F v)) : ybh (castF F) (v : Int) R := by
  unfold ybh
  refine ⟨fun m x => ∃ u : Nat, x = u ∧ m = u ∧ u < 12 ∧ root F u = root F v, ⟨v, v, rfl, rfl, hv, rfl⟩, ?_⟩
  rintro m _ ⟨u, rfl, hm, hu, hr⟩
  have hg : gi (castF F) u = (gn F u : Int) := gi_castF (by rw [hF.1]; exact hu)
  have hle := hF.2 u hu
  simp only [Int.toNat_natCast, hg]
  refine ⟨by omega, fun e => ?_, fun e => ⟨gn F u, by omega, gn F u, rfl, rfl, by omega, ?_⟩⟩
  · rw [ycn (F := F) (v := u) (by omega)] at hr
    rw [hr]; exact h
  · rw [← yeO hF hu (by omega)]; exact hr
theorem yh2 {F : List Nat} (hF : ycD F) {a b : Nat} (ha : a < 12) (hb : b < 12) (hne : root F a ≠ root F b) : ∀ k, k ≤ 12 → yaE (ycp F a b) k + (if max (root F a) (root F b) < k then 1 else 0) = yaE F k
  | 0, _ => by simp [yaE]
  | k + 1, hk => by
    have ih := yh2 hF ha hb hne k (by omega)
    have hj := yfZ hF ha hb k (by omega)
    have ra := yfA hF ha
    have rb := yfA hF hb
    rw [yaE, yaE]
    have hM : root F (max (root F a) (root F b)) = max (root F a) (root F b) := by
      rcases Nat.le_total (root F a) (root F b) with q | q
      · rw [Nat.max_eq_right q]; exact rb
      · rw [Nat.max_eq_left q]; exact ra
    have hm : root F (min (root F a) (root F b)) = min (root F a) (root F b) := by
      rcases Nat.le_total (root F a) (root F b) with q | q
      · rw [Nat.min_eq_left q]; exact ra
      · rw [Nat.min_eq_right q]; exact rb
    by_cases e1 : k = max (root F a) (root F b)
    · have h1 : root F k = k := by rw [e1]; exact hM
      rw [if_pos (h1.trans e1)] at hj
      rw [if_neg (by omega : ¬ root (ycp F a b) k = k), if_pos h1, if_pos (by omega)]
      rw [if_neg (by omega)] at ih
      omega
    · have h2 : root (ycp F a b) k = k ↔ root F k = k := by
        rw [hj]
        split
        · rename_i e2
          constructor
          · intro e3; rw [← e3] at e2; rw [hm] at e2; omega
          · intro e3; omega
        · exact Iff.rfl
      by_cases e3 : root F k = k
      · rw [if_pos (h2.2 e3), if_pos e3]
        by_cases e4 : max (root F a) (root F b) < k
        · rw [if_pos e4] at ih; rw [if_pos (by omega)]; omega
        · rw [if_neg e4] at ih; rw [if_neg (by omega)]; omega
      · rw [if_neg (fun q => e3 (h2.1 q)), if_neg e3]
        by_cases e4 : max (root F a) (root F b) < k
        · rw [if_pos e4] at ih; rw [if_pos (by omega)]; omega
        · rw [if_neg e4] at ih; rw [if_neg (by omega)]; omega
theorem yik {F : List Nat} (hF : ycD F) {a b : Nat} (ha : a < 12) (hb : b < 12) (he : root F a = root F b) : ∀ k, k ≤ 12 → yaE (ycp F a b) k = yaE F k
  | 0, _ => rfl
  | k + 1, hk => by
    have ih := yik hF ha hb he k (by omega)
    have hj := yfZ hF ha hb k (by omega)
    rw [yaE, yaE, ih, hj, he]
    simp only [Nat.max_self, Nat.min_self]
    congr 2
    split
    · rename_i e; rw [e]
    · rfl
theorem yho : ∀ k, k ≤ 12 → yaE yda k = k
  | 0, _ => rfl
  | k + 1, hk => by
    rw [yaE, yho k (by omega), if_pos]
    exact ycn (by rw [yfY (by simpa [yda] using (by omega : k < 12))]; simp [yda])
theorem joinedF_snoc (l : List E3) (x : E3) : yax (l ++ [x]) = ycp (yax l) x.1.toNat x.2.1.toNat := by
  unfold yax; rw [List.foldl_append]; rfl
theorem castF_join {F : List Nat} {a b : Nat} : (castF F).set (mxF (root F a) (root F b)).toNat (mnF (root F a) (root F b)) = castF (ycp F a b) := by
  unfold castF ycp
  rw [List.map_set, mxF_eq, mnF_eq]
  congr 1
  · omega
  · omega
theorem yjG {n : Nat} {es : List E3} {R : Int → Int → Prop} (hl : es.length ≤ 1000) (hg : yat n es = 0) (hc : ∀ q, q < n → Conn n es q) (h : R ((es.map (·.2.2)).sum + 1 - n) 0) : ycK n es R := by
  obtain ⟨hE, hn1, hn12⟩ := yba hg
  unfold ycK
  refine ygw (by omega) ⟨fun _ => ?_, fun q => absurd hg q⟩
  refine ⟨fun m v f => Cnt 12 (fun k => f.length = 12 ∧ ∀ i, i < k → gi f i = (i : Int)) m v, Cnt.start ⟨by simp, fun i hi => absurd hi (by omega)⟩, ?_⟩
  rintro m _ f ⟨k, rfl, rfl, hk, hfl, hf⟩
  simp only [Int.toNat_natCast]
  refine ⟨fun hlt => ⟨by omega, Cnt.next (by omega) (by omega) ⟨by simpa using hfl, fun i hi => ?_⟩⟩, fun hge => ?_⟩
  · rw [ybi (by omega)]
    split
    · omega
    · exact hf i (by omega)
  have e12 : k = 12 := by omega
  subst e12
  have hf0 : f = castF yda := yeT (by rw [hfl]; rfl) fun i hi => by
    rw [hf i (by omega), gi_castF (by show i < (List.range 12).length; simpa using (by omega : i < 12)), yfY (by simpa [yda] using (by omega : i < 12))]
    simp [yda]
  show ∃ Pr Rr : List (Int × Int × Int) → Prop, _
  refine ⟨_, _, yg5 hE hl, fun pre f2 genus => pre.map gmap <+: sF es ∧ f2 = castF (yax (pre.map gmap)) ∧ genus + n - (yaE (yax (pre.map gmap)) n : Int) = pre.length ∧ 0 ≤ genus ∧ genus ≤ pre.length, ⟨List.nil_prefix, hf0, ?_, by omega, by simp⟩, ?_, ?_⟩
  · show (0 : Int) + n - (yaE yda n : Int) = 0
    rw [yho n hn12]; omega
  · rintro pre e a b f2 genus ⟨hp, rfl, hcount, h0, h1⟩ hPr
    have hPr : (pre ++ [(e, a, b)]).map gmap <+: sF es := hPr
    have hE2 := sF_ok hE
    have hmem : (a, b, 1) ∈ sF es := hPr.subset (by simp [gmap])
    have hx := hE2 _ hmem
    simp only at hx
    obtain ⟨a, rfl⟩ : ∃ k : Nat, a = (k : Int) := ⟨a.toNat, by omega⟩
    obtain ⟨b, rfl⟩ : ∃ k : Nat, b = (k : Int) := ⟨b.toNat, by omega⟩
    have hF : ycD (yax (pre.map gmap)) := ybT _ fun x hx => by
      have := hE2 x (hp.subset hx)
      omega
    have hplen : pre.length ≤ 50 * es.length := by
      have h2 := hp.length_le
      have h3 := sF_few hE
      rw [List.length_map] at h2
      omega
    have hsn : (pre ++ [(e, (a : Int), (b : Int))]).map gmap = pre.map gmap ++ [((a : Int), (b : Int), 1)] := by rw [List.map_append]; rfl
    have hjs : yax ((pre ++ [(e, (a : Int), (b : Int))]).map gmap) = ycp (yax (pre.map gmap)) a b := by rw [hsn, joinedF_snoc]; simp
    have ra := ydg hF a (by omega)
    have rb := ydg hF b (by omega)
    have hrl : ∀ v, v < n → root (yax (pre.map gmap)) v < n := fun v hv => by have := (ydg hF v (by omega)).1; omega
    have hra := hrl a (by omega)
    have hrb := hrl b (by omega)
    refine ygR hF (by omega) (ygR hF (by omega) ?_)
    have hmx : 0 ≤ mxF (root (yax (pre.map gmap)) a : Int) (root (yax (pre.map gmap)) b) ∧ mxF (root (yax (pre.map gmap)) a : Int) (root (yax (pre.map gmap)) b) < 12 := by rw [mxF_eq]; omega
    refine ⟨fun g2 => g2 = genus + if root (yax (pre.map gmap)) a = root (yax (pre.map gmap)) b then 1 else 0, fun g2 hg2 => ⟨hmx, hPr, by rw [hjs]; exact castF_join, ?_, ?_, ?_⟩, fun q => ⟨i64 (by omega), by rw [if_pos (by omega)]⟩, fun q => by rw [if_neg (by omega)]; omega⟩
    · rw [hjs, hg2, List.length_append, List.length_singleton]
      by_cases q : root (yax (pre.map gmap)) a = root (yax (pre.map gmap)) b
      · rw [if_pos q, yik hF (by omega) (by omega) q n hn12]; omega
      · have := yh2 hF (by omega) (by omega) q n hn12
        rw [if_pos (by omega)] at this
        rw [if_neg q]; omega
    · rw [hg2]; split <;> omega
    · rw [hg2, List.length_append, List.length_singleton]; split <;> omega
  · rintro ys f2 genus ⟨hp, rfl, hcount, h0, h1⟩ hR
    have hR : ys.map gmap = sF es := hR
    have hE2 := sF_ok hE
    have hc2 : ycJ n (sF es) = true := (ygK hE2 hn1 hn12 (q := 0) (by omega)).2 fun S h0 h1 => by
      obtain ⟨v, u, a, b, c, d, e⟩ := hc 0 (by omega) S h0 h1
      exact ⟨v, u, a, b, c, d, by rw [W_sF v u hE]; exact e⟩
    unfold ycJ at hc2
    rw [beq_iff_eq, Int.toNat_natCast] at hc2
    rw [hR, hc2] at hcount
    have hlen := sF_len hE
    rw [← hR, List.length_map] at hlen
    have e : genus = (es.map (·.2.2)).sum + 1 - n := by omega
    rw [e]; exact h
theorem p_rank_of {n : Nat} {es : List E3} {R0 : Int → Prop} {R1 : Int → List E3 → Int → List (List Int × Int) → Int → Prop} (G : GOk n es) (h : R1 n es (ycE es + 1 - n) [] 0) : yeP n es R0 R1 := by
  have := G.el
  unfold yeP
  refine yhC (by omega) G.g ⟨fun _ => ?_, fun q => absurd rfl q⟩
  refine yjG (by have := List.length_filter_le (fun x : E3 => decide (x.1 ≠ x.2.1)) es; unfold yeL; omega) (yjT G.g) (fun q hq S h0 h1 => ?_) (by rw [yjR]; exact h)
  obtain ⟨v, u, a, b, c, d, e⟩ := G.C q hq S h0 h1
  exact ⟨v, u, a, b, c, d, by rw [yjV]; exact e⟩
theorem ygh {n : Int} {es : List E3} {d : List Int} {R : Int → Int → Prop} (hl : es.length ≤ 1000) (h0 : yaH n es 0 d ≠ 0 → R 0 (yaH n es 0 d)) (h1 : yaH n es 0 d = 0 → GOk n.toNat es ∧ (∀ v, v < n.toNat → -200 ≤ gi d v ∧ gi d v ≤ 200) ∧ dg d ≤ 5 ∧ ∀ k, RkOk n.toNat es d k → R k 0) : ya5 n es d R := by
  unfold ya5
  refine yfz hl (by simp) ?_
  rw [yjX]
  refine ⟨fun hg => ?_, fun hg => h0 hg⟩
  obtain ⟨n, rfl⟩ : ∃ n' : Nat, n = (n' : Int) := ⟨n.toNat, by have := yb0 hg; omega⟩
  obtain ⟨G, hb, h5, hk⟩ := h1 hg
  simp only [Int.toNat_natCast] at G hb h5 hk
  have hd := (ydV (q := 0) hg).2.2.2.2.2.2.1
  exact p_rank_of G ⟨fun _ => p_find G hd hb h5 (MOk.nil n es) fun k m' hk' _ => hk k hk', fun q => absurd rfl q⟩
end Go.Proofs.YtmeoemmemjipdaaGreat

/- What chips.Next, rank.taken, rank.Witness and rank.AtLeast come to. -/
namespace Go.Proofs.YtmeoemmemjipdaaGreat
open Go Go.Proofs.Tryz
set_option linter.unusedVariables false
set_option linter.unusedSimpArgs false
theorem drop_zero {d : List Int} {k : Nat} (h : ∀ i, k ≤ i → i < d.length → gi d i = 0) : (d.drop k).sum = 0 := by
  rw [sum_dg]
  unfold dg
  rw [yap (g := fun _ => 0) fun i hi => ?_]
  · exact ybr _
  · rw [gi_drop]
    rw [List.length_drop] at hi
    exact h _ (by omega) (by omega)
theorem drop_one {d : List Int} {k : Nat} (hk : k < d.length) (h : ∀ i, k < i → i < d.length → gi d i = 0) : (d.drop k).sum = gi d k := by
  rw [List.drop_eq_getElem_cons hk, List.sum_cons, drop_zero (k := k + 1) fun i h1 h2 => h i (by omega) h2, ybb hk]
  omega
theorem p_chips_step {d : List Int} {R : Bool → List Int → Prop} (hl : d.length ≤ 1000) (h0 : 1 ≤ d.length) (hb : ∀ j, j < d.length → -1000000 ≤ gi d j ∧ gi d j ≤ 1000000) (h1 : ∀ y, yeC d = some y → R true y) (h2 : yeC d = none → R false d) : yc9 d R := by
  unfold yc9
  refine ⟨i64 (by omega), fun m j => ∃ k : Nat, j = (k : Int) ∧ m = k ∧ k < d.length ∧ ∀ i, k < i → i < d.length → gi d i = 0, ⟨d.length - 1, d.length - 1, by omega, rfl, by omega, fun i a b => by omega⟩, ?_⟩
  rintro m _ ⟨k, rfl, hm, hk, hz⟩
  simp only [Int.toNat_natCast]
  refine ⟨fun hpos => ⟨by omega, fun e => ⟨i64 (by omega), k - 1, by omega, k - 1, by omega, rfl, by omega, fun i a b => ?_⟩, fun e => ⟨fun q => by omega, fun _ => ?_⟩⟩, fun hneg => ⟨fun _ => h2 (yg9 d fun v hv => drop_zero fun i a b => hz i (by omega) b), fun q => by omega⟩⟩
  · by_cases q : i = k
    · rw [q]; exact e
    · exact hz i (by omega) b
  · obtain ⟨v, rfl⟩ : ∃ v, k = v + 1 := ⟨k - 1, by omega⟩
    have e1 : (((v + 1 : Nat) : Int) - 1).toNat = v := by omega
    have e2 : ((d.length : Int) - 1).toNat = d.length - 1 := by omega
    have hgk := hb (v + 1) hk
    have hgv := hb v (by omega)
    have hs : gi (d.set (v + 1) 0) v = gi d v := by rw [ybi hk, if_neg (by omega)]
    rw [e1, e2, hs]
    refine ⟨i64 (by omega), i64 (by omega), by rw [List.length_set]; omega, i64 (by omega), by rw [List.length_set, List.length_set]; omega, ?_⟩
    have hnx := nextF_some d v (by omega) (by rw [drop_one hk hz]; exact e) fun w hw hw2 => drop_zero fun i a b => hz i (by omega) b
    rw [drop_one hk hz] at hnx
    have e3 : ((d.set (v + 1) 0).set v (gi d v + 1)).set (d.length - 1) (gi d (v + 1) - 1) = d.take v ++ (gi d v + 1) :: ydB (d.length - v - 1) (gi d (v + 1) - 1) := by
      refine yeT (by rw [List.length_set, List.length_set, List.length_set, next_length (by omega)]) fun i hi => ?_
      rw [List.length_set, List.length_set, List.length_set] at hi
      rw [gi_next (by omega) _ _ hi, ybi (by rw [List.length_set, List.length_set]; omega), ybi (by rw [List.length_set]; omega), ybi hk]
      by_cases c1 : i = d.length - 1
      · rw [if_pos c1, if_neg (by omega), if_neg (by omega), if_pos (by omega)]
      · rw [if_neg c1]
        by_cases c2 : i = v
        · rw [if_pos c2, if_neg (by omega), if_pos c2]
        · rw [if_neg c2]
          by_cases c3 : i < v
          · rw [if_neg (by omega), if_pos c3]
          · rw [if_neg c3, if_neg c2, if_neg (show ¬ i + 1 = d.length by omega)]
            split
            · rfl
            · exact hz i (by omega) hi
    rw [e3]
    exact h1 _ hnx
theorem p_chips_Next {n : Nat} {d : List Int} {R : List Int → Bool → Int → Prop} (hn : 1 ≤ n ∧ n ≤ 12) (hd : d.length = n) (hb : ∀ j, j < n → 0 ≤ gi d j ∧ gi d j ≤ 80000) (h1 : ∀ y, yeC d = some y → R y true 0) (h2 : yeC d = none → R [] false 0) : yc3 d R := by
  have hdg : dg d ≤ 1000000 := by
    have := yc0 (f := gi d) (B := 80000) (by omega) (n := n) fun i hi => by have := hb i hi; omega
    rw [dg_n hd]; omega
  unfold yc3
  refine ygc hn hd (fun j hj => by have := hb j hj; omega) ⟨fun _ => yju (by omega) (by omega) fun m ⟨k, hk, hm⟩ _ => ⟨fun q => by have := hb k (by omega); omega, fun _ => ⟨fun q => by omega, fun _ => ?_⟩⟩, fun q => absurd rfl q⟩
  refine yfo (by omega) (p_chips_step (by omega) (by omega) (fun j hj => by have := hb j (by omega); omega) (fun y hy => ⟨fun _ => h1 y hy, fun q => absurd rfl q⟩) fun hy => ⟨fun q => (by cases q), fun _ => h2 hy⟩)
def takY (n : Nat) (d e : List Int) : List Int × List Int := (e, sb n d e)
theorem yga {N k : Nat} {d : List Int} (hN : N ≤ 11) (hk : k ≤ 1000) (hd : d.length = N + 1) (hb : ∀ v, v < N + 1 → -2000000 ≤ gi d v ∧ gi d v ≤ 2000000) :
    ybX d (k : Int) (fun l => l <+: (ybG (N + 1) k).map (takY (N + 1) d)) (fun l => l = (ybG (N + 1) k).map (takY (N + 1) d)) := by
  unfold ybX
  obtain ⟨⟨B, hB⟩, hs⟩ := ygj N k
  have hmem : ∀ e ∈ ybG (N + 1) k, Eff (N + 1) e (k : Int) := fun e he => ye3 he
  generalize ybG (N + 1) k = L at hB hs hmem
  simp only [Int.toNat_natCast]
  have e1 : ((d.length : Int) - 1).toNat = N := by omega
  have hfirst : (List.replicate d.length (0 : Int)).set N (k : Int) = ydB (N + 1) k := by
    refine yeT (by rw [ygH (by omega)]; simpa using hd) fun i hi => ?_
    rw [List.length_set, List.length_replicate] at hi
    rw [ybi (by simpa using (by omega : N < d.length)), gi_firstF]
    by_cases c : i = N
    · rw [if_pos c, if_pos (by omega)]
    · rw [if_neg c, if_neg (by omega), yif hi]
  rw [e1, hfirst]
  refine ⟨by omega, i64 (by omega), by rw [List.length_replicate]; omega, fun m pre e more => ∃ j, m = L.length - j ∧ j ≤ L.length ∧ pre = (L.take j).map (takY (N + 1) d) ∧ more = decide (j < L.length) ∧ (j < L.length → L[j]? = some e), ⟨L.length, 0, by omega, by omega, rfl, ?_, fun _ => by rw [hB]; rfl⟩, ?_⟩
  · rw [hB]; simp
  rintro m pre e _ ⟨j, rfl, hj, rfl, rfl, he⟩
  refine ⟨fun hmore => ?_, fun hmore => ?_⟩
  · have hjl : j < L.length := of_decide_eq_true hmore
    have he := he hjl
    have heff := hmem e (List.mem_of_getElem? he)
    have hel := heff.len
    have heb : ∀ v, v < N + 1 → 0 ≤ gi e v ∧ gi e v ≤ 1000 := fun v hv => by have := heff.pos v hv; have := heff.le hv; omega
    refine ⟨fun m3 pre3 v left => Cnt (N + 1) (fun i => pre3 = (L.take j).map (takY (N + 1) d) ∧ left = upto (fun i => gi d i - gi e i) i (N + 1)) m3 v, ?_, ?_⟩
    · rw [hd]; exact Cnt.start ⟨rfl, (yiM _ _).symm⟩
    rintro m3 _ _ left ⟨i, rfl, rfl, hi, rfl, rfl⟩
    simp only [Int.toNat_natCast, List.length_replicate, hd]
    refine ⟨fun hlt => ⟨by omega, by omega, i64 (by have := hb i (by omega); have := heb i (by omega); omega), by rw [ybR]; omega, Cnt.next (by omega) (by omega) ⟨by trivial, yjF (fun i => gi d i - gi e i) (by omega)⟩⟩, fun hge => ?_⟩
    have hi2 : i = N + 1 := by omega
    subst hi2
    rw [yjD]
    have hnext : (L.take j).map (takY (N + 1) d) ++ [(e, tab (fun i => gi d i - gi e i) (N + 1))] = (L.take (j + 1)).map (takY (N + 1) d) := by
      rw [List.take_add_one, he, List.map_append]; rfl
    have hsp : L = L.take j ++ e :: L.drop (j + 1) := by
      have := (List.take_append_drop j L).symm
      have h2 : L.drop j = e :: L.drop (j + 1) := by
        rw [List.drop_eq_getElem_cons hjl]
        rw [List.getElem?_eq_getElem hjl] at he
        injection he with he
        rw [he]
      rwa [h2] at this
    have hnx : yeC e = L[j + 1]? := by
      have h3 := yfq.at_ (A := L.take j) (d := e) (B := L.drop (j + 1)) (o := none) (by rw [← hsp]; exact hs)
      rw [h3, List.head?_drop]
      cases L[j + 1]? <;> rfl
    rw [hnext]
    refine ⟨(List.take_prefix _ _).map _, p_chips_Next (n := N + 1) ⟨by omega, by omega⟩ hel (fun v hv => by have := heb v hv; omega) (fun y hy => ?_) (fun hy => ?_), trivial⟩
    · rw [hnx] at hy
      have : j + 1 < L.length := (List.getElem?_eq_some_iff.1 hy).1
      exact ⟨L.length - (j + 1), by omega, j + 1, rfl, by omega, rfl, (decide_eq_true this).symm, fun _ => hy⟩
    · rw [hnx] at hy
      have : ¬ j + 1 < L.length := fun q => by rw [List.getElem?_eq_getElem q] at hy; cases hy
      exact ⟨L.length - (j + 1), by omega, j + 1, rfl, by omega, rfl, (decide_eq_false this).symm, fun q => absurd q this⟩
  · have e : j = L.length := by
      have : ¬ j < L.length := fun q => hmore (decide_eq_true q)
      omega
    rw [e, List.take_length]
structure FailAt (n : Nat) (es : List E3) (d : List Int) (k : Nat) (w : List Int) : Prop where
  at_ : ∃ A B, ybG n k = A ++ w :: B ∧ ∀ e ∈ A, Win n es (sb n d e)
  no : ¬ Win n es (sb n d w)
theorem first_eq {α : Type} {P : α → Prop} : ∀ {A B A' B' : List α} {x x' : α}, A ++ x :: B = A' ++ x' :: B' → (∀ e ∈ A, P e) → (∀ e ∈ A', P e) → ¬ P x → ¬ P x' → x = x'
  | [], B, [], B', x, x', h, _, _, _, _ => by injection h
  | [], B, a :: A', B', x, x', h, _, h', hx, _ => by injection h with e _; exact absurd (e ▸ h' a (by simp)) hx
  | a :: A, B, [], B', x, x', h, h', _, _, hx => by injection h with e _; exact absurd (e ▸ h' a (by simp)) hx
  | a :: A, B, a' :: A', B', x, x', h, h1, h2, hx, hx' => by injection h with _ e; exact first_eq e (fun z hz => h1 z (by simp [hz])) (fun z hz => h2 z (by simp [hz])) hx hx'
theorem FailAt.eq {n k : Nat} {es : List E3} {d w w' : List Int} (h : FailAt n es d k w) (h' : FailAt n es d k w') : w = w' := by
  obtain ⟨A, B, e, hA⟩ := h.at_
  obtain ⟨A', B', e', hA'⟩ := h'.at_
  exact first_eq (P := fun x => Win n es (sb n d x)) (e.symm.trans e') hA hA' h.no h'.no
theorem FailAt.mem {n k : Nat} {es : List E3} {d w : List Int} (h : FailAt (n + 1) es d k w) : Eff (n + 1) w (k : Int) := by
  obtain ⟨A, B, e, -⟩ := h.at_
  exact ye3 (by rw [e]; simp)
def WitOk (n : Nat) (es : List E3) (d w : List Int) : Prop := ∃ k, RkOk n es d k ∧ FailAt n es d (k + 1).toNat w
theorem WitOk.eq {n : Nat} (hn : 1 ≤ n) {es : List E3} {d w w' : List Int} (h : WitOk n es d w) (h' : WitOk n es d w') : w = w' := by
  obtain ⟨k, h1, h2⟩ := h
  obtain ⟨k', h1', h2'⟩ := h'
  have e := h1.eq hn h1'
  subst e
  exact h2.eq h2'
structure DOk (n : Nat) (es : List E3) (d : List Int) : Prop where
  G : GOk n es
  b : ∀ v, v < n → -150 ≤ gi d v ∧ gi d v ≤ 150
  d5 : dg d ≤ 5
theorem yhM {n k : Nat} (hn : n ≤ 4) (hk : k ≤ 6) : (ybG (n + 1) k).length ≤ 2401 := by
  have h1 := yei n k
  have h2 : (k + 1) ^ n ≤ 7 ^ n := Nat.pow_le_pow_left (by omega) n
  have h3 : 7 ^ n ≤ 7 ^ 4 := Nat.pow_le_pow_right (by omega) hn
  omega
theorem RkOk.six {n : Nat} {es : List E3} {d : List Int} (hn : 1 ≤ n) (hd : d.length = n) (h5 : dg d ≤ 5) {k : Int} (h : RkOk n es d k) : -1 ≤ k ∧ k ≤ 5 := by
  have := h.few hn hd
  omega
theorem p_rank_Witness {n : Int} {es : List E3} {d : List Int} {R : List Int → Int → Prop} (hl : es.length ≤ 1000) (h0 : yaH n es 0 d ≠ 0 → R [] (yaH n es 0 d)) (h1 : yaH n es 0 d = 0 → DOk n.toNat es d ∧ ∀ w, WitOk n.toNat es d w → R w 0) : ybA n es d R := by
  unfold ybA
  refine ygh hl (fun hg => ⟨fun q => absurd q hg, fun _ => h0 hg⟩) fun hg => ?_
  obtain ⟨hD, hw⟩ := h1 hg
  refine ⟨hD.G, fun v hv => by have := hD.b v hv; omega, hD.d5, fun k hk => ⟨fun _ => ?_, fun q => absurd rfl q⟩⟩
  obtain ⟨n, rfl⟩ : ∃ n' : Nat, n = (n' : Int) := ⟨n.toNat, by have := yb0 hg; omega⟩
  simp only [Int.toNat_natCast] at hD hw hk
  have hd := (ydV (q := 0) hg).2.2.2.2.2.2.1
  have hn1 := hD.G.n1
  have hn5 := hD.G.n5
  obtain ⟨N, rfl⟩ : ∃ N, n = N + 1 := ⟨n - 1, by omega⟩
  have hk6 := hk.six hn1 hd hD.d5
  obtain ⟨r, hr⟩ : ∃ r : Nat, k + 1 = (r : Int) := ⟨(k + 1).toNat, by omega⟩
  refine ⟨i64 (by omega), ?_⟩
  rw [hr]
  have hlen := yhM (n := N) (k := r) (by omega) (by omega)
  refine ⟨_, _, yga (by omega) (by omega) hd (fun v hv => by have := hD.b v hv; omega), fun pre nn => nn = pre.length ∧ ∃ A B, ybG (N + 1) r = A ++ B ∧ pre = A.map (takY (N + 1) d) ∧ ∀ e ∈ A, Win (N + 1) es (sb (N + 1) d e), ⟨rfl, [], _, rfl, rfl, fun e he => by simp at he⟩, ?_, ?_⟩
  · rintro pre y y2 nn ⟨rfl, A, B, hAB, rfl, hA⟩ hPr
    have hPr : A.map (takY (N + 1) d) ++ [(y, y2)] <+: (ybG (N + 1) r).map (takY (N + 1) d) := hPr
    rw [hAB, List.map_append, List.prefix_append_right_inj] at hPr
    obtain ⟨b, B', rfl, hb⟩ : ∃ b B', B = b :: B' ∧ takY (N + 1) d b = (y, y2) := by
      cases B with
      | nil => simp at hPr
      | cons b B' =>
        refine ⟨b, B', rfl, ?_⟩
        obtain ⟨t, ht⟩ := hPr
        injection ht with e _
        exact e.symm
    injection hb with e1 e2
    subst e1
    subst e2
    have hAl : A.length + 1 ≤ 2401 := by rw [hAB, List.length_append, List.length_cons] at hlen; omega
    have heff : Eff (N + 1) b (r : Int) := ye3 (by rw [hAB]; simp)
    have hbb : ∀ v, v < N + 1 → -200 ≤ gi (sb (N + 1) d b) v ∧ gi (sb (N + 1) d b) v ≤ 200 := fun v hv => by
      rw [yff hv]
      have := hD.b v hv
      have := heff.pos v hv
      have := heff.le hv
      omega
    simp only [List.length_map]
    refine ⟨i64 (by omega), fun q => by omega, fun _ => ?_⟩
    refine ycI (.inl (hD.G.small hbb)) (by rw [ycd]; omega) (fun q => absurd (hD.G.giv (ycd _ _ _) fun v hv => by have := hbb v hv; omega) q) fun _ _ _ _ bb hbw => ⟨fun _ => ⟨fun hbt => ?_, fun hbf => ?_⟩, fun q => absurd rfl q⟩
    · simp only [Int.toNat_natCast] at hbw
      refine ⟨by rw [List.length_append, List.length_map, List.length_singleton]; omega, A ++ [b], B', by rw [hAB]; simp, by rw [List.map_append]; rfl, fun e he => ?_⟩
      rcases List.mem_append.1 he with q | q
      · exact hA e q
      · rw [List.mem_singleton] at q; subst q; exact hbw.1 hbt
    · simp only [Int.toNat_natCast] at hbw
      exact hw b ⟨k, hk, ⟨A, B', by rw [hr]; exact hAB, hA⟩, fun q => hbf (hbw.2 q)⟩
  · rintro ys nn ⟨rfl, A, B, hAB, rfl, hA⟩ hR
    have hR : A.map (takY (N + 1) d) = (ybG (N + 1) r).map (takY (N + 1) d) := hR
    have hB : B = [] := by
      have := congrArg List.length hR
      rw [hAB, List.length_map, List.length_map, List.length_append] at this
      exact List.length_eq_zero_iff.1 (by omega)
    subst hB
    rw [List.append_nil] at hAB
    exact absurd (fun e he => hA e (by rw [← hAB]; exact yhT (by rw [← hr]; exact he))) hk.no
theorem p_rank_AtLeast {n r : Int} {es : List E3} {d : List Int} {R : Bool → Int → Prop} (hl : es.length ≤ 1000) (h0 : yaH n es 0 d ≠ 0 → R false (yaH n es 0 d)) (h1 : yaH n es 0 d = 0 → r < 0 → R true 0) (h2 : yaH n es 0 d = 0 → 0 ≤ r → DOk n.toNat es d ∧ ∀ k, RkOk n.toNat es d k → R (decide (r ≤ k)) 0) : ycs n es d r R := by
  unfold ycs
  refine yfz hl (by simp) ?_
  rw [yjX]
  refine ⟨yaH n es 0 d = 0 ∧ 0 ≤ r, fun ⟨hg, hr⟩ => ?_, fun hg => ⟨fun hr => ?_, fun hr => ⟨hg, by omega⟩⟩, fun hg => ?_⟩
  · obtain ⟨hD, hk⟩ := h2 hg hr
    exact ygh hl (fun q => absurd hg q) fun _ => ⟨hD.G, fun v hv => by have := hD.b v hv; omega, hD.d5, fun k hk' => ⟨fun _ => hk k hk', fun q => absurd rfl q⟩⟩
  · rw [hg, decide_eq_true rfl]; exact h1 hg hr
  · rw [decide_eq_false hg]; exact h0 hg
end Go.Proofs.YtmeoemmemjipdaaGreat

/- What the reference of ranks comes to. -/
namespace Go.Proofs.YtmeoemmemjipdaaGreat
open Go Go.Proofs.Tryz
set_option linter.unusedVariables false
set_option linter.unusedSimpArgs false
theorem plus_sb {n : Nat} {d e : List Int} (hd : d.length = n) : plusF d e (-1) = sb n d e := by
  unfold plusF sb
  rw [hd]
  exact tab_congr fun i _ => by omega
section
variable {N : Nat} {es : List E3} {d : List Int}
end
structure FewOk (n : Int) (es : List E3) (d : List Int) (most : Int) : Prop where
  s : yhl n es 5 7 = true
  l : d.length ≤ 100
  g : yaH n es 0 d = 0 → lowF n d = true ∧ dg d ≤ most
theorem FewOk.el {n : Int} {es : List E3} {d : List Int} {most : Int} (h : FewOk n es d most) : es.length ≤ 40 := (of_decide_eq_true h.s).1
theorem gok_of {n : Int} {es : List E3} (hs : yhl n es 5 7 = true) (hg : yat n es = 0) (hc : ycJ n es = true) : GOk n.toNat es := by
  obtain ⟨h1, h2⟩ := of_decide_eq_true hs
  have h3 := h2 hg
  have hn : 1 ≤ n ∧ n ≤ 12 := by unfold yat at hg; split at hg; · assumption
                                 · omega
  have e : ((n.toNat : Nat) : Int) = n := by omega
  exact ⟨by rw [e]; exact hg, by rw [e]; exact hc, h1, by omega, by omega, by omega⟩
theorem FewOk.dok {n : Int} {es : List E3} {d : List Int} {most : Int} (h : FewOk n es d most) (hm : most ≤ 5) (hg : yaH n es 0 d = 0) : DOk n.toNat es d := by
  obtain ⟨h1, h2⟩ := h.g hg
  have h3 := yb0 hg
  have e : ((n.toNat : Nat) : Int) = n := by omega
  have h4 := ydV (n := n.toNat) (q := 0) (es := es) (d := d) (by rw [e]; exact hg)
  have h5 := (ygv.1 h1).2 (by have := h4.2.2.2.2.2.2.2; rwa [e] at this)
  have h6 := h4.2.2.2.2.2.2.1
  exact ⟨gok_of h.s (by have := h4.2.2.2.1; rwa [e] at this) (by have := h4.2.2.2.2.1; rwa [e] at this), fun v hv => by have := h5 v (by omega); omega, by omega⟩
theorem p_r38_Few {n most : Int} {es : List E3} {d : List Int} {R : Bool → Prop} (h1 : FewOk n es d most → R true) (h2 : ¬ FewOk n es d most → R false) : yeF n es d most R := by
  unfold yeF
  refine ⟨yhl n es 5 7 = true ∧ d.length ≤ 100, fun ⟨hs, hl⟩ => ?_, p_r08_small ⟨fun hs => ⟨fun hl => h2 fun q => by have := q.l; omega, fun hl => ⟨hs, by omega⟩⟩, fun hs => h2 fun q => hs q.s⟩⟩
  have hel := (of_decide_eq_true hs).1
  refine yiq (by omega) ⟨fun hg => p_r34_Low ⟨fun hlo => ycO (by omega) (fun i hi => ?_) ?_, fun hlo => h2 fun q => hlo (q.g hg).1⟩, fun hg => h1 ⟨hs, hl, fun q => absurd q hg⟩⟩
  · have h3 := yb0 hg
    have e : ((n.toNat : Nat) : Int) = n := by omega
    have h4 := ydV (n := n.toNat) (q := 0) (es := es) (d := d) (by rw [e]; exact hg)
    have := (ygv.1 hlo).2 (by have := h4.2.2.2.2.2.2.2; rwa [e] at this) i hi
    omega
  · by_cases q : dg d ≤ most
    · rw [decide_eq_true q]; exact h1 ⟨hs, hl, fun _ => ⟨hlo, q⟩⟩
    · rw [decide_eq_false q]; exact h2 fun f => q (f.g hg).2
end Go.Proofs.YtmeoemmemjipdaaGreat

/- The examples of the chapter on ranks come out right; what the law's small functions come to. -/
namespace Go.Proofs.YtmeoemmemjipdaaGreat
open Go Go.Proofs.Tryz
set_option linter.unusedVariables false
set_option linter.unusedSimpArgs false
theorem al_dec {N k : Nat} {es : List E3} {d : List Int} (S : List (List Int)) (h : ∀ e ∈ ybG (N + 1) k, ∃ s ∈ S, ∀ v, v < N + 1 → 0 ≤ gi (sb (N + 1) d e) v - Lp (N + 1) es (gi s) v) : AL (N + 1) es d (k : Int) := fun e he => by
  obtain ⟨s, -, hs⟩ := h e (yhT he)
  exact ⟨gi s, hs⟩
theorem yer {n : Nat} {es : List E3} {d : List Int} (G : GOk n es) (q : Nat) (hq : q < n) (h1 : ∀ v, v < n → v ≠ q → 0 ≤ gi d v) (h2 : ∀ m, m < 2 ^ n → 1 ≤ m → m.testBit q = false → ¬ (∀ v, v < n → m.testBit v = true → outS n es m.testBit v ≤ gi d v)) (hneg : gi d q < 0) : ¬ Win n es d := fun hw => by
  have := (yj7 (d := d) (r := d) (s := fun _ => 0) G.E hq (red_of_dec hq h1 h2) fun v hv => by rw [yeh]; omega).1 hw
  omega
theorem no_dec {N k : Nat} {es : List E3} {d : List Int} (e : List Int) (he : e ∈ ybG (N + 1) k) (h : ¬ Win (N + 1) es (sb (N + 1) d e)) : ¬ AL (N + 1) es d (k : Int) := fun q => h (q e (ye3 he))
end Go.Proofs.YtmeoemmemjipdaaGreat

/- Laws of layer 38: the answers are the reference's. -/
namespace Go.Proofs.YtmeoemmemjipdaaGreat
open Go Go.Proofs.Tryz
set_option linter.unusedVariables false
set_option linter.unusedSimpArgs false
section
variable {n most : Int} {es : List E3} {d : List Int} (hF : FewOk n es d most) (hm : most ≤ 5)
include hF hm
end
end Go.Proofs.YtmeoemmemjipdaaGreat
