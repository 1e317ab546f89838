/- Texts laid together: Pa, Pb, Pe, Pg, SpA, SpB, SpC, SpE, SpG, Big. -/
import Derived.Test.YtinoedockljfeaaK2
/- Pure forms of functions, made by program (pf.py), each with the proof that the code does so. -/
namespace Go.Proofs.Ytinoedockljfeaa
open Go Go.RowKit Go.Shelf Go.Proofs.Try
set_option linter.unusedVariables false
set_option maxRecDepth 100000
set_option maxHeartbeats 8000000
def yb2 (g : Int) (g2 : List E3) (v : Int) (R : Bool → Prop) : Prop :=
((0 ≤ v →
R (decide (v < g))) ∧
(¬ (0 ≤ v) →
R false))
theorem ydS {O : Nat → Prop} {w : World} {g g2 v Ag lg cg} {R : Bool → Prop} (h : yb2 g g2 v R) (hO : ∀ k, O k → k < w.heap.size) (hA0 : (FP.sl c3 Ag lg cg g2).P O w) :
    Calls Try.prog 85 #[(.agg #[(ii g), (.slice Ag lg cg)]), (ii v)] w fun e w' => ∃ r, e = .returned (.bool (r)) ∧ Sep w no O w' (rl []) ∧ R r := by
  unfold yb2 at h; have hS : Sep w no O w (rl [Res.ro (FP.sl c3 Ag lg cg g2)]) := Sep.startl hO [(FP.sl c3 Ag lg cg g2)] ⟨hA0, trivial⟩; refine yaq (l := [(.agg #[(ii g), (.slice Ag lg cg)]), (ii v)]) func85 rfl ntmps85 (Nat.le_of_ble_eq_true rfl) (zs (zn (yb5 (v := (.agg #[(ii g), (.slice Ag lg cg)])) rfl ?_))); intro g3 w2 hN; replace hS : Sep w no O w2 (stl _ 1 (Res.box 24 g3 [(ii g), (.slice Ag lg cg)])) := hS.new 1 rfl hN; clear hN; refine zb (zq (za (.bool (false))) (yaa (zs (zq (zm (ii v)) (zq (v_geq rfl rfl) (zq (zm (.bool (decide (0 ≤ v)))) ?_)))))); by_cases hp : 0 ≤ v
  · replace h := h.1 hp; exact rl_q (yad rfl (yac rfl (congrArg Value.bool (decide_eq_true hp)))) rfl rfl (zm (ii v)) (rl_q (yad rfl (yac rfl (congrArg Value.bool (decide_eq_true hp)))) rfl rfl (yao rfl underlying24 rfl yag) (rl_q (yad rfl (yac rfl (congrArg Value.bool (decide_eq_true hp)))) rfl rfl (zl underlying3 (Row.cell (hS.bx 1 rfl) (i := 0) rfl)) (rl_q (yad rfl (yac rfl (congrArg Value.bool (decide_eq_true hp)))) rfl rfl zL (zq (yaw (v := (.bool (decide (v < g)))) (congrArg Value.bool (decide_eq_true hp)) rfl) (zq (za (.bool (decide (v < g)))) (yaa (yai rfl rfl ⟨_, rfl, (hS.sel [] (by decide)), h⟩)))))))
  · replace h := h.2 hp; exact rl_p (yab rfl (yac rfl (congrArg Value.bool (decide_eq_false hp))) rfl) rfl (rl_p (yab rfl (yac rfl (congrArg Value.bool (decide_eq_false hp))) rfl) rfl (rl_p (yab rfl (yac rfl (congrArg Value.bool (decide_eq_false hp))) rfl) rfl (rl_p (yab rfl (yac rfl (congrArg Value.bool (decide_eq_false hp))) rfl) rfl (zq (yap (v := (.bool (false))) (congrArg Value.bool (decide_eq_false hp)) rfl) (zq (za (.bool (false))) (yaa (yai rfl rfl ⟨_, rfl, (hS.sel [] (by decide)), h⟩)))))))
def ycR (d : Int) (d2 : List E3) (i : Int) (R : Int → Prop) : Prop :=
((0 ≤ i ∧ i < ((d2.length : Nat) : Int)) ∧
(∃ J2 : Prop, (J2 → ((((ge d2 i.toNat).2.1) < ((ge d2 i.toNat).1) →
R 9) ∧
(¬ (((ge d2 i.toNat).2.1) < ((ge d2 i.toNat).1)) →
((0 < i →
(In64 (i - 1) ∧
((0 ≤ (i - 1) ∧ (i - 1) < ((d2.length : Nat) : Int)) ∧
((((ge d2 i.toNat).1) < ((ge d2 (i - 1).toNat).1) →
R 9) ∧
(¬ (((ge d2 i.toNat).1) < ((ge d2 (i - 1).toNat).1)) →
((((ge d2 i.toNat).1) = ((ge d2 (i - 1).toNat).1) →
((((ge d2 i.toNat).2.1) ≤ ((ge d2 (i - 1).toNat).2.1) →
R 9) ∧
(¬ (((ge d2 i.toNat).2.1) ≤ ((ge d2 (i - 1).toNat).2.1)) →
R 0))) ∧
(¬ (((ge d2 i.toNat).1) = ((ge d2 (i - 1).toNat).1)) →
R 0))))))) ∧
(¬ (0 < i) →
R 0))))) ∧
yb2 d d2 ((ge d2 i.toNat).1) (fun r =>
((r = true →
yb2 d d2 ((ge d2 i.toNat).2.1) (fun r2 =>
((r2 = true →
((((ge d2 i.toNat).2.2) < 1 →
R 2) ∧
(¬ (((ge d2 i.toNat).2.2) < 1) →
((50 < ((ge d2 i.toNat).2.2) →
R 2) ∧
(¬ (50 < ((ge d2 i.toNat).2.2)) →
J2))))) ∧
(¬ (r2 = true) →
R 2)))) ∧
(¬ (r = true) →
R 2)))))
theorem pok_r08_edge {O : Nat → Prop} {w : World} {d d2 i Ad ld cd} {R : Int → Prop} (h : ycR d d2 i R) (hO : ∀ k, O k → k < w.heap.size) (hA0 : (FP.sl c3 Ad ld cd d2).P O w) :
    Calls Try.prog 74 #[(.agg #[(ii d), (.slice Ad ld cd)]), (ii i)] w fun e w' => ∃ r3, e = .returned (ii r3) ∧ Sep w no O w' (rl []) ∧ R r3 := by
  unfold ycR at h; have hS : Sep w no O w (rl [Res.ro (FP.sl c3 Ad ld cd d2)]) := Sep.startl hO [(FP.sl c3 Ad ld cd d2)] ⟨hA0, trivial⟩; refine yaq (l := [(.agg #[(ii d), (.slice Ad ld cd)]), (ii i)]) func74 rfl ntmps74 (Nat.le_of_ble_eq_true rfl) (zs (zn (yb5 (v := (.agg #[(ii d), (.slice Ad ld cd)])) rfl ?_))); intro g w2 hN; replace hS : Sep w no O w2 (stl _ 1 (Res.box 24 g [(ii d), (.slice Ad ld cd)])) := hS.new 1 rfl hN; clear hN; refine zb (zq (za (ii 0)) (yaa (zs (zq (yao rfl underlying24 rfl ybN) (zq (zl underlying22 (Row.cell (hS.bx 1 rfl) (i := 1) rfl)) (zq (zm (ii i)) ?_)))))); obtain ⟨hx, h⟩ := h; refine zq (zi underlying22 yaX (yaN (hS.rdr 0 rfl) hx)) (zq (yaz (vs := [(ii ((ge d2 i.toNat).1)), (ii ((ge d2 i.toNat).2.1)), (ii ((ge d2 i.toNat).2.2))]) rfl underlying75 rfl yaX (ydN (hS.rdr 0 rfl) hx (fun q => ycW q))) ?_); refine zn (ybg yaX ?_); intro g2 w3 hN; replace hS : Sep w no O w3 (stl _ 2 (Res.box 75 g2 [(ii 0), (ii 0), (ii 0)])) := hS.new 2 rfl hN; clear hN; refine zb (zo (yaJ (b := g2) (o := 0) (cells := #[(ii ((ge d2 i.toNat).1)), (ii ((ge d2 i.toNat).2.1)), (ii ((ge d2 i.toNat).2.2))]) rfl rfl yaX rfl rfl (yaC (hS.bx 2 rfl) (Nat.le_of_ble_eq_true rfl)) ?_)); intro w4 e1; replace hS := hS.bstn 2 rfl 0 [(ii ((ge d2 i.toNat).1)), (ii ((ge d2 i.toNat).2.1)), (ii ((ge d2 i.toNat).2.2))] e1; clear e1; refine zb (yaa (yaf (yaf ?_))); obtain ⟨J2, hJ, h⟩ := h; refine ycZ (fun E ds w' => J2 ∧ ds = [] ∧ E 1 = (ii i) ∧ E 2 = (Value.pointer (some (⟨g, 0, none⟩ : Addr))) ∧ E 5 = (Value.pointer (some (⟨g2, 0, none⟩ : Addr))) ∧ Sep w no O w' (rl [Res.box 24 g [(ii d), (.slice Ad ld cd)], Res.ro (FP.sl c3 Ad ld cd d2), Res.box 75 g2 [(ii ((ge d2 i.toNat).1)), (ii ((ge d2 i.toNat).2.1)), (ii ((ge d2 i.toNat).2.2))]])) ?_ ?_
  · clear h hS; rintro E ds w5 ⟨h, rfl, hE1, hE2, hE5, hS⟩; replace h := hJ h; refine yaf (zs (zq (yao hE5 underlying75 rfl yag) (zq (zl underlying3 (Row.cell (hS.bx 2 rfl) (i := 0) rfl)) (zq (yao hE5 underlying75 rfl yag) (zq (zl underlying3 (Row.cell (hS.bx 2 rfl) (i := 1) rfl)) (zq zG (yaa ?_))))))); by_cases hp : ((ge d2 i.toNat).2.1) < ((ge d2 i.toNat).1)
    · replace h := h.1 hp; exact zc hp (zs (zq (za (ii 9)) (yaa (yai rfl rfl ⟨_, rfl, (hS.sel [] (by decide)), h⟩))))
    · replace h := h.2 hp; refine zd hp (yah (yaf (zs (zq (yae hE1) (zq zG (yaa ?_)))))); by_cases hp2 : 0 < i
      · replace h := h.1 hp2; refine zc hp2 (zs (zq (yao hE2 underlying24 rfl ybN) (zq (zl underlying22 (Row.cell (hS.bx 0 rfl) (i := 1) rfl)) (zq (yae hE1) ?_)))); obtain ⟨hi, h⟩ := h; refine zq (zS hi) ?_; obtain ⟨hx2, h⟩ := h; refine zq (zi underlying22 yaX (yaN (hS.rdr 1 rfl) hx2)) (zq (yaz (vs := [(ii ((ge d2 (i - 1).toNat).1)), (ii ((ge d2 (i - 1).toNat).2.1)), (ii ((ge d2 (i - 1).toNat).2.2))]) rfl underlying75 rfl yaX (ydN (hS.rdr 1 rfl) hx2 (fun q => ycW q))) ?_); refine zn (ybg yaX ?_); intro g3 w6 hN; replace hS : Sep w no O w6 (stl _ 3 (Res.box 75 g3 [(ii 0), (ii 0), (ii 0)])) := hS.new 3 rfl hN; clear hN; refine zb (zo (yaJ (b := g3) (o := 0) (cells := #[(ii ((ge d2 (i - 1).toNat).1)), (ii ((ge d2 (i - 1).toNat).2.1)), (ii ((ge d2 (i - 1).toNat).2.2))]) rfl rfl yaX rfl rfl (yaC (hS.bx 3 rfl) (Nat.le_of_ble_eq_true rfl)) ?_)); intro w7 e1; replace hS := hS.bstn 3 rfl 0 [(ii ((ge d2 (i - 1).toNat).1)), (ii ((ge d2 (i - 1).toNat).2.1)), (ii ((ge d2 (i - 1).toNat).2.2))] e1; clear e1; refine zb (yaa (zs (zq (yao hE5 underlying75 rfl yag) (zq (zl underlying3 (Row.cell (hS.bx 2 rfl) (i := 0) rfl)) (zq (yao rfl underlying75 rfl yag) (zq (zl underlying3 (Row.cell (hS.bx 3 rfl) (i := 0) rfl)) (zq zL (zq (zm (.bool (decide (((ge d2 i.toNat).1) < ((ge d2 (i - 1).toNat).1))))) ?_)))))))); by_cases hp3 : ((ge d2 i.toNat).1) < ((ge d2 (i - 1).toNat).1)
        · replace h := h.1 hp3; exact rl_p (yab rfl (yac rfl (congrArg Value.bool (decide_eq_true hp3))) rfl) rfl (rl_p (yab rfl (yac rfl (congrArg Value.bool (decide_eq_true hp3))) rfl) rfl (rl_p (yab rfl (yac rfl (congrArg Value.bool (decide_eq_true hp3))) rfl) rfl (rl_p (yab rfl (yac rfl (congrArg Value.bool (decide_eq_true hp3))) rfl) rfl (rl_p (yab rfl (yac rfl (congrArg Value.bool (decide_eq_true hp3))) rfl) rfl (rl_p (yab rfl (yac rfl (congrArg Value.bool (decide_eq_true hp3))) rfl) rfl (rl_p (yaY rfl rfl) rfl (rl_p (yaY rfl rfl) rfl (rl_p (yaY rfl rfl) rfl (rl_p (yaY rfl rfl) rfl (rl_p (yaY rfl rfl) rfl (rl_p (yab rfl (yac rfl (congrArg Value.bool (decide_eq_true hp3))) rfl) rfl (zq (yaw (v := (.bool (true))) (congrArg Value.bool (decide_eq_true hp3)) rfl) (yaa (yaE rfl (zs (zq (za (ii 9)) (yaa (yai rfl rfl ⟨_, rfl, (hS.sel [] (by decide)), h⟩))))))))))))))))))
        · replace h := h.2 hp3; refine rl_q (yad rfl (yac rfl (congrArg Value.bool (decide_eq_false hp3)))) rfl rfl (yao hE5 underlying75 rfl yag) (rl_q (yad rfl (yac rfl (congrArg Value.bool (decide_eq_false hp3)))) rfl rfl (zl underlying3 (Row.cell (hS.bx 2 rfl) (i := 0) rfl)) (rl_q (yad rfl (yac rfl (congrArg Value.bool (decide_eq_false hp3)))) rfl rfl (yao rfl underlying75 rfl yag) (rl_q (yad rfl (yac rfl (congrArg Value.bool (decide_eq_false hp3)))) rfl rfl (zl underlying3 (Row.cell (hS.bx 3 rfl) (i := 0) rfl)) (rl_q (yad rfl (yac rfl (congrArg Value.bool (decide_eq_false hp3)))) rfl rfl zE (rl_q (yad rfl (yac rfl (congrArg Value.bool (decide_eq_false hp3)))) rfl rfl (zm (.bool (decide (((ge d2 i.toNat).1) = ((ge d2 (i - 1).toNat).1))))) ?_))))); by_cases hp4 : ((ge d2 i.toNat).1) = ((ge d2 (i - 1).toNat).1)
          · replace h := h.1 hp4; refine rl_q (yad rfl (yac rfl (congrArg Value.bool (decide_eq_true hp4)))) rfl rfl (yao hE5 underlying75 rfl yag) (rl_q (yad rfl (yac rfl (congrArg Value.bool (decide_eq_true hp4)))) rfl rfl (zl underlying3 (Row.cell (hS.bx 2 rfl) (i := 1) rfl)) (rl_q (yad rfl (yac rfl (congrArg Value.bool (decide_eq_true hp4)))) rfl rfl (yao rfl underlying75 rfl yag) (rl_q (yad rfl (yac rfl (congrArg Value.bool (decide_eq_true hp4)))) rfl rfl (zl underlying3 (Row.cell (hS.bx 3 rfl) (i := 1) rfl)) (rl_q (yad rfl (yac rfl (congrArg Value.bool (decide_eq_true hp4)))) rfl rfl (v_leq rfl rfl) (rl_q (yad rfl (yac rfl (congrArg Value.bool (decide_eq_false hp3)))) rfl rfl (yaw (v := (.bool (decide (((ge d2 i.toNat).2.1) ≤ ((ge d2 (i - 1).toNat).2.1))))) (congrArg Value.bool (decide_eq_true hp4)) rfl) (zq (yap (v := (.bool (decide (((ge d2 i.toNat).2.1) ≤ ((ge d2 (i - 1).toNat).2.1))))) (congrArg Value.bool (decide_eq_false hp3)) rfl) (yaa ?_))))))); by_cases hp5 : ((ge d2 i.toNat).2.1) ≤ ((ge d2 (i - 1).toNat).2.1)
            · replace h := h.1 hp5; exact zc hp5 (zs (zq (za (ii 9)) (yaa (yai rfl rfl ⟨_, rfl, (hS.sel [] (by decide)), h⟩))))
            · replace h := h.2 hp5; exact zd hp5 (yah (zs (zq (za (ii 0)) (yaa (yai rfl rfl ⟨_, rfl, (hS.sel [] (by decide)), h⟩)))))
          · replace h := h.2 hp4; exact rl_p (yab rfl (yac rfl (congrArg Value.bool (decide_eq_false hp4))) rfl) rfl (rl_p (yab rfl (yac rfl (congrArg Value.bool (decide_eq_false hp4))) rfl) rfl (rl_p (yab rfl (yac rfl (congrArg Value.bool (decide_eq_false hp4))) rfl) rfl (rl_p (yab rfl (yac rfl (congrArg Value.bool (decide_eq_false hp4))) rfl) rfl (rl_p (yab rfl (yac rfl (congrArg Value.bool (decide_eq_false hp4))) rfl) rfl (rl_q (yad rfl (yac rfl (congrArg Value.bool (decide_eq_false hp3)))) rfl rfl (yap (v := (.bool (false))) (congrArg Value.bool (decide_eq_false hp4)) rfl) (zq (yap (v := (.bool (false))) (congrArg Value.bool (decide_eq_false hp3)) rfl) (yaa (ya7 rfl (yah (zs (zq (za (ii 0)) (yaa (yai rfl rfl ⟨_, rfl, (hS.sel [] (by decide)), h⟩)))))))))))))
      · replace h := h.2 hp2; exact zd hp2 (yah (zs (zq (za (ii 0)) (yaa (yai rfl rfl ⟨_, rfl, (hS.sel [] (by decide)), h⟩)))))
  clear hJ; intro j; refine zr (zq (yaz (vs := [(ii d), (.slice Ad ld cd)]) rfl underlying24 rfl yan ⟨Row.cell (hS.bx 1 rfl) (i := 0) rfl, Row.cell (hS.bx 1 rfl) (i := 1) rfl, trivial⟩) (zq (yao rfl underlying75 rfl yag) (zq (zl underlying3 (Row.cell (hS.bx 2 rfl) (i := 0) rfl)) (zn (yak rfl (am2 rfl rfl) ygy ((ydS h (yaF _) (hS.rdr 0 rfl)).mono ?_)))))); rintro _ w8 ⟨r, rfl, hC, h⟩; replace hS := hS.pur hC.pure; clear hC; refine ⟨_, rfl, ?_⟩; refine zb (zq (ygz rfl) (zq (zm (.bool (!(r)))) ?_)); by_cases hp6 : r = true
  · replace h := h.1 hp6; refine rl_q (yad rfl (yac rfl (congrArg Value.bool (congrArg Bool.not hp6)))) rfl rfl (yaz (vs := [(ii d), (.slice Ad ld cd)]) rfl underlying24 rfl yan ⟨Row.cell (hS.bx 1 rfl) (i := 0) rfl, Row.cell (hS.bx 1 rfl) (i := 1) rfl, trivial⟩) (rl_q (yad rfl (yac rfl (congrArg Value.bool (congrArg Bool.not hp6)))) rfl rfl (yao rfl underlying75 rfl yag) (rl_q (yad rfl (yac rfl (congrArg Value.bool (congrArg Bool.not hp6)))) rfl rfl (zl underlying3 (Row.cell (hS.bx 2 rfl) (i := 1) rfl)) (rl_n (yad rfl (yac rfl (congrArg Value.bool (congrArg Bool.not hp6)))) rfl rfl rfl (yak rfl (am2 rfl rfl) ygy ((ydS h (yaF _) (hS.rdr 0 rfl)).mono ?_))))); rintro _ w9 ⟨r2, rfl, hC, h⟩; replace hS := hS.pur hC.pure; clear hC; refine ⟨_, rfl, ?_⟩; refine zb (rl_q (yad rfl (yac rfl (congrArg Value.bool (congrArg Bool.not hp6)))) rfl rfl (ygz rfl) (zq (yap (v := (.bool (!(r2)))) (congrArg Value.bool (congrArg Bool.not hp6)) rfl) (zq (zm (.bool (!(r2)))) ?_))); by_cases hp7 : r2 = true
    · replace h := h.1 hp7; refine rl_q (yad rfl (yac rfl (congrArg Value.bool (congrArg Bool.not hp7)))) rfl rfl (yao rfl underlying75 rfl yag) (rl_q (yad rfl (yac rfl (congrArg Value.bool (congrArg Bool.not hp7)))) rfl rfl (zl underlying3 (Row.cell (hS.bx 2 rfl) (i := 2) rfl)) (rl_q (yad rfl (yac rfl (congrArg Value.bool (congrArg Bool.not hp7)))) rfl rfl zL (zq (yap (v := (.bool (decide (((ge d2 i.toNat).2.2) < 1)))) (congrArg Value.bool (congrArg Bool.not hp7)) rfl) (zq (zm (.bool (decide (((ge d2 i.toNat).2.2) < 1)))) ?_)))); by_cases hp8 : ((ge d2 i.toNat).2.2) < 1
      · replace h := h.1 hp8; exact rl_p (yab rfl (yac rfl (congrArg Value.bool (decide_eq_true hp8))) rfl) rfl (rl_p (yab rfl (yac rfl (congrArg Value.bool (decide_eq_true hp8))) rfl) rfl (rl_p (yab rfl (yac rfl (congrArg Value.bool (decide_eq_true hp8))) rfl) rfl (zq (yaw (v := (.bool (true))) (congrArg Value.bool (decide_eq_true hp8)) rfl) (yaa (yaE rfl (zs (zq (za (ii 2)) (yaa (yai rfl rfl ⟨_, rfl, (hS.sel [] (by decide)), h⟩)))))))))
      · replace h := h.2 hp8; refine rl_q (yad rfl (yac rfl (congrArg Value.bool (decide_eq_false hp8)))) rfl rfl (yao rfl underlying75 rfl yag) (rl_q (yad rfl (yac rfl (congrArg Value.bool (decide_eq_false hp8)))) rfl rfl (zl underlying3 (Row.cell (hS.bx 2 rfl) (i := 2) rfl)) (rl_q (yad rfl (yac rfl (congrArg Value.bool (decide_eq_false hp8)))) rfl rfl zG (zq (yap (v := (.bool (decide (50 < ((ge d2 i.toNat).2.2))))) (congrArg Value.bool (decide_eq_false hp8)) rfl) (yaa ?_)))); by_cases hp9 : 50 < ((ge d2 i.toNat).2.2)
        · replace h := h.1 hp9; exact zc hp9 (zs (zq (za (ii 2)) (yaa (yai rfl rfl ⟨_, rfl, (hS.sel [] (by decide)), h⟩))))
        · replace h := h.2 hp9; exact zd hp9 (yah (j _ _ _ ⟨h, rfl, rfl, rfl, rfl, (hS.sel [1, 0, 2] (by decide))⟩))
    · replace h := h.2 hp7; exact rl_p (yab rfl (yac rfl (congrArg Value.bool (congrArg Bool.not (Bool.eq_false_iff.2 hp7)))) rfl) rfl (rl_p (yab rfl (yac rfl (congrArg Value.bool (congrArg Bool.not (Bool.eq_false_iff.2 hp7)))) rfl) rfl (rl_p (yab rfl (yac rfl (congrArg Value.bool (congrArg Bool.not (Bool.eq_false_iff.2 hp7)))) rfl) rfl (zq (yaw (v := (.bool (true))) (congrArg Value.bool (congrArg Bool.not (Bool.eq_false_iff.2 hp7))) rfl) (zq (zm (.bool (true))) (rl_p (yab rfl (yac rfl rfl) rfl) rfl (rl_p (yab rfl (yac rfl rfl) rfl) rfl (rl_p (yab rfl (yac rfl rfl) rfl) rfl (zq (yaw (v := (.bool (true))) rfl rfl) (yaa (yaE rfl (zs (zq (za (ii 2)) (yaa (yai rfl rfl ⟨_, rfl, (hS.sel [] (by decide)), h⟩))))))))))))))
  · replace h := h.2 hp6; exact rl_p (yab rfl (yac rfl (congrArg Value.bool (congrArg Bool.not (Bool.eq_false_iff.2 hp6)))) rfl) rfl (rl_p (yab rfl (yac rfl (congrArg Value.bool (congrArg Bool.not (Bool.eq_false_iff.2 hp6)))) rfl) rfl (rl_p (yab rfl (yac rfl (congrArg Value.bool (congrArg Bool.not (Bool.eq_false_iff.2 hp6)))) rfl) rfl (rl_p (yab rfl (yac rfl (congrArg Value.bool (congrArg Bool.not (Bool.eq_false_iff.2 hp6)))) rfl) rfl (rl_p (yab rfl (yac rfl (congrArg Value.bool (congrArg Bool.not (Bool.eq_false_iff.2 hp6)))) rfl) rfl (zq (yaw (v := (.bool (true))) (congrArg Value.bool (congrArg Bool.not (Bool.eq_false_iff.2 hp6))) rfl) (zq (zm (.bool (true))) (rl_p (yab rfl (yac rfl rfl) rfl) rfl (rl_p (yab rfl (yac rfl rfl) rfl) rfl (rl_p (yab rfl (yac rfl rfl) rfl) rfl (zq (yaw (v := (.bool (true))) rfl rfl) (zq (zm (.bool (true))) (rl_p (yab rfl (yac rfl rfl) rfl) rfl (rl_p (yab rfl (yac rfl rfl) rfl) rfl (rl_p (yab rfl (yac rfl rfl) rfl) rfl (zq (yaw (v := (.bool (true))) rfl rfl) (yaa (yaE rfl (zs (zq (za (ii 2)) (yaa (yai rfl rfl ⟨_, rfl, (hS.sel [] (by decide)), h⟩)))))))))))))))))))))
def ycc (g : Int) (g2 : List E3) (R : Int → Prop) : Prop :=
(∃ J2 : Prop, (J2 → (∃ I2 : Nat → Int → Prop, (∃ m0, I2 m0 0) ∧ ∀ m2 i, I2 m2 i → 
((i < ((g2.length : Nat) : Int) →
ycR g g2 i (fun r =>
((r = 0 →
(In64 (i + 1) ∧
∃ m3, m3 < m2 ∧ I2 m3 (i + 1))) ∧
(¬ (r = 0) →
R r)))) ∧
(¬ (i < ((g2.length : Nat) : Int)) →
R 0)))) ∧
((g < 1 →
R 2) ∧
(¬ (g < 1) →
((12 < g →
R 2) ∧
(¬ (12 < g) →
J2)))))
theorem yeb {O : Nat → Prop} {w : World} {g g2 Ag lg cg} {R : Int → Prop} (h : ycc g g2 R) (hO : ∀ k, O k → k < w.heap.size) (hA0 : (FP.sl c3 Ag lg cg g2).P O w) :
    Calls Try.prog 26 #[(.agg #[(ii g), (.slice Ag lg cg)])] w fun e w' => ∃ r2, e = .returned (ii r2) ∧ Sep w no O w' (rl []) ∧ R r2 := by
  unfold ycc at h; have hS : Sep w no O w (rl [Res.ro (FP.sl c3 Ag lg cg g2)]) := Sep.startl hO [(FP.sl c3 Ag lg cg g2)] ⟨hA0, trivial⟩; refine yaq (l := [(.agg #[(ii g), (.slice Ag lg cg)])]) func26 rfl ntmps26 (Nat.le_of_ble_eq_true rfl) (zs (zn (yb5 (v := (.agg #[(ii g), (.slice Ag lg cg)])) rfl ?_))); intro g3 w2 hN; replace hS : Sep w no O w2 (stl _ 1 (Res.box 24 g3 [(ii g), (.slice Ag lg cg)])) := hS.new 1 rfl hN; clear hN; refine zb (zq (za (ii 0)) (yaa (yaf (yaf ?_)))); obtain ⟨J2, hJ, h⟩ := h; refine ycZ (fun E ds w' => J2 ∧ ds = [] ∧ E 1 = (Value.pointer (some (⟨g3, 0, none⟩ : Addr))) ∧ Sep w no O w' (rl [Res.box 24 g3 [(ii g), (.slice Ag lg cg)], Res.ro (FP.sl c3 Ag lg cg g2)])) ?_ ?_
  · clear h hS; rintro E ds w3 ⟨h, rfl, hE1, hS⟩; replace h := hJ h; refine yaf (zs (zq (za (ii 0)) (yaa (yaj ?_)))); obtain ⟨I2, ⟨m0, h0⟩, hr⟩ := h; refine yaO (fun m E ds w' => ∃ i, I2 m i ∧ ds = [] ∧ E 1 = (Value.pointer (some (⟨g3, 0, none⟩ : Addr))) ∧ E 3 = (ii i) ∧ Sep w no O w' (rl [Res.box 24 g3 [(ii g), (.slice Ag lg cg)], Res.ro (FP.sl c3 Ag lg cg g2)])) m0 ⟨_, h0, rfl, hE1, rfl, (hS.sel [0, 1] (by decide))⟩ ?_; clear h0 hS; rintro m2 E ds w4 ⟨i, h, rfl, hE1, hE3, hS⟩ again; replace h := hr m2 i h; clear hr; refine yaf (zs (zq (yae hE3) (zq (yao hE1 underlying24 rfl ybN) (zq (zl underlying22 (Row.cell (hS.bx 0 rfl) (i := 1) rfl)) (zq (yay (n := g2.length) rfl underlying22 (yav (hS.rdr 1 rfl))) (zq zL (yaa ?_))))))); by_cases hp : i < ((g2.length : Nat) : Int)
    · replace h := h.1 hp; refine zc hp (yah (yaf (yaj (zs (zq (yaz (vs := [(ii g), (.slice Ag lg cg)]) hE1 underlying24 rfl yan ⟨Row.cell (hS.bx 0 rfl) (i := 0) rfl, Row.cell (hS.bx 0 rfl) (i := 1) rfl, trivial⟩) (zq (yae hE3) (zn (yak rfl (am2 rfl rfl) enter_74 ((pok_r08_edge h (yaF _) (hS.rdr 1 rfl)).mono ?_))))))))); rintro _ w5 ⟨r, rfl, hC, h⟩; replace hS := hS.pur hC.pure; clear hC; refine ⟨_, rfl, ?_⟩; refine zb (zq (za (ii r)) (yaa (zs (zq (zm (ii r)) (zq zN (yaa ?_)))))); by_cases hp2 : r = 0
      · replace h := h.1 hp2; refine ze hp2 (yah (yam (zr (zq (yae hE3) ?_)))); obtain ⟨hi, h⟩ := h; refine zq (zA hi) (zq (za (ii (i + 1))) (yaa ?_)); obtain ⟨mq, hlt, h⟩ := h; exact again mq _ _ _ ⟨_, h, rfl, hE1, rfl, (hS.sel [0, 1] (by decide))⟩ hlt
      · replace h := h.2 hp2; exact zf hp2 (zs (zq (zm (ii r)) (zq (za (ii r)) (yaa (yai rfl rfl ⟨_, rfl, (hS.sel [] (by decide)), h⟩)))))
    · replace h := h.2 hp; exact zd hp (yaL rfl (zs (zq (za (ii 0)) (yaa (yai rfl rfl ⟨_, rfl, (hS.sel [] (by decide)), h⟩)))))
  clear hJ; intro j; refine zr (zq (yao rfl underlying24 rfl yag) (zq (zl underlying3 (Row.cell (hS.bx 1 rfl) (i := 0) rfl)) (zq zL (zq (zm (.bool (decide (g < 1)))) ?_)))); by_cases hp3 : g < 1
  · replace h := h.1 hp3; exact rl_p (yab rfl (yac rfl (congrArg Value.bool (decide_eq_true hp3))) rfl) rfl (rl_p (yab rfl (yac rfl (congrArg Value.bool (decide_eq_true hp3))) rfl) rfl (rl_p (yab rfl (yac rfl (congrArg Value.bool (decide_eq_true hp3))) rfl) rfl (zq (yaw (v := (.bool (true))) (congrArg Value.bool (decide_eq_true hp3)) rfl) (yaa (yaE rfl (zs (zq (za (ii 2)) (yaa (yai rfl rfl ⟨_, rfl, (hS.sel [] (by decide)), h⟩)))))))))
  · replace h := h.2 hp3; refine rl_q (yad rfl (yac rfl (congrArg Value.bool (decide_eq_false hp3)))) rfl rfl (yao rfl underlying24 rfl yag) (rl_q (yad rfl (yac rfl (congrArg Value.bool (decide_eq_false hp3)))) rfl rfl (zl underlying3 (Row.cell (hS.bx 1 rfl) (i := 0) rfl)) (rl_q (yad rfl (yac rfl (congrArg Value.bool (decide_eq_false hp3)))) rfl rfl zG (zq (yap (v := (.bool (decide (12 < g)))) (congrArg Value.bool (decide_eq_false hp3)) rfl) (yaa ?_)))); by_cases hp4 : 12 < g
    · replace h := h.1 hp4; exact zc hp4 (zs (zq (za (ii 2)) (yaa (yai rfl rfl ⟨_, rfl, (hS.sel [] (by decide)), h⟩))))
    · replace h := h.2 hp4; exact zd hp4 (yah (j _ _ _ ⟨h, rfl, rfl, (hS.sel [1, 0] (by decide))⟩))
def ybW (g : Int) (g2 : List E3) (R : (List (Int × Int)) → Prop) : Prop :=
(∃ I2 : Nat → (List (Int × Int)) → Int → Prop, (∃ m0, I2 m0 ([]) 0) ∧ ∀ m2 out i, I2 m2 out i → 
((i < ((g2.length : Nat) : Int) →
(∃ I3 : Nat → (List (Int × Int)) → Int → Prop, (∃ m0, I3 m0 out 0) ∧ ∀ m3 out2 k, I3 m3 out2 k → 
((0 ≤ i ∧ i < ((g2.length : Nat) : Int)) ∧
((k < ((ge g2 i.toNat).2.2) →
(out2.length + 1 ≤ 1000000000 ∧
(In64 (k + 1) ∧
∃ m4, m4 < m3 ∧ I3 m4 (out2 ++ [((ge g2 i.toNat).1, (ge g2 i.toNat).2.1)]) (k + 1)))) ∧
(¬ (k < ((ge g2 i.toNat).2.2)) →
(In64 (i + 1) ∧
∃ m5, m5 < m2 ∧ I2 m5 out2 (i + 1))))))) ∧
(¬ (i < ((g2.length : Nat) : Int)) →
R out)))
theorem ydA {O : Nat → Prop} {w : World} {g g2 Ag lg cg} {R : (List (Int × Int)) → Prop} (h : ybW g g2 R) (hO : ∀ k, O k → k < w.heap.size) (hA0 : (FP.sl c3 Ag lg cg g2).P O w) :
    Calls Try.prog 23 #[(.agg #[(ii g), (.slice Ag lg cg)])] w fun e w' => ∃ r Ar lr cr, e = .returned (.slice Ar lr cr) ∧ Sep w no O w' (rl [Res.own c2 45 Ar lr cr r]) ∧ R r := by
  unfold ybW at h; have hS : Sep w no O w (rl [Res.ro (FP.sl c3 Ag lg cg g2)]) := Sep.startl hO [(FP.sl c3 Ag lg cg g2)] ⟨hA0, trivial⟩; refine yaq (l := [(.agg #[(ii g), (.slice Ag lg cg)])]) func23 rfl ntmps23 (Nat.le_of_ble_eq_true rfl) (zs (zn (yb5 (v := (.agg #[(ii g), (.slice Ag lg cg)])) rfl ?_))); intro g3 w2 hN; replace hS : Sep w no O w2 (stl _ 1 (Res.box 24 g3 [(ii g), (.slice Ag lg cg)])) := hS.new 1 rfl hN; clear hN; refine zb (zq (za (.slice none 0 0)) (yaa (zs (zq (za (.slice none 0 0)) (yaa (yaf (zs (zq (za (ii 0)) (yaa (yaj ?_)))))))))); replace hS := hS.nil 2 rfl c2 45; obtain ⟨I2, ⟨m0, h0⟩, hr⟩ := h; refine yaO (fun m E ds w' => ∃ out i Aout lout cout, I2 m out i ∧ ds = [] ∧ E 1 = (Value.pointer (some (⟨g3, 0, none⟩ : Addr))) ∧ E 3 = (Value.slice Aout lout cout) ∧ E 4 = (ii i) ∧ Sep w no O w' (rl [Res.own c2 45 Aout lout cout out, Res.box 24 g3 [(ii g), (.slice Ag lg cg)], Res.ro (FP.sl c3 Ag lg cg g2)])) m0 ⟨_, _, _, _, _, h0, rfl, rfl, rfl, rfl, (hS.sel [2, 1, 0] (by decide))⟩ ?_; clear h0 hS; rintro m2 E ds w3 ⟨out, i, Aout, lout, cout, h, rfl, hE1, hE3, hE4, hS⟩ again; replace h := hr m2 out i h; clear hr; refine yaf (zs (zq (yae hE4) (zq (yao hE1 underlying24 rfl ybN) (zq (zl underlying22 (Row.cell (hS.bx 1 rfl) (i := 1) rfl)) (zq (yay (n := g2.length) rfl underlying22 (yav (hS.rdr 2 rfl))) (zq zL (yaa ?_))))))); by_cases hp : i < ((g2.length : Nat) : Int)
  · replace h := h.1 hp; refine zc hp (yah (yaf (yaj (zs (zq (za (ii 0)) (yaa (yaj ?_))))))); obtain ⟨I3, ⟨m0, h0⟩, hr⟩ := h; refine yaO (fun m E ds w' => ∃ out2 k Aout2 lout2 cout2, I3 m out2 k ∧ ds = [] ∧ E 1 = (Value.pointer (some (⟨g3, 0, none⟩ : Addr))) ∧ E 3 = (Value.slice Aout2 lout2 cout2) ∧ E 4 = (ii i) ∧ E 5 = (ii k) ∧ Sep w no O w' (rl [Res.own c2 45 Aout2 lout2 cout2 out2, Res.box 24 g3 [(ii g), (.slice Ag lg cg)], Res.ro (FP.sl c3 Ag lg cg g2)])) m0 ⟨_, _, _, _, _, h0, rfl, hE1, hE3, hE4, rfl, (hS.sel [0, 1, 2] (by decide))⟩ ?_; clear h0 hS; rintro m3 E ds w4 ⟨out2, k, Aout2, lout2, cout2, h, rfl, hE1, hE3, hE4, hE5, hS⟩ again2; replace h := hr m3 out2 k h; clear hr; refine yaf (zs (zq (yae hE5) (zq (yao hE1 underlying24 rfl ybN) (zq (zl underlying22 (Row.cell (hS.bx 1 rfl) (i := 1) rfl)) (zq (yae hE4) ?_))))); obtain ⟨hx, h⟩ := h; refine zq (zi underlying22 yaX (yaN (hS.rdr 2 rfl) hx)) (zq (yao rfl underlying75 rfl yag) (zq (yaK (v := (ii ((ge g2 i.toNat).2.2))) rfl underlying3 rfl (rd_f (hS.rdr 2 rfl) hx (fun q => ycW q) 2 rfl)) ?_)); refine zq zL (yaa ?_); by_cases hp2 : k < ((ge g2 i.toNat).2.2)
    · replace h := h.1 hp2; refine zc hp2 (yah (yaf (yaj (ybH [0, 1, 2, 3, 4, 5, 6, 7, 8, 9, 10, 11, 12, 13, 14, 15, 16] (fun i => match i with | 13 => [0] | 14 => [0] | _ => []) yar (by kernel_rfl) (by kernel_rfl) ?_)))); replace hS := hS.drew; refine zp (yae hE3) (zp (yao hE1 underlying24 rfl ybN) (zp (zl underlying22 (Row.cell (hS.bx 1 rfl) (i := 1) rfl)) (zp (yae hE4) (zp (zi underlying22 yaX (yaN (hS.rdr 2 rfl) hx)) (zp (yao rfl underlying75 rfl yag) (zp (yaK (v := (ii ((ge g2 i.toNat).1))) rfl underlying3 rfl (rd_f (hS.rdr 2 rfl) hx (fun q => ycW q) 0 rfl)) ?_)))))); refine zp (yao hE1 underlying24 rfl ybN) (zp (zl underlying22 (Row.cell (hS.bx 1 rfl) (i := 1) rfl)) (zp (yae hE4) (zp (zi underlying22 yaX (yaN (hS.rdr 2 rfl) hx)) (zp (yao rfl underlying75 rfl yag) (zp (yaK (v := (ii ((ge g2 i.toNat).2.1))) rfl underlying3 rfl (rd_f (hS.rdr 2 rfl) hx (fun q => ycW q) 1 rfl)) ?_))))); refine rp_n rfl rfl rfl rfl (yb9 (l := [(0, (ii ((ge g2 i.toNat).1))), (1, (ii ((ge g2 i.toNat).2.1)))]) (cells := [(ii ((ge g2 i.toNat).1)), (ii ((ge g2 i.toNat).2.1))]) (bp2 rfl rfl) underlying45 yal yag (by kernel_rfl) ?_); refine ⟨⟨fun hh => Bool.noConfusion (show false = true from hh), ⟨fun hh => Bool.noConfusion (show false = true from hh), ⟨fun hh => Bool.noConfusion (show false = true from hh), ⟨fun hh => Bool.noConfusion (show false = true from hh), ⟨fun hh => Bool.noConfusion (show false = true from hh), ⟨fun hh => Bool.noConfusion (show false = true from hh), ⟨fun hh => Bool.noConfusion (show false = true from hh), ⟨fun hh => Bool.noConfusion (show false = true from hh), ⟨fun hh => Bool.noConfusion (show false = true from hh), ⟨fun hh => Bool.noConfusion (show false = true from hh), ⟨fun hh => Bool.noConfusion (show false = true from hh), ⟨fun hh => Bool.noConfusion (show false = true from hh), ⟨fun _ => (yae hE3), trivial⟩⟩⟩⟩⟩⟩⟩⟩⟩⟩⟩⟩⟩, ?_⟩; refine rp_n rfl rfl rfl rfl (yaU (l := [(0, (.agg #[(ii ((ge g2 i.toNat).1)), (ii ((ge g2 i.toNat).2.1))]))]) (cells := [(ii ((ge g2 i.toNat).1)), (ii ((ge g2 i.toNat).2.1))]) (bp1 rfl) underlying46 yal rfl rfl ?_); intro g4 w5 hN; replace hS := hS.litf (n := 1) 3 rfl (fP (fI .i64) (fI .i64)) hN ([((ge g2 i.toNat).1, (ge g2 i.toNat).2.1)] : List (Int × Int)) rfl (by decide) rfl; clear hN; refine ⟨⟨fun hh => Bool.noConfusion (show false = true from hh), ⟨fun hh => Bool.noConfusion (show false = true from hh), ⟨fun hh => Bool.noConfusion (show false = true from hh), ⟨fun hh => Bool.noConfusion (show false = true from hh), ⟨fun hh => Bool.noConfusion (show false = true from hh), ⟨fun hh => Bool.noConfusion (show false = true from hh), ⟨fun hh => Bool.noConfusion (show false = true from hh), ⟨fun hh => Bool.noConfusion (show false = true from hh), ⟨fun hh => Bool.noConfusion (show false = true from hh), ⟨fun hh => Bool.noConfusion (show false = true from hh), ⟨fun hh => Bool.noConfusion (show false = true from hh), ⟨fun hh => Bool.noConfusion (show false = true from hh), ⟨fun _ => (yae hE3), trivial⟩⟩⟩⟩⟩⟩⟩⟩⟩⟩⟩⟩⟩, ?_⟩; obtain ⟨hx2, h⟩ := h; refine rp_n rfl rfl rfl rfl (ydC (c := c2) rfl rfl underlying46 underlying46 yal rfl rfl (by decide) hS 0 rfl (hS.yo 3 rfl) hx2 ?_); clear hS; intro A c w6 hS; refine zb (zp (za (.slice A (lout2 + 1) c)) (ybk (yam (zr (zq (yae hE5) ?_))))); obtain ⟨hi, h⟩ := h; refine zq (zA hi) (zq (za (ii (k + 1))) (yaa ?_)); obtain ⟨mq, hlt, h⟩ := h; exact again2 mq _ _ _ ⟨_, _, _, _, _, h, rfl, hE1, rfl, hE4, rfl, (hS.sel [0, 1, 2] (by decide))⟩ hlt
    · replace h := h.2 hp2; refine zd hp2 (yaL rfl (yam (zr (zq (yae hE4) ?_)))); obtain ⟨hi2, h⟩ := h; refine zq (zA hi2) (zq (za (ii (i + 1))) (yaa ?_)); obtain ⟨mq, hlt, h⟩ := h; exact again mq _ _ _ ⟨_, _, _, _, _, h, rfl, hE1, hE3, rfl, (hS.sel [0, 1, 2] (by decide))⟩ hlt
  · replace h := h.2 hp; exact zd hp (yaL rfl (zs (zq (yae hE3) (zq (za (.slice Aout lout cout)) (yaa (yai rfl rfl ⟨_, _, _, _, rfl, (hS.sel [0] (by decide)), h⟩))))))
def ycj (g : Int) (g2 : List E3) (R : Int → Prop) : Prop :=
ybW g g2 (fun r =>
R ((r.length : Nat) : Int))
theorem yeq {O : Nat → Prop} {w : World} {g g2 Ag lg cg} {R : Int → Prop} (h : ycj g g2 R) (hO : ∀ k, O k → k < w.heap.size) (hA0 : (FP.sl c3 Ag lg cg g2).P O w) :
    Calls Try.prog 24 #[(.agg #[(ii g), (.slice Ag lg cg)])] w fun e w' => ∃ r2, e = .returned (ii r2) ∧ Sep w no O w' (rl []) ∧ R r2 := by
  unfold ycj at h; have hS : Sep w no O w (rl [Res.ro (FP.sl c3 Ag lg cg g2)]) := Sep.startl hO [(FP.sl c3 Ag lg cg g2)] ⟨hA0, trivial⟩; refine yaq (l := [(.agg #[(ii g), (.slice Ag lg cg)])]) func24 rfl ntmps24 (Nat.le_of_ble_eq_true rfl) (zs (zn (yb5 (v := (.agg #[(ii g), (.slice Ag lg cg)])) rfl ?_))); intro g3 w2 hN; replace hS : Sep w no O w2 (stl _ 1 (Res.box 24 g3 [(ii g), (.slice Ag lg cg)])) := hS.new 1 rfl hN; clear hN; refine zb (zq (za (ii 0)) (yaa (zs (zq (yaz (vs := [(ii g), (.slice Ag lg cg)]) rfl underlying24 rfl yan ⟨Row.cell (hS.bx 1 rfl) (i := 0) rfl, Row.cell (hS.bx 1 rfl) (i := 1) rfl, trivial⟩) (zn (yak rfl (am1 rfl) ygp ((ydA h (yaF _) (hS.rdr 0 rfl)).mono ?_))))))); rintro _ w3 ⟨r, Ar, lr, cr, rfl, hC, h⟩; replace hS := hS.call1 (hC.widen (ybv (yat (fP (fI .i64) (fI .i64)) _ _ _ _ _) ybE) hS.blt) 2 0 rfl; clear hC; refine ⟨_, rfl, ?_⟩; exact zb (zq (yay (n := r.length) rfl underlying46 (yav (hS.rdo 2 rfl))) (zq (za (ii ((r.length : Nat) : Int))) (yaa (yai rfl rfl ⟨_, rfl, (hS.sel [] (by decide)), h⟩))))
def ycq (g : Int) (g2 : List E3) (vertices : Int) (single : Int) (R : Bool → Prop) : Prop :=
((40 < ((g2.length : Nat) : Int) →
R false) ∧
(¬ (40 < ((g2.length : Nat) : Int)) →
ycc g g2 (fun r =>
((r = 0 →
((g ≤ vertices →
ycj g g2 (fun r2 =>
R (decide (r2 ≤ single)))) ∧
(¬ (g ≤ vertices) →
R false))) ∧
(¬ (r = 0) →
R true)))))
theorem pok_r08_small {O : Nat → Prop} {w : World} {g g2 vertices single Ag lg cg} {R : Bool → Prop} (h : ycq g g2 vertices single R) (hO : ∀ k, O k → k < w.heap.size) (hA0 : (FP.sl c3 Ag lg cg g2).P O w) :
    Calls Try.prog 50 #[(.agg #[(ii g), (.slice Ag lg cg)]), (ii vertices), (ii single)] w fun e w' => ∃ r3, e = .returned (.bool (r3)) ∧ Sep w no O w' (rl []) ∧ R r3 := by
  unfold ycq at h; have hS : Sep w no O w (rl [Res.ro (FP.sl c3 Ag lg cg g2)]) := Sep.startl hO [(FP.sl c3 Ag lg cg g2)] ⟨hA0, trivial⟩; refine yaq (l := [(.agg #[(ii g), (.slice Ag lg cg)]), (ii vertices), (ii single)]) func50 rfl ntmps50 (Nat.le_of_ble_eq_true rfl) (zs (zn (yb5 (v := (.agg #[(ii g), (.slice Ag lg cg)])) rfl ?_))); intro g3 w2 hN; replace hS : Sep w no O w2 (stl _ 1 (Res.box 24 g3 [(ii g), (.slice Ag lg cg)])) := hS.new 1 rfl hN; clear hN; refine zb (zq (za (.bool (false))) (yaa (yaf (zs (zq (yao rfl underlying24 rfl ybN) (zq (zl underlying22 (Row.cell (hS.bx 1 rfl) (i := 1) rfl)) (zq (yay (n := g2.length) rfl underlying22 (yav (hS.rdr 0 rfl))) (zq zG (yaa ?_))))))))); by_cases hp : 40 < ((g2.length : Nat) : Int)
  · replace h := h.1 hp; exact zc hp (zs (zq (za (.bool (false))) (yaa (yai rfl rfl ⟨_, rfl, (hS.sel [] (by decide)), h⟩))))
  · replace h := h.2 hp; refine zd hp (yah (yaf (zs (zq (yaz (vs := [(ii g), (.slice Ag lg cg)]) rfl underlying24 rfl yan ⟨Row.cell (hS.bx 1 rfl) (i := 0) rfl, Row.cell (hS.bx 1 rfl) (i := 1) rfl, trivial⟩) (zn (yak rfl (am1 rfl) ygS ((yeb h (yaF _) (hS.rdr 0 rfl)).mono ?_))))))); rintro _ w3 ⟨r, rfl, hC, h⟩; replace hS := hS.pur hC.pure; clear hC; refine ⟨_, rfl, ?_⟩; refine zb (zq zN (yaa ?_)); by_cases hp2 : r = 0
    · replace h := h.1 hp2; refine ze hp2 (yah (zs (zq (yao rfl underlying24 rfl yag) (zq (zl underlying3 (Row.cell (hS.bx 1 rfl) (i := 0) rfl)) (zq (zm (ii vertices)) (zq (v_leq rfl rfl) (zq (zm (.bool (decide (g ≤ vertices)))) ?_))))))); by_cases hp3 : g ≤ vertices
      · replace h := h.1 hp3; refine rl_q (yad rfl (yac rfl (congrArg Value.bool (decide_eq_true hp3)))) rfl rfl (yaz (vs := [(ii g), (.slice Ag lg cg)]) rfl underlying24 rfl yan ⟨Row.cell (hS.bx 1 rfl) (i := 0) rfl, Row.cell (hS.bx 1 rfl) (i := 1) rfl, trivial⟩) (rl_n (yad rfl (yac rfl (congrArg Value.bool (decide_eq_true hp3)))) rfl rfl rfl (yak rfl (am1 rfl) yhd ((yeq h (yaF _) (hS.rdr 0 rfl)).mono ?_))); rintro _ w4 ⟨r2, rfl, hC, h⟩; replace hS := hS.pur hC.pure; clear hC; refine ⟨_, rfl, ?_⟩; exact zb (rl_q (yad rfl (yac rfl (congrArg Value.bool (decide_eq_true hp3)))) rfl rfl (zm (ii single)) (rl_q (yad rfl (yac rfl (congrArg Value.bool (decide_eq_true hp3)))) rfl rfl (v_leq rfl rfl) (zq (yaw (v := (.bool (decide (r2 ≤ single)))) (congrArg Value.bool (decide_eq_true hp3)) rfl) (zq (za (.bool (decide (r2 ≤ single)))) (yaa (yai rfl rfl ⟨_, rfl, (hS.sel [] (by decide)), h⟩))))))
      · replace h := h.2 hp3; exact rl_p (yab rfl (yac rfl (congrArg Value.bool (decide_eq_false hp3))) rfl) rfl (rl_p (yab rfl (yac rfl (congrArg Value.bool (decide_eq_false hp3))) rfl) rfl (rl_p (yab rfl (yac rfl (congrArg Value.bool (decide_eq_false hp3))) rfl) rfl (rl_p (yab rfl (yac rfl (congrArg Value.bool (decide_eq_false hp3))) rfl) rfl (zq (yap (v := (.bool (false))) (congrArg Value.bool (decide_eq_false hp3)) rfl) (zq (za (.bool (false))) (yaa (yai rfl rfl ⟨_, rfl, (hS.sel [] (by decide)), h⟩)))))))
    · replace h := h.2 hp2; exact zf hp2 (zs (zq (za (.bool (true))) (yaa (yai rfl rfl ⟨_, rfl, (hS.sel [] (by decide)), h⟩))))
def ydI (g : Int) (g2 : List E3) (R : Bool → Prop) : Prop :=
ycq g g2 6 9 (fun r =>
R r)
theorem pok_r08_Few {O : Nat → Prop} {w : World} {g g2 Ag lg cg} {R : Bool → Prop} (h : ydI g g2 R) (hO : ∀ k, O k → k < w.heap.size) (hA0 : (FP.sl c3 Ag lg cg g2).P O w) :
    Calls Try.prog 11 #[(.agg #[(ii g), (.slice Ag lg cg)])] w fun e w' => ∃ r2, e = .returned (.bool (r2)) ∧ Sep w no O w' (rl []) ∧ R r2 := by
  unfold ydI at h; have hS : Sep w no O w (rl [Res.ro (FP.sl c3 Ag lg cg g2)]) := Sep.startl hO [(FP.sl c3 Ag lg cg g2)] ⟨hA0, trivial⟩; refine yaq (l := [(.agg #[(ii g), (.slice Ag lg cg)])]) func11 rfl ntmps11 (Nat.le_of_ble_eq_true rfl) (zs (zn (yb5 (v := (.agg #[(ii g), (.slice Ag lg cg)])) rfl ?_))); intro g3 w2 hN; replace hS : Sep w no O w2 (stl _ 1 (Res.box 24 g3 [(ii g), (.slice Ag lg cg)])) := hS.new 1 rfl hN; clear hN; refine zb (zq (za (.bool (false))) (yaa (zs (zq (yaz (vs := [(ii g), (.slice Ag lg cg)]) rfl underlying24 rfl yan ⟨Row.cell (hS.bx 1 rfl) (i := 0) rfl, Row.cell (hS.bx 1 rfl) (i := 1) rfl, trivial⟩) (zn (yak rfl (am3 rfl rfl rfl) enter_50 ((pok_r08_small h (yaF _) (hS.rdr 0 rfl)).mono ?_))))))); rintro _ w3 ⟨r, rfl, hC, h⟩; replace hS := hS.pur hC.pure; clear hC; refine ⟨_, rfl, ?_⟩; exact zb (zq (za (.bool (r))) (yaa (yai rfl rfl ⟨_, rfl, (hS.sel [] (by decide)), h⟩)))
end Go.Proofs.Ytinoedockljfeaa

/- Pure forms of functions, made by program (pf.py), each with the proof that the code does so. -/
namespace Go.Proofs.Ytinoedockljfeaa
open Go Go.RowKit Go.Shelf Go.Proofs.Try
set_option linter.unusedVariables false
set_option maxRecDepth 100000
set_option maxHeartbeats 8000000
def yba (s1 : List Int) (s2 : List Int) (R : Bool → Prop) : Prop :=
((((s1.length : Nat) : Int) = ((s2.length : Nat) : Int) →
(∃ I2 : Nat → Int → Prop, (∃ m0, I2 m0 0) ∧ ∀ m2 v, I2 m2 v → 
((v < ((s1.length : Nat) : Int) →
((0 ≤ v ∧ v < ((s1.length : Nat) : Int)) ∧
((0 ≤ v ∧ v < ((s2.length : Nat) : Int)) ∧
(((gi s1 v.toNat) = (gi s2 v.toNat) →
(In64 (v + 1) ∧
∃ m3, m3 < m2 ∧ I2 m3 (v + 1))) ∧
(¬ ((gi s1 v.toNat) = (gi s2 v.toNat)) →
R false))))) ∧
(¬ (v < ((s1.length : Nat) : Int)) →
R true)))) ∧
(¬ (((s1.length : Nat) : Int) = ((s2.length : Nat) : Int)) →
R false))
theorem ydf {O : Nat → Prop} {w : World} {s1 s2 As1 ls1 cs1 As2 ls2 cs2} {R : Bool → Prop} (h : yba s1 s2 R) (hO : ∀ k, O k → k < w.heap.size) (hA0 : (FP.sl cI As1 ls1 cs1 s1).P O w) (hA1 : (FP.sl cI As2 ls2 cs2 s2).P O w) :
    Calls Try.prog 37 #[(.slice As1 ls1 cs1), (.slice As2 ls2 cs2)] w fun e w' => ∃ r, e = .returned (.bool (r)) ∧ Sep w no O w' (rl []) ∧ R r := by
  unfold yba at h; have hS : Sep w no O w (rl [Res.ro (FP.sl cI As1 ls1 cs1 s1), Res.ro (FP.sl cI As2 ls2 cs2 s2)]) := Sep.startl hO [(FP.sl cI As1 ls1 cs1 s1), (FP.sl cI As2 ls2 cs2 s2)] ⟨hA0, hA1, trivial⟩; refine yaq (l := [(.slice As1 ls1 cs1), (.slice As2 ls2 cs2)]) func37 rfl ntmps37 (Nat.le_of_ble_eq_true rfl) (zs (zq (za (.bool (false))) (yaa (yaf (zs (zq (zm (.slice As1 ls1 cs1)) (zq (yay (n := s1.length) rfl underlying35 (yav (hS.rdr 0 rfl))) (zq (zm (.slice As2 ls2 cs2)) (zq (yay (n := s2.length) rfl underlying35 (yav (hS.rdr 1 rfl))) (zq zN (yaa ?_))))))))))); by_cases hp : ((s1.length : Nat) : Int) = ((s2.length : Nat) : Int)
  · replace h := h.1 hp; refine ze hp (yah (yaf (zs (zq (zm (.slice As1 ls1 cs1)) (zq (yay (n := s1.length) rfl underlying35 (yav (hS.rdr 0 rfl))) (zq (zm (ii 0)) (yaa (yaj ?_)))))))); obtain ⟨I2, ⟨m0, h0⟩, hr⟩ := h; refine yaO (fun m E ds w' => ∃ v, I2 m v ∧ ds = [] ∧ E 0 = (Value.slice As1 ls1 cs1) ∧ E 1 = (Value.slice As2 ls2 cs2) ∧ E 12 = (ii ((s1.length : Nat) : Int)) ∧ E 13 = (ii v) ∧ Sep w no O w' (rl [Res.ro (FP.sl cI As1 ls1 cs1 s1), Res.ro (FP.sl cI As2 ls2 cs2 s2)])) m0 ⟨_, h0, rfl, rfl, rfl, rfl, rfl, (hS.sel [0, 1] (by decide))⟩ ?_; clear h0 hS; rintro m2 E ds w2 ⟨v, h, rfl, hE0, hE1, hE12, hE13, hS⟩ again; replace h := hr m2 v h; clear hr; refine zs (zq (ycI hE13 hE12) (yaa (yaf ?_))); by_cases hp2 : v < ((s1.length : Nat) : Int)
    · replace h := h.1 hp2; refine zc hp2 (yah (yaf (yaj (zs (zq (yae hE13) (zq (za (ii v)) (yaa (yaf (ybH [0, 1, 2, 3, 4, 5, 6, 7, 8] st0 yar (by kernel_rfl) (by kernel_rfl) ?_))))))))); replace hS := hS.drew; refine zp (yae hE0) (zp (zm (ii v)) ?_); obtain ⟨hx, h⟩ := h; refine zp (zi underlying35 yag (yaN (hS.rdr 0 rfl) hx)) (zp (yaK (v := (ii (gi s1 v.toNat))) rfl underlying3 rfl (rd_1 (hS.rdr 0 rfl) hx (fun q => yby q) rfl)) ?_); refine zp (yae hE1) (zp (zm (ii v)) ?_); obtain ⟨hx2, h⟩ := h; refine zp (zi underlying35 yag (yaN (hS.rdr 1 rfl) hx2)) (zp (yaK (v := (ii (gi s2 v.toNat))) rfl underlying3 rfl (rd_1 (hS.rdr 1 rfl) hx2 (fun q => yby q) rfl)) ?_); refine zp zN (ybk ?_); by_cases hp3 : (gi s1 v.toNat) = (gi s2 v.toNat)
      · replace h := h.1 hp3; refine ze hp3 (yah (yam (zr ?_))); obtain ⟨hi, h⟩ := h; refine zq (ycv hE13 rfl hi) (zq (zm (ii (v + 1))) (yaa ?_)); obtain ⟨mq, hlt, h⟩ := h; exact again mq _ _ _ ⟨_, h, rfl, hE0, hE1, hE12, rfl, (hS.sel [0, 1] (by decide))⟩ hlt
      · replace h := h.2 hp3; exact zf hp3 (zs (zq (za (.bool (false))) (yaa (yai rfl rfl ⟨_, rfl, (hS.sel [] (by decide)), h⟩))))
    · replace h := h.2 hp2; exact zd hp2 (yaL rfl (zs (zq (za (.bool (true))) (yaa (yai rfl rfl ⟨_, rfl, (hS.sel [] (by decide)), h⟩)))))
  · replace h := h.2 hp; exact zf hp (zs (zq (za (.bool (false))) (yaa (yai rfl rfl ⟨_, rfl, (hS.sel [] (by decide)), h⟩))))
def ybc (s1 : List Int) (s2 : List Int) (R : Bool → Prop) : Prop :=
((((s1.length : Nat) : Int) = ((s2.length : Nat) : Int) →
(∃ I2 : Nat → Int → Prop, (∃ m0, I2 m0 0) ∧ ∀ m2 v, I2 m2 v → 
((v < ((s1.length : Nat) : Int) →
((0 ≤ v ∧ v < ((s1.length : Nat) : Int)) ∧
((0 ≤ v ∧ v < ((s2.length : Nat) : Int)) ∧
(((gi s1 v.toNat) = (gi s2 v.toNat) →
(In64 (v + 1) ∧
∃ m3, m3 < m2 ∧ I2 m3 (v + 1))) ∧
(¬ ((gi s1 v.toNat) = (gi s2 v.toNat)) →
R false))))) ∧
(¬ (v < ((s1.length : Nat) : Int)) →
R true)))) ∧
(¬ (((s1.length : Nat) : Int) = ((s2.length : Nat) : Int)) →
R false))
theorem yct {O : Nat → Prop} {w : World} {s1 s2 As1 ls1 cs1 As2 ls2 cs2} {R : Bool → Prop} (h : ybc s1 s2 R) (hO : ∀ k, O k → k < w.heap.size) (hA0 : (FP.sl cI As1 ls1 cs1 s1).P O w) (hA1 : (FP.sl cI As2 ls2 cs2 s2).P O w) :
    Calls Try.prog 53 #[(.slice As1 ls1 cs1), (.slice As2 ls2 cs2)] w fun e w' => ∃ r, e = .returned (.bool (r)) ∧ Sep w no O w' (rl []) ∧ R r := by
  unfold ybc at h; have hS : Sep w no O w (rl [Res.ro (FP.sl cI As1 ls1 cs1 s1), Res.ro (FP.sl cI As2 ls2 cs2 s2)]) := Sep.startl hO [(FP.sl cI As1 ls1 cs1 s1), (FP.sl cI As2 ls2 cs2 s2)] ⟨hA0, hA1, trivial⟩; refine yaq (l := [(.slice As1 ls1 cs1), (.slice As2 ls2 cs2)]) func53 rfl ntmps53 (Nat.le_of_ble_eq_true rfl) (zs (zq (za (.bool (false))) (yaa (yaf (zs (zq (zm (.slice As1 ls1 cs1)) (zq (yay (n := s1.length) rfl underlying27 (yav (hS.rdr 0 rfl))) (zq (zm (.slice As2 ls2 cs2)) (zq (yay (n := s2.length) rfl underlying27 (yav (hS.rdr 1 rfl))) (zq zN (yaa ?_))))))))))); by_cases hp : ((s1.length : Nat) : Int) = ((s2.length : Nat) : Int)
  · replace h := h.1 hp; refine ze hp (yah (yaf (zs (zq (zm (.slice As1 ls1 cs1)) (zq (yay (n := s1.length) rfl underlying27 (yav (hS.rdr 0 rfl))) (zq (zm (ii 0)) (yaa (yaj ?_)))))))); obtain ⟨I2, ⟨m0, h0⟩, hr⟩ := h; refine yaO (fun m E ds w' => ∃ v, I2 m v ∧ ds = [] ∧ E 0 = (Value.slice As1 ls1 cs1) ∧ E 1 = (Value.slice As2 ls2 cs2) ∧ E 12 = (ii ((s1.length : Nat) : Int)) ∧ E 13 = (ii v) ∧ Sep w no O w' (rl [Res.ro (FP.sl cI As1 ls1 cs1 s1), Res.ro (FP.sl cI As2 ls2 cs2 s2)])) m0 ⟨_, h0, rfl, rfl, rfl, rfl, rfl, (hS.sel [0, 1] (by decide))⟩ ?_; clear h0 hS; rintro m2 E ds w2 ⟨v, h, rfl, hE0, hE1, hE12, hE13, hS⟩ again; replace h := hr m2 v h; clear hr; refine zs (zq (ycI hE13 hE12) (yaa (yaf ?_))); by_cases hp2 : v < ((s1.length : Nat) : Int)
    · replace h := h.1 hp2; refine zc hp2 (yah (yaf (yaj (zs (zq (yae hE13) (zq (za (ii v)) (yaa (yaf (ybH [0, 1, 2, 3, 4, 5, 6, 7, 8] st0 yar (by kernel_rfl) (by kernel_rfl) ?_))))))))); replace hS := hS.drew; refine zp (yae hE0) (zp (zm (ii v)) ?_); obtain ⟨hx, h⟩ := h; refine zp (zi underlying27 yag (yaN (hS.rdr 0 rfl) hx)) (zp (yaK (v := (ii (gi s1 v.toNat))) rfl underlying3 rfl (rd_1 (hS.rdr 0 rfl) hx (fun q => yby q) rfl)) ?_); refine zp (yae hE1) (zp (zm (ii v)) ?_); obtain ⟨hx2, h⟩ := h; refine zp (zi underlying27 yag (yaN (hS.rdr 1 rfl) hx2)) (zp (yaK (v := (ii (gi s2 v.toNat))) rfl underlying3 rfl (rd_1 (hS.rdr 1 rfl) hx2 (fun q => yby q) rfl)) ?_); refine zp zN (ybk ?_); by_cases hp3 : (gi s1 v.toNat) = (gi s2 v.toNat)
      · replace h := h.1 hp3; refine ze hp3 (yah (yam (zr ?_))); obtain ⟨hi, h⟩ := h; refine zq (ycv hE13 rfl hi) (zq (zm (ii (v + 1))) (yaa ?_)); obtain ⟨mq, hlt, h⟩ := h; exact again mq _ _ _ ⟨_, h, rfl, hE0, hE1, hE12, rfl, (hS.sel [0, 1] (by decide))⟩ hlt
      · replace h := h.2 hp3; exact zf hp3 (zs (zq (za (.bool (false))) (yaa (yai rfl rfl ⟨_, rfl, (hS.sel [] (by decide)), h⟩))))
    · replace h := h.2 hp2; exact zd hp2 (yaL rfl (zs (zq (za (.bool (true))) (yaa (yai rfl rfl ⟨_, rfl, (hS.sel [] (by decide)), h⟩)))))
  · replace h := h.2 hp; exact zf hp (zs (zq (za (.bool (false))) (yaa (yai rfl rfl ⟨_, rfl, (hS.sel [] (by decide)), h⟩))))
end Go.Proofs.Ytinoedockljfeaa

/- Pure forms of functions, made by program (pf.py), each with the proof that the code does so. -/
namespace Go.Proofs.Ytinoedockljfeaa
open Go Go.RowKit Go.Shelf Go.Proofs.Try
set_option linter.unusedVariables false
set_option maxRecDepth 100000
set_option maxHeartbeats 8000000
def yaV (s : List Int) (Ff : Int → (Bool → Prop) → Prop) (R : Int → Prop) : Prop :=
(∃ I2 : Nat → Int → Prop, (∃ m0, I2 m0 0) ∧ ∀ m2 v, I2 m2 v → 
((v < ((s.length : Nat) : Int) →
((0 ≤ v ∧ v < ((s.length : Nat) : Int)) ∧
Ff (gi s v.toNat) (fun (r : Bool) =>
((r = true →
R v) ∧
(¬ (r = true) →
(In64 (v + 1) ∧
∃ m3, m3 < m2 ∧ I2 m3 (v + 1))))))) ∧
(¬ (v < ((s.length : Nat) : Int)) →
R (-1))))
theorem ycG {O : Nat → Prop} {w : World} {s : List Int} {Ff : Int → (Bool → Prop) → Prop} {As : Option Addr} {ls : Nat} {cs : Nat} {f : Value} {R : Int → Prop} (h : yaV s Ff R) (hO : ∀ k, O k → k < w.heap.size) (hA0 : (FP.sl cI As ls cs s).P O w) (hA1 : (FP.st fun w' => ∃ (fid : Nat) (us : Array Value), f = Value.func (.func fid) #[] us ∧ Enters Try.prog fid ∧ ∀ (x0 : Int) (R : Bool → Prop), Ff x0 R → Calls Try.prog fid (#[(Value.int .i64 x0)] ++ us) w' fun e w'' => ∃ r0 : Bool, e = .returned (Value.bool (r0)) ∧ Sep w' no no w'' (rl []) ∧ R r0).P O w) :
    Calls Try.prog 81 #[(.slice As ls cs), f] w fun e w' => ∃ r2, e = .returned (ii r2) ∧ Sep w no O w' (rl []) ∧ R r2 := by
  unfold yaV at h; have hS : Sep w no O w (rl [Res.ro (FP.sl cI As ls cs s), Res.ro (FP.st fun w' => ∃ (fid : Nat) (us : Array Value), f = Value.func (.func fid) #[] us ∧ Enters Try.prog fid ∧ ∀ (x0 : Int) (R : Bool → Prop), Ff x0 R → Calls Try.prog fid (#[(Value.int .i64 x0)] ++ us) w' fun e w'' => ∃ r0 : Bool, e = .returned (Value.bool (r0)) ∧ Sep w' no no w'' (rl []) ∧ R r0)]) := Sep.startl hO [(FP.sl cI As ls cs s), (FP.st fun w' => ∃ (fid : Nat) (us : Array Value), f = Value.func (.func fid) #[] us ∧ Enters Try.prog fid ∧ ∀ (x0 : Int) (R : Bool → Prop), Ff x0 R → Calls Try.prog fid (#[(Value.int .i64 x0)] ++ us) w' fun e w'' => ∃ r0 : Bool, e = .returned (Value.bool (r0)) ∧ Sep w' no no w'' (rl []) ∧ R r0)] ⟨hA0, hA1, trivial⟩; refine yaq (l := [(Value.slice As ls cs), f]) func81 rfl ntmps81 (Nat.le_of_ble_eq_true rfl) ?_; refine yaf ?_; refine yas yar ?_; refine rl_q rfl rfl rfl (ybo (v := (.int .i64 0)) rfl) ?_; refine yaa ?_; refine yaf ?_; refine yaf ?_; refine yas yar ?_; refine rl_q rfl rfl rfl (yae (v := (.slice As ls cs)) rfl) ?_; refine rl_q rfl rfl rfl (yay (n := s.length) rfl underlying35 (yav (hS.rdr 0 rfl))) ?_; refine rl_q rfl rfl rfl (yae (v := (.int .i64 0)) rfl) ?_; refine yaa ?_; refine yaj ?_; obtain ⟨I2, ⟨m0, h0⟩, hr⟩ := h; refine yaO (fun m E ds w' => ∃ v : Int, I2 m v ∧ ds = [] ∧ E 0 = (Value.slice As ls cs) ∧ E 1 = f ∧ E 7 = (Value.int .i64 ((s.length : Nat) : Int)) ∧ E 8 = (Value.int .i64 v) ∧ Sep w no O w' (rl [Res.ro (FP.sl cI As ls cs s), Res.ro (FP.st fun w' => ∃ (fid : Nat) (us : Array Value), f = Value.func (.func fid) #[] us ∧ Enters Try.prog fid ∧ ∀ (x0 : Int) (R : Bool → Prop), Ff x0 R → Calls Try.prog fid (#[(Value.int .i64 x0)] ++ us) w' fun e w'' => ∃ r0 : Bool, e = .returned (Value.bool (r0)) ∧ Sep w' no no w'' (rl []) ∧ R r0)])) m0 ⟨_, h0, rfl, rfl, rfl, rfl, rfl, (hS.sel [0, 1] (by decide))⟩ ?_; clear h0 hS; rintro m2 E ds w2 ⟨v, h, rfl, hE0, hE1, hE7, hE8, hS⟩ again; replace h := hr m2 v h; clear hr; refine yaf ?_; refine yas yar ?_; refine rl_q rfl rfl rfl (ycI hE8 hE7) ?_; refine yaa ?_; refine yaf ?_; by_cases hp : v < ((s.length : Nat) : Int)
  · replace h := h.1 hp; refine zc hp (yah (yaf (yaj (zs (zq (yae hE8) (zq (za (ii v)) (yaa (zs (zq (yae hE1) (zq (yae hE0) (zq (zm (ii v)) ?_))))))))))); obtain ⟨hx, h⟩ := h; refine zq (zi underlying35 yag (yaN (hS.rdr 0 rfl) hx)) (zq (yaK (v := (ii (gi s v.toNat))) rfl underlying3 rfl (rd_1 (hS.rdr 0 rfl) hx (fun q => yby q) rfl)) ?_); obtain ⟨fid, us, hf, he, hcl⟩ := hS.ro 1 rfl _ (Keeps.refl _ _); replace h := hcl _ _ h; clear hcl; refine zn (ycS (hf) (am1 rfl) he (h.mono ?_)); clear hf he; rintro _ w3 ⟨r, rfl, hC, h⟩; replace hS := hS.pur hC.pure; clear hC; refine ⟨_, rfl, ?_⟩; refine zb (yaa ?_); by_cases hp2 : r = true
    · replace h := h.1 hp2; exact yaE (congrArg Value.bool hp2) (zs (zq (zm (ii v)) (zq (za (ii v)) (yaa (yai rfl rfl ⟨_, rfl, (hS.sel [] (by decide)), h⟩)))))
    · replace h := h.2 hp2; refine ya7 (congrArg Value.bool (Bool.eq_false_iff.2 hp2)) (yah (yam (zr ?_))); obtain ⟨hi, h⟩ := h; refine zq (ycv hE8 rfl hi) (zq (zm (ii (v + 1))) (yaa ?_)); obtain ⟨mq, hlt, h⟩ := h; exact again mq _ _ _ ⟨_, h, rfl, hE0, hE1, hE7, rfl, (hS.sel [0, 1] (by decide))⟩ hlt
  · replace h := h.2 hp; exact zd hp (yaL rfl (zs (zq (za (ii (-1))) (yaa (yai rfl rfl ⟨_, rfl, (hS.sel [] (by decide)), h⟩)))))
def yaM (s : List Int) (Ff : Int → (Bool → Prop) → Prop) (R : Bool → Prop) : Prop :=
yaV s Ff (fun r =>
R (decide (0 ≤ r)))
theorem ycl {O : Nat → Prop} {w : World} {s : List Int} {Ff : Int → (Bool → Prop) → Prop} {As : Option Addr} {ls : Nat} {cs : Nat} {f : Value} {R : Bool → Prop} (h : yaM s Ff R) (hO : ∀ k, O k → k < w.heap.size) (hA0 : (FP.sl cI As ls cs s).P O w) (hA1 : (FP.st fun w' => ∃ (fid : Nat) (us : Array Value), f = Value.func (.func fid) #[] us ∧ Enters Try.prog fid ∧ ∀ (x0 : Int) (R : Bool → Prop), Ff x0 R → Calls Try.prog fid (#[(Value.int .i64 x0)] ++ us) w' fun e w'' => ∃ r0 : Bool, e = .returned (Value.bool (r0)) ∧ Sep w' no no w'' (rl []) ∧ R r0).P O w) :
    Calls Try.prog 34 #[(.slice As ls cs), f] w fun e w' => ∃ r2, e = .returned (.bool (r2)) ∧ Sep w no O w' (rl []) ∧ R r2 := by
  unfold yaM at h; have hS : Sep w no O w (rl [Res.ro (FP.sl cI As ls cs s), Res.ro (FP.st fun w' => ∃ (fid : Nat) (us : Array Value), f = Value.func (.func fid) #[] us ∧ Enters Try.prog fid ∧ ∀ (x0 : Int) (R : Bool → Prop), Ff x0 R → Calls Try.prog fid (#[(Value.int .i64 x0)] ++ us) w' fun e w'' => ∃ r0 : Bool, e = .returned (Value.bool (r0)) ∧ Sep w' no no w'' (rl []) ∧ R r0)]) := Sep.startl hO [(FP.sl cI As ls cs s), (FP.st fun w' => ∃ (fid : Nat) (us : Array Value), f = Value.func (.func fid) #[] us ∧ Enters Try.prog fid ∧ ∀ (x0 : Int) (R : Bool → Prop), Ff x0 R → Calls Try.prog fid (#[(Value.int .i64 x0)] ++ us) w' fun e w'' => ∃ r0 : Bool, e = .returned (Value.bool (r0)) ∧ Sep w' no no w'' (rl []) ∧ R r0)] ⟨hA0, hA1, trivial⟩; refine yaq (l := [(Value.slice As ls cs), f]) func34 rfl ntmps34 (Nat.le_of_ble_eq_true rfl) ?_; refine yaf ?_; refine yas yar ?_; refine rl_q rfl rfl rfl (ybo (v := (.bool (false))) rfl) ?_; refine yaa ?_; refine yaf ?_; refine yas yar ?_; refine rl_q rfl rfl rfl (yae (v := (.slice As ls cs)) rfl) ?_; refine rl_q rfl rfl rfl (yae (v := f) rfl) ?_; refine rl_n rfl rfl rfl rfl (yak rfl (am2 rfl rfl) enter_81 ((ycG h (yaF _) (hS.rdr 0 rfl) (FP.sub _ (hS.ro 1 rfl) (fun _ _ h => h.elim) : FP.P _ no _)).mono ?_)); rintro _ w2 ⟨r, rfl, hC, h⟩; replace hS := hS.pur hC.pure; clear hC; refine ⟨_, rfl, ?_⟩; refine ⟨Stb.none _, ?_⟩; refine rl_q rfl rfl rfl (v_geq rfl rfl) ?_; refine rl_q rfl rfl rfl (ybo (v := (.bool (decide (0 ≤ r)))) rfl) ?_; refine yaa ?_; exact yai rfl rfl ⟨_, rfl, (hS.sel [] (by decide)), h⟩
def ybP (x : Int) (R : Bool → Prop) : Prop :=
R (!(decide (x = x)))
theorem ydc {O : Nat → Prop} {w : World} {x} {R : Bool → Prop} (h : ybP x R) (hO : ∀ k, O k → k < w.heap.size) :
    Calls Try.prog 94 #[(ii x)] w fun e w' => ∃ r, e = .returned (.bool (r)) ∧ Sep w no O w' (rl []) ∧ R r := by
  unfold ybP at h; have hS : Sep w no O w (rl []) := Sep.start w hO; exact yaq (l := [(ii x)]) func94 rfl ntmps94 (Nat.le_of_ble_eq_true rfl) (zs (zq (za (.bool (false))) (yaa (zs (zq (zm (ii x)) (zq (zm (ii x)) (zq zN (zq (za (.bool (!(decide (x = x))))) (yaa (yai rfl rfl ⟨_, rfl, (hS.sel [] (by decide)), h⟩))))))))))
end Go.Proofs.Ytinoedockljfeaa

/- Pure forms of functions, made by program (pf.py), each with the proof that the code does so. -/
namespace Go.Proofs.Ytinoedockljfeaa
open Go Go.RowKit Go.Shelf Go.Proofs.Try
set_option linter.unusedVariables false
set_option maxRecDepth 100000
set_option maxHeartbeats 8000000
def ya4 (n : Int) (v : Int) (R : Bool → Prop) : Prop :=
((0 ≤ v →
R (decide (v < n))) ∧
(¬ (0 ≤ v) →
R false))
theorem yca {O : Nat → Prop} {w : World} {n v} {R : Bool → Prop} (h : ya4 n v R) (hO : ∀ k, O k → k < w.heap.size) :
    Calls Try.prog 71 #[(ii n), (ii v)] w fun e w' => ∃ r, e = .returned (.bool (r)) ∧ Sep w no O w' (rl []) ∧ R r := by
  unfold ya4 at h; have hS : Sep w no O w (rl []) := Sep.start w hO; refine yaq (l := [(ii n), (ii v)]) func71 rfl ntmps71 (Nat.le_of_ble_eq_true rfl) (zs (zq (za (.bool (false))) (yaa (zs (zq (zm (ii v)) (zq (v_geq rfl rfl) (zq (zm (.bool (decide (0 ≤ v)))) ?_))))))); by_cases hp : 0 ≤ v
  · replace h := h.1 hp; exact rl_q (yad rfl (yac rfl (congrArg Value.bool (decide_eq_true hp)))) rfl rfl (zm (ii v)) (rl_q (yad rfl (yac rfl (congrArg Value.bool (decide_eq_true hp)))) rfl rfl (zm (ii n)) (rl_q (yad rfl (yac rfl (congrArg Value.bool (decide_eq_true hp)))) rfl rfl zL (zq (yaw (v := (.bool (decide (v < n)))) (congrArg Value.bool (decide_eq_true hp)) rfl) (zq (za (.bool (decide (v < n)))) (yaa (yai rfl rfl ⟨_, rfl, (hS.sel [] (by decide)), h⟩))))))
  · replace h := h.2 hp; exact rl_p (yab rfl (yac rfl (congrArg Value.bool (decide_eq_false hp))) rfl) rfl (rl_p (yab rfl (yac rfl (congrArg Value.bool (decide_eq_false hp))) rfl) rfl (rl_p (yab rfl (yac rfl (congrArg Value.bool (decide_eq_false hp))) rfl) rfl (zq (yap (v := (.bool (false))) (congrArg Value.bool (decide_eq_false hp)) rfl) (zq (za (.bool (false))) (yaa (yai rfl rfl ⟨_, rfl, (hS.sel [] (by decide)), h⟩))))))
def ya1 (x : Int) (y : Int) (R : Int → Prop) : Prop :=
ybP x (fun r =>
ybP y (fun r2 =>
((r = true →
((r2 = true →
R 0) ∧
(¬ (r2 = true) →
R (-1)))) ∧
(¬ (r = true) →
((r2 = true →
R 1) ∧
(¬ (r2 = true) →
((x < y →
R (-1)) ∧
(¬ (x < y) →
((y < x →
R 1) ∧
(¬ (y < x) →
R 0))))))))))
theorem ybL {O : Nat → Prop} {w : World} {x y} {R : Int → Prop} (h : ya1 x y R) (hO : ∀ k, O k → k < w.heap.size) :
    Calls Try.prog 61 #[(ii x), (ii y)] w fun e w' => ∃ r3, e = .returned (ii r3) ∧ Sep w no O w' (rl []) ∧ R r3 := by
  unfold ya1 at h; have hS : Sep w no O w (rl []) := Sep.start w hO; refine yaq (l := [(ii x), (ii y)]) func61 rfl ntmps61 (Nat.le_of_ble_eq_true rfl) (zs (zq (za (ii 0)) (yaa (zs (zq (zm (ii x)) (zn (yak rfl (am1 rfl) enter_94 ((ydc h (yaF _)).mono ?_)))))))); rintro _ w2 ⟨r, rfl, hC, h⟩; replace hS := hS.pur hC.pure; clear hC; refine ⟨_, rfl, ?_⟩; refine zb (zq (za (.bool (r))) (yaa (zs (zq (zm (ii y)) (zn (yak rfl (am1 rfl) enter_94 ((ydc h (yaF _)).mono ?_))))))); rintro _ w3 ⟨r2, rfl, hC, h⟩; replace hS := hS.pur hC.pure; clear hC; refine ⟨_, rfl, ?_⟩; refine zb (zq (za (.bool (r2))) (yaa (yaf (zs (zq (zm (.bool (r))) (yaa ?_)))))); by_cases hp : r = true
  · replace h := h.1 hp; refine yaE (congrArg Value.bool hp) (yaf (zs (zq (zm (.bool (r2))) (yaa ?_)))); by_cases hp2 : r2 = true
    · replace h := h.1 hp2; exact yaE (congrArg Value.bool hp2) (zs (zq (za (ii 0)) (yaa (yai rfl rfl ⟨_, rfl, (hS.sel [] (by decide)), h⟩))))
    · replace h := h.2 hp2; exact ya7 (congrArg Value.bool (Bool.eq_false_iff.2 hp2)) (yah (zs (zq (za (ii (-1))) (yaa (yai rfl rfl ⟨_, rfl, (hS.sel [] (by decide)), h⟩)))))
  · replace h := h.2 hp; refine ya7 (congrArg Value.bool (Bool.eq_false_iff.2 hp)) (yah (yaf (zs (zq (zm (.bool (r2))) (yaa ?_))))); by_cases hp3 : r2 = true
    · replace h := h.1 hp3; exact yaE (congrArg Value.bool hp3) (zs (zq (za (ii 1)) (yaa (yai rfl rfl ⟨_, rfl, (hS.sel [] (by decide)), h⟩))))
    · replace h := h.2 hp3; refine ya7 (congrArg Value.bool (Bool.eq_false_iff.2 hp3)) (yah (yaf (zs (zq (zm (ii x)) (zq (zm (ii y)) (zq zL (yaa ?_))))))); by_cases hp4 : x < y
      · replace h := h.1 hp4; exact zc hp4 (zs (zq (za (ii (-1))) (yaa (yai rfl rfl ⟨_, rfl, (hS.sel [] (by decide)), h⟩))))
      · replace h := h.2 hp4; refine zd hp4 (yah (yaf (zs (zq (zm (ii x)) (zq (zm (ii y)) (zq zG (yaa ?_))))))); by_cases hp5 : y < x
        · replace h := h.1 hp5; exact zc hp5 (zs (zq (za (ii 1)) (yaa (yai rfl rfl ⟨_, rfl, (hS.sel [] (by decide)), h⟩))))
        · replace h := h.2 hp5; exact zd hp5 (yah (zs (zq (za (ii 0)) (yaa (yai rfl rfl ⟨_, rfl, (hS.sel [] (by decide)), h⟩)))))
def yb0 (vals : List Int) (R : Int → Prop) : Prop :=
(∃ I2 : Nat → Int → Prop, (∃ m0, I2 m0 0) ∧ ∀ m2 v, I2 m2 v → 
((v < ((vals.length : Nat) : Int) →
((0 ≤ v ∧ v < ((vals.length : Nat) : Int)) ∧
(((gi vals v.toNat) = 0 →
(In64 (v + 1) ∧
∃ m3, m3 < m2 ∧ I2 m3 (v + 1))) ∧
(¬ ((gi vals v.toNat) = 0) →
R (gi vals v.toNat))))) ∧
(¬ (v < ((vals.length : Nat) : Int)) →
R 0)))
theorem ydT {O : Nat → Prop} {w : World} {vals Avals lvals cvals} {R : Int → Prop} (h : yb0 vals R) (hO : ∀ k, O k → k < w.heap.size) (hA0 : (FP.sl cI Avals lvals cvals vals).P O w) :
    Calls Try.prog 60 #[(.slice Avals lvals cvals)] w fun e w' => ∃ r, e = .returned (ii r) ∧ Sep w no O w' (rl []) ∧ R r := by
  unfold yb0 at h; have hS : Sep w no O w (rl [Res.ro (FP.sl cI Avals lvals cvals vals)]) := Sep.startl hO [(FP.sl cI Avals lvals cvals vals)] ⟨hA0, trivial⟩; refine yaq (l := [(.slice Avals lvals cvals)]) func60 rfl ntmps60 (Nat.le_of_ble_eq_true rfl) (zs (zq (za (ii 0)) (yaa (zs (zq (za (ii 0)) (yaa (yaf (zs (zq (zm (.slice Avals lvals cvals)) (zq (yay (n := vals.length) rfl underlying27 (yav (hS.rdr 0 rfl))) (zq (zm (ii 0)) (yaa (yaj ?_))))))))))))); obtain ⟨I2, ⟨m0, h0⟩, hr⟩ := h; refine yaO (fun m E ds w' => ∃ v, I2 m v ∧ ds = [] ∧ E 3 = (ii 0) ∧ E 6 = (Value.slice Avals lvals cvals) ∧ E 7 = (ii ((vals.length : Nat) : Int)) ∧ E 8 = (ii v) ∧ Sep w no O w' (rl [Res.ro (FP.sl cI Avals lvals cvals vals)])) m0 ⟨_, h0, rfl, rfl, rfl, rfl, rfl, (hS.sel [0] (by decide))⟩ ?_; clear h0 hS; rintro m2 E ds w2 ⟨v, h, rfl, hE3, hE6, hE7, hE8, hS⟩ again; replace h := hr m2 v h; clear hr; refine zs (zq (ycI hE8 hE7) (yaa (yaf ?_))); by_cases hp : v < ((vals.length : Nat) : Int)
  · replace h := h.1 hp; refine zc hp (yah (yaf (yaj (zs ?_)))); obtain ⟨hx, h⟩ := h; refine zq (ycn hE6 hE8 underlying27 yag (yaN (hS.rdr 0 rfl) hx)) (zq (yaK (v := (ii (gi vals v.toNat))) rfl underlying3 rfl (rd_1 (hS.rdr 0 rfl) hx (fun q => yby q) rfl)) ?_); refine zq (za (ii (gi vals v.toNat))) (yaa (zs (zq (zm (ii (gi vals v.toNat))) (zq (yae hE3) (zq zN (yaa ?_)))))); by_cases hp2 : (gi vals v.toNat) = 0
    · replace h := h.1 hp2; refine ze hp2 (yah (yam (zr ?_))); obtain ⟨hi, h⟩ := h; refine zq (ycv hE8 rfl hi) (zq (zm (ii (v + 1))) (yaa ?_)); obtain ⟨mq, hlt, h⟩ := h; exact again mq _ _ _ ⟨_, h, rfl, hE3, hE6, hE7, rfl, (hS.sel [0] (by decide))⟩ hlt
    · replace h := h.2 hp2; exact zf hp2 (zs (zq (zm (ii (gi vals v.toNat))) (zq (za (ii (gi vals v.toNat))) (yaa (yai rfl rfl ⟨_, rfl, (hS.sel [] (by decide)), h⟩)))))
  · replace h := h.2 hp; exact zd hp (yaL rfl (zs (zq (yae hE3) (zq (za (ii 0)) (yaa (yai rfl rfl ⟨_, rfl, (hS.sel [] (by decide)), h⟩))))))
def ybA (p : Int) (p2 : Int) (q : Int) (q2 : Int) (R : Int → Prop) : Prop :=
ya1 p q (fun r =>
ya1 p2 q2 (fun r2 =>
yb0 ([r, r2]) (fun r3 =>
R r3)))
theorem ydp {O : Nat → Prop} {w : World} {p p2 q q2} {R : Int → Prop} (h : ybA p p2 q q2 R) (hO : ∀ k, O k → k < w.heap.size) :
    Calls Try.prog 72 #[(.agg #[(ii p), (ii p2)]), (.agg #[(ii q), (ii q2)])] w fun e w' => ∃ r4, e = .returned (ii r4) ∧ Sep w no O w' (rl []) ∧ R r4 := by
  unfold ybA at h; have hS : Sep w no O w (rl []) := Sep.start w hO; refine yaq (l := [(.agg #[(ii p), (ii p2)]), (.agg #[(ii q), (ii q2)])]) func72 rfl ntmps72 (Nat.le_of_ble_eq_true rfl) (zs (zn (yb5 (v := (.agg #[(ii p), (ii p2)])) rfl ?_))); intro g w2 hN; replace hS : Sep w no O w2 (stl _ 0 (Res.box 94 g [(ii p), (ii p2)])) := hS.new 0 rfl hN; clear hN; refine zb (zn (yb5 (v := (.agg #[(ii q), (ii q2)])) rfl ?_)); intro g2 w3 hN; replace hS : Sep w no O w3 (stl _ 1 (Res.box 94 g2 [(ii q), (ii q2)])) := hS.new 1 rfl hN; clear hN; refine zb (zq (za (ii 0)) (yaa (yaf (ybH [0, 1, 2, 3, 5, 6, 7, 8, 4, 9, 10, 11, 12] (fun i => match i with | 4 => [5, 6, 7, 8] | _ => []) yar (by kernel_rfl) (by kernel_rfl) ?_)))); replace hS := hS.drew; refine zp (yao rfl underlying94 rfl yag) (zp (zl underlying3 (Row.cell (hS.bx 0 rfl) (i := 0) rfl)) (zp (yao rfl underlying94 rfl yag) (zp (zl underlying3 (Row.cell (hS.bx 1 rfl) (i := 0) rfl)) (zp (yao rfl underlying94 rfl yag) (zp (zl underlying3 (Row.cell (hS.bx 0 rfl) (i := 1) rfl)) (zp (yao rfl underlying94 rfl yag) (zp (zl underlying3 (Row.cell (hS.bx 1 rfl) (i := 1) rfl)) (rp_n rfl rfl rfl rfl (yak rfl (am2 rfl rfl) yeK ((ybL h (yaF _)).mono ?_)))))))))); rintro _ w4 ⟨r, rfl, hC, h⟩; replace hS := hS.pur hC.pure; clear hC; refine ⟨_, rfl, ?_⟩; refine ⟨⟨fun _ => (zl underlying3 (Row.cell (hS.bx 1 rfl) (i := 1) rfl)), ⟨fun _ => (yao rfl underlying94 rfl yag), ⟨fun _ => (zl underlying3 (Row.cell (hS.bx 0 rfl) (i := 1) rfl)), ⟨fun _ => (yao rfl underlying94 rfl yag), ⟨fun hh => Bool.noConfusion (show false = true from hh), ⟨fun hh => Bool.noConfusion (show false = true from hh), ⟨fun hh => Bool.noConfusion (show false = true from hh), ⟨fun hh => Bool.noConfusion (show false = true from hh), trivial⟩⟩⟩⟩⟩⟩⟩⟩, ?_⟩; refine rp_n rfl rfl rfl rfl (yak rfl (am2 rfl rfl) yeK ((ybL h (yaF _)).mono ?_)); rintro _ w5 ⟨r2, rfl, hC, h⟩; replace hS := hS.pur hC.pure; clear hC; refine ⟨_, rfl, ?_⟩; refine zb (rp_n rfl rfl rfl rfl (yaU (l := [(0, (ii r)), (1, (ii r2))]) (cells := [(ii r), (ii r2)]) (bp2 rfl rfl) underlying27 yag rfl rfl ?_)); intro g3 w6 hN; replace hS := hS.litf (n := 2) 2 rfl (fI .i64) hN ([r, r2] : List Int) rfl (by decide) rfl; clear hN; refine zb (rp_n rfl rfl rfl rfl (yak rfl (am1 rfl) enter_60 ((ydT h (yaF _) (hS.rdo 2 rfl)).mono ?_))); rintro _ w7 ⟨r3, rfl, hC, h⟩; replace hS := hS.pur hC.pure; clear hC; refine ⟨_, rfl, ?_⟩; exact zb (zp (za (ii r3)) (ybk (yai rfl rfl ⟨_, rfl, (hS.sel [] (by decide)), h⟩)))
def yb8 (d : Int) (d2 : List E3) (R : Int → Prop) : Prop :=
(∃ J2 : Prop, (J2 → (∃ I2 : Nat → Int → Int → Int → Prop, (∃ m0, I2 m0 0 (-1) (-1)) ∧ ∀ m2 v v2 v3, I2 m2 v v2 v3 → 
((v < ((d2.length : Nat) : Int) →
((0 ≤ v ∧ v < ((d2.length : Nat) : Int)) ∧
(∃ J3 : Prop, (J3 → ((((ge d2 v.toNat).2.1) < ((ge d2 v.toNat).1) →
R 9) ∧
(¬ (((ge d2 v.toNat).2.1) < ((ge d2 v.toNat).1)) →
ybA v2 v3 ((ge d2 v.toNat).1) ((ge d2 v.toNat).2.1) (fun r =>
((0 ≤ r →
R 9) ∧
(¬ (0 ≤ r) →
(In64 (v + 1) ∧
∃ m3, m3 < m2 ∧ I2 m3 (v + 1) ((ge d2 v.toNat).1) ((ge d2 v.toNat).2.1)))))))) ∧
ya4 d ((ge d2 v.toNat).1) (fun r2 =>
((r2 = true →
ya4 d ((ge d2 v.toNat).2.1) (fun r3 =>
((r3 = true →
((((ge d2 v.toNat).2.2) < 1 →
R 2) ∧
(¬ (((ge d2 v.toNat).2.2) < 1) →
((50 < ((ge d2 v.toNat).2.2) →
R 2) ∧
(¬ (50 < ((ge d2 v.toNat).2.2)) →
J3))))) ∧
(¬ (r3 = true) →
R 2)))) ∧
(¬ (r2 = true) →
R 2)))))) ∧
(¬ (v < ((d2.length : Nat) : Int)) →
R 0)))) ∧
((d < 1 →
R 2) ∧
(¬ (d < 1) →
((12 < d →
R 2) ∧
(¬ (12 < d) →
J2)))))
theorem ye6 {O : Nat → Prop} {w : World} {d d2 Ad ld cd} {R : Int → Prop} (h : yb8 d d2 R) (hO : ∀ k, O k → k < w.heap.size) (hA0 : (FP.sl c3 Ad ld cd d2).P O w) :
    Calls Try.prog 22 #[(.agg #[(ii d), (.slice Ad ld cd)])] w fun e w' => ∃ r4, e = .returned (ii r4) ∧ Sep w no O w' (rl []) ∧ R r4 := by
  unfold yb8 at h; have hS : Sep w no O w (rl [Res.ro (FP.sl c3 Ad ld cd d2)]) := Sep.startl hO [(FP.sl c3 Ad ld cd d2)] ⟨hA0, trivial⟩; refine yaq (l := [(.agg #[(ii d), (.slice Ad ld cd)])]) func22 rfl ntmps22 (Nat.le_of_ble_eq_true rfl) (zs (zn (yb5 (v := (.agg #[(ii d), (.slice Ad ld cd)])) rfl ?_))); intro g w2 hN; replace hS : Sep w no O w2 (stl _ 1 (Res.box 24 g [(ii d), (.slice Ad ld cd)])) := hS.new 1 rfl hN; clear hN; refine zb (zq (za (ii 0)) (yaa (yaf (yaf ?_)))); obtain ⟨J2, hJ, h⟩ := h; refine ycZ (fun E ds w' => J2 ∧ ds = [] ∧ E 1 = (Value.pointer (some (⟨g, 0, none⟩ : Addr))) ∧ Sep w no O w' (rl [Res.box 24 g [(ii d), (.slice Ad ld cd)], Res.ro (FP.sl c3 Ad ld cd d2)])) ?_ ?_
  · clear h hS; rintro E ds w3 ⟨h, rfl, hE1, hS⟩; replace h := hJ h; refine zs (zn (ybw (l := [(0, (ii (-1))), (1, (ii (-1)))]) (cells := [(ii (-1)), (ii (-1))]) (places := [(0, 1), (1, 1)]) (bp2 rfl rfl) underlying94 ybM (by kernel_rfl) rfl ?_)); refine zb (zn (ybg ybM ?_)); intro g2 w4 hN; replace hS : Sep w no O w4 (stl _ 2 (Res.box 94 g2 [(ii 0), (ii 0)])) := hS.new 2 rfl hN; clear hN; refine zb (zo (yaJ (b := g2) (o := 0) (cells := #[(ii (-1)), (ii (-1))]) rfl rfl ybM rfl rfl (yaC (hS.bx 2 rfl) (Nat.le_of_ble_eq_true rfl)) ?_)); intro w5 e1; replace hS := hS.bstn 2 rfl 0 [(ii (-1)), (ii (-1))] e1; clear e1; refine zb (yaa (yaf (zs (zq (yao hE1 underlying24 rfl ybN) (zq (zl underlying22 (Row.cell (hS.bx 0 rfl) (i := 1) rfl)) (zq (yay (n := d2.length) rfl underlying22 (yav (hS.rdr 1 rfl))) (zq (zm (ii 0)) (yaa (yaj ?_))))))))); obtain ⟨I2, ⟨m0, h0⟩, hr⟩ := h; refine yaO (fun m E ds w' => ∃ v v2 v3, I2 m v v2 v3 ∧ ds = [] ∧ E 1 = (Value.pointer (some (⟨g, 0, none⟩ : Addr))) ∧ E 3 = (Value.pointer (some (⟨g2, 0, none⟩ : Addr))) ∧ E 17 = (Value.slice Ad ld cd) ∧ E 18 = (ii ((d2.length : Nat) : Int)) ∧ E 19 = (ii v) ∧ Sep w no O w' (rl [Res.box 24 g [(ii d), (.slice Ad ld cd)], Res.ro (FP.sl c3 Ad ld cd d2), Res.box 94 g2 [(ii v2), (ii v3)]])) m0 ⟨_, _, _, h0, rfl, hE1, rfl, rfl, rfl, rfl, (hS.sel [0, 1, 2] (by decide))⟩ ?_; clear h0 hS; rintro m2 E ds w6 ⟨v, v2, v3, h, rfl, hE1, hE3, hE17, hE18, hE19, hS⟩ again; replace h := hr m2 v v2 v3 h; clear hr; refine zs (zq (ycI hE19 hE18) (yaa (yaf ?_))); by_cases hp : v < ((d2.length : Nat) : Int)
    · replace h := h.1 hp; refine zc hp (yah (yaf (yaj (zs ?_)))); obtain ⟨hx, h⟩ := h; refine zq (ycn hE17 hE19 underlying22 yaX (yaN (hS.rdr 1 rfl) hx)) (zq (yaz (vs := [(ii ((ge d2 v.toNat).1)), (ii ((ge d2 v.toNat).2.1)), (ii ((ge d2 v.toNat).2.2))]) rfl underlying75 rfl yaX (ydN (hS.rdr 1 rfl) hx (fun q => ycW q))) ?_); refine zn (ybg yaX ?_); intro g3 w7 hN; replace hS : Sep w no O w7 (stl _ 3 (Res.box 75 g3 [(ii 0), (ii 0), (ii 0)])) := hS.new 3 rfl hN; clear hN; refine zb (zo (yaJ (b := g3) (o := 0) (cells := #[(ii ((ge d2 v.toNat).1)), (ii ((ge d2 v.toNat).2.1)), (ii ((ge d2 v.toNat).2.2))]) rfl rfl yaX rfl rfl (yaC (hS.bx 3 rfl) (Nat.le_of_ble_eq_true rfl)) ?_)); intro w8 e1; replace hS := hS.bstn 3 rfl 0 [(ii ((ge d2 v.toNat).1)), (ii ((ge d2 v.toNat).2.1)), (ii ((ge d2 v.toNat).2.2))] e1; clear e1; refine zb (yaa (zs (zq (yao rfl underlying75 rfl yag) (zq (zl underlying3 (Row.cell (hS.bx 3 rfl) (i := 0) rfl)) (zq (yao rfl underlying75 rfl yag) (zq (zl underlying3 (Row.cell (hS.bx 3 rfl) (i := 1) rfl)) (zn (ybw (l := [(0, (ii ((ge d2 v.toNat).1))), (1, (ii ((ge d2 v.toNat).2.1)))]) (cells := [(ii ((ge d2 v.toNat).1)), (ii ((ge d2 v.toNat).2.1))]) (places := [(0, 1), (1, 1)]) (bp2 rfl rfl) underlying94 ybM (by kernel_rfl) rfl ?_)))))))); refine zb (zn (ybg ybM ?_)); intro g4 w9 hN; replace hS : Sep w no O w9 (stl _ 4 (Res.box 94 g4 [(ii 0), (ii 0)])) := hS.new 4 rfl hN; clear hN; refine zb (zo (yaJ (b := g4) (o := 0) (cells := #[(ii ((ge d2 v.toNat).1)), (ii ((ge d2 v.toNat).2.1))]) rfl rfl ybM rfl rfl (yaC (hS.bx 4 rfl) (Nat.le_of_ble_eq_true rfl)) ?_)); intro w10 e1; replace hS := hS.bstn 4 rfl 0 [(ii ((ge d2 v.toNat).1)), (ii ((ge d2 v.toNat).2.1))] e1; clear e1; refine zb (yaa (yaf (yaj (yaf ?_)))); obtain ⟨J3, hJ, h⟩ := h; refine wt_cutB1 (fun E ds w' => J3 ∧ ds = [] ∧ E 1 = (Value.pointer (some (⟨g, 0, none⟩ : Addr))) ∧ E 3 = (Value.pointer (some (⟨g2, 0, none⟩ : Addr))) ∧ E 5 = (Value.pointer (some (⟨g3, 0, none⟩ : Addr))) ∧ E 6 = (Value.pointer (some (⟨g4, 0, none⟩ : Addr))) ∧ E 17 = (Value.slice Ad ld cd) ∧ E 18 = (ii ((d2.length : Nat) : Int)) ∧ E 19 = (ii v) ∧ Sep w no O w' (rl [Res.box 24 g [(ii d), (.slice Ad ld cd)], Res.ro (FP.sl c3 Ad ld cd d2), Res.box 94 g2 [(ii v2), (ii v3)], Res.box 75 g3 [(ii ((ge d2 v.toNat).1)), (ii ((ge d2 v.toNat).2.1)), (ii ((ge d2 v.toNat).2.2))], Res.box 94 g4 [(ii ((ge d2 v.toNat).1)), (ii ((ge d2 v.toNat).2.1))]])) ?_ ?_
      · clear h hS; rintro E ds w11 ⟨h, rfl, hE1, hE3, hE5, hE6, hE17, hE18, hE19, hS⟩; replace h := hJ h; refine zs (zq (yao hE5 underlying75 rfl yag) (zq (zl underlying3 (Row.cell (hS.bx 3 rfl) (i := 0) rfl)) (zq (yao hE5 underlying75 rfl yag) (zq (zl underlying3 (Row.cell (hS.bx 3 rfl) (i := 1) rfl)) (zq zG (zq (zm (.bool (decide (((ge d2 v.toNat).2.1) < ((ge d2 v.toNat).1))))) ?_)))))); by_cases hp2 : ((ge d2 v.toNat).2.1) < ((ge d2 v.toNat).1)
        · replace h := h.1 hp2; exact rl_p (yab rfl (yac rfl (congrArg Value.bool (decide_eq_true hp2))) rfl) rfl (rl_p (yab rfl (yac rfl (congrArg Value.bool (decide_eq_true hp2))) rfl) rfl (rl_p (yab rfl (yac rfl (congrArg Value.bool (decide_eq_true hp2))) rfl) rfl (rl_p (yab rfl (yac rfl (congrArg Value.bool (decide_eq_true hp2))) rfl) rfl (zq (yaw (v := (.bool (true))) (congrArg Value.bool (decide_eq_true hp2)) rfl) (zq (za (.bool (true))) (yaa (yaE rfl (zs (zq (za (ii 9)) (yaa (yai rfl rfl ⟨_, rfl, (hS.sel [] (by decide)), h⟩)))))))))))
        · replace h := h.2 hp2; refine rl_q (yad rfl (yac rfl (congrArg Value.bool (decide_eq_false hp2)))) rfl rfl (yaz (vs := [(ii v2), (ii v3)]) hE3 underlying94 rfl ybM ⟨Row.cell (hS.bx 2 rfl) (i := 0) rfl, Row.cell (hS.bx 2 rfl) (i := 1) rfl, trivial⟩) (rl_q (yad rfl (yac rfl (congrArg Value.bool (decide_eq_false hp2)))) rfl rfl (yaz (vs := [(ii ((ge d2 v.toNat).1)), (ii ((ge d2 v.toNat).2.1))]) hE6 underlying94 rfl ybM ⟨Row.cell (hS.bx 4 rfl) (i := 0) rfl, Row.cell (hS.bx 4 rfl) (i := 1) rfl, trivial⟩) (rl_n (yad rfl (yac rfl (congrArg Value.bool (decide_eq_false hp2)))) rfl rfl rfl (yak rfl (am2 rfl rfl) enter_72 ((ydp h (yaF _)).mono ?_)))); rintro _ w12 ⟨r, rfl, hC, h⟩; replace hS := hS.pur hC.pure; clear hC; refine ⟨_, rfl, ?_⟩; refine zb (rl_q (yad rfl (yac rfl (congrArg Value.bool (decide_eq_false hp2)))) rfl rfl (v_geq rfl rfl) (zq (yap (v := (.bool (decide (0 ≤ r)))) (congrArg Value.bool (decide_eq_false hp2)) rfl) (zq (za (.bool (decide (0 ≤ r)))) (yaa ?_)))); by_cases hp3 : 0 ≤ r
          · replace h := h.1 hp3; exact zc hp3 (zs (zq (za (ii 9)) (yaa (yai rfl rfl ⟨_, rfl, (hS.sel [] (by decide)), h⟩))))
          · replace h := h.2 hp3; refine zd hp3 (yah (yam (zr (zq (yaz (vs := [(ii ((ge d2 v.toNat).1)), (ii ((ge d2 v.toNat).2.1))]) hE6 underlying94 rfl ybM ⟨Row.cell (hS.bx 4 rfl) (i := 0) rfl, Row.cell (hS.bx 4 rfl) (i := 1) rfl, trivial⟩) (zo (yaJ (b := g2) (o := 0) (cells := #[(ii ((ge d2 v.toNat).1)), (ii ((ge d2 v.toNat).2.1))]) hE3 rfl ybM rfl rfl (yaC (hS.bx 2 rfl) (Nat.le_of_ble_eq_true rfl)) ?_)))))); intro w13 e1; replace hS := hS.bstn 2 rfl 0 [(ii ((ge d2 v.toNat).1)), (ii ((ge d2 v.toNat).2.1))] e1; clear e1; refine zb (yaa (yam (zr ?_))); obtain ⟨hi, h⟩ := h; refine zq (ycv hE19 rfl hi) (zq (zm (ii (v + 1))) (yaa ?_)); obtain ⟨mq, hlt, h⟩ := h; exact again mq _ _ _ ⟨_, _, _, h, rfl, hE1, hE3, hE17, hE18, rfl, (hS.sel [0, 1, 2] (by decide))⟩ hlt
      clear hJ; intro j2; refine zr (zq (yao hE1 underlying24 rfl yag) (zq (zl underlying3 (Row.cell (hS.bx 0 rfl) (i := 0) rfl)) (zq (yao rfl underlying75 rfl yag) (zq (zl underlying3 (Row.cell (hS.bx 3 rfl) (i := 0) rfl)) (zn (yak rfl (am2 rfl rfl) yeH ((yca h (yaF _)).mono ?_))))))); rintro _ w14 ⟨r2, rfl, hC, h⟩; replace hS := hS.pur hC.pure; clear hC; refine ⟨_, rfl, ?_⟩; refine zb (zq (ygz rfl) (zq (zm (.bool (!(r2)))) ?_)); by_cases hp4 : r2 = true
      · replace h := h.1 hp4; refine rl_q (yad rfl (yac rfl (congrArg Value.bool (congrArg Bool.not hp4)))) rfl rfl (yao hE1 underlying24 rfl yag) (rl_q (yad rfl (yac rfl (congrArg Value.bool (congrArg Bool.not hp4)))) rfl rfl (zl underlying3 (Row.cell (hS.bx 0 rfl) (i := 0) rfl)) (rl_q (yad rfl (yac rfl (congrArg Value.bool (congrArg Bool.not hp4)))) rfl rfl (yao rfl underlying75 rfl yag) (rl_q (yad rfl (yac rfl (congrArg Value.bool (congrArg Bool.not hp4)))) rfl rfl (zl underlying3 (Row.cell (hS.bx 3 rfl) (i := 1) rfl)) (rl_n (yad rfl (yac rfl (congrArg Value.bool (congrArg Bool.not hp4)))) rfl rfl rfl (yak rfl (am2 rfl rfl) yeH ((yca h (yaF _)).mono ?_)))))); rintro _ w15 ⟨r3, rfl, hC, h⟩; replace hS := hS.pur hC.pure; clear hC; refine ⟨_, rfl, ?_⟩; refine zb (rl_q (yad rfl (yac rfl (congrArg Value.bool (congrArg Bool.not hp4)))) rfl rfl (ygz rfl) (zq (yap (v := (.bool (!(r3)))) (congrArg Value.bool (congrArg Bool.not hp4)) rfl) (zq (zm (.bool (!(r3)))) ?_))); by_cases hp5 : r3 = true
        · replace h := h.1 hp5; refine rl_q (yad rfl (yac rfl (congrArg Value.bool (congrArg Bool.not hp5)))) rfl rfl (yao rfl underlying75 rfl yag) (rl_q (yad rfl (yac rfl (congrArg Value.bool (congrArg Bool.not hp5)))) rfl rfl (zl underlying3 (Row.cell (hS.bx 3 rfl) (i := 2) rfl)) (rl_q (yad rfl (yac rfl (congrArg Value.bool (congrArg Bool.not hp5)))) rfl rfl zL (zq (yap (v := (.bool (decide (((ge d2 v.toNat).2.2) < 1)))) (congrArg Value.bool (congrArg Bool.not hp5)) rfl) (zq (zm (.bool (decide (((ge d2 v.toNat).2.2) < 1)))) ?_)))); by_cases hp6 : ((ge d2 v.toNat).2.2) < 1
          · replace h := h.1 hp6; exact rl_p (yab rfl (yac rfl (congrArg Value.bool (decide_eq_true hp6))) rfl) rfl (rl_p (yab rfl (yac rfl (congrArg Value.bool (decide_eq_true hp6))) rfl) rfl (rl_p (yab rfl (yac rfl (congrArg Value.bool (decide_eq_true hp6))) rfl) rfl (zq (yaw (v := (.bool (true))) (congrArg Value.bool (decide_eq_true hp6)) rfl) (zq (za (.bool (true))) (yaa (yaE rfl (zs (zq (za (ii 2)) (yaa (yai rfl rfl ⟨_, rfl, (hS.sel [] (by decide)), h⟩))))))))))
          · replace h := h.2 hp6; refine rl_q (yad rfl (yac rfl (congrArg Value.bool (decide_eq_false hp6)))) rfl rfl (yao rfl underlying75 rfl yag) (rl_q (yad rfl (yac rfl (congrArg Value.bool (decide_eq_false hp6)))) rfl rfl (zl underlying3 (Row.cell (hS.bx 3 rfl) (i := 2) rfl)) (rl_q (yad rfl (yac rfl (congrArg Value.bool (decide_eq_false hp6)))) rfl rfl zG (zq (yap (v := (.bool (decide (50 < ((ge d2 v.toNat).2.2))))) (congrArg Value.bool (decide_eq_false hp6)) rfl) (zq (za (.bool (decide (50 < ((ge d2 v.toNat).2.2))))) (yaa ?_))))); by_cases hp7 : 50 < ((ge d2 v.toNat).2.2)
            · replace h := h.1 hp7; exact zc hp7 (zs (zq (za (ii 2)) (yaa (yai rfl rfl ⟨_, rfl, (hS.sel [] (by decide)), h⟩))))
            · replace h := h.2 hp7; exact zd hp7 (j2 _ _ _ ⟨h, rfl, hE1, hE3, rfl, rfl, hE17, hE18, hE19, (hS.sel [0, 1, 2, 3, 4] (by decide))⟩)
        · replace h := h.2 hp5; exact rl_p (yab rfl (yac rfl (congrArg Value.bool (congrArg Bool.not (Bool.eq_false_iff.2 hp5)))) rfl) rfl (rl_p (yab rfl (yac rfl (congrArg Value.bool (congrArg Bool.not (Bool.eq_false_iff.2 hp5)))) rfl) rfl (rl_p (yab rfl (yac rfl (congrArg Value.bool (congrArg Bool.not (Bool.eq_false_iff.2 hp5)))) rfl) rfl (zq (yaw (v := (.bool (true))) (congrArg Value.bool (congrArg Bool.not (Bool.eq_false_iff.2 hp5))) rfl) (zq (zm (.bool (true))) (rl_p (yab rfl (yac rfl rfl) rfl) rfl (rl_p (yab rfl (yac rfl rfl) rfl) rfl (rl_p (yab rfl (yac rfl rfl) rfl) rfl (zq (yaw (v := (.bool (true))) rfl rfl) (zq (za (.bool (true))) (yaa (yaE rfl (zs (zq (za (ii 2)) (yaa (yai rfl rfl ⟨_, rfl, (hS.sel [] (by decide)), h⟩)))))))))))))))
      · replace h := h.2 hp4; exact rl_p (yab rfl (yac rfl (congrArg Value.bool (congrArg Bool.not (Bool.eq_false_iff.2 hp4)))) rfl) rfl (rl_p (yab rfl (yac rfl (congrArg Value.bool (congrArg Bool.not (Bool.eq_false_iff.2 hp4)))) rfl) rfl (rl_p (yab rfl (yac rfl (congrArg Value.bool (congrArg Bool.not (Bool.eq_false_iff.2 hp4)))) rfl) rfl (rl_p (yab rfl (yac rfl (congrArg Value.bool (congrArg Bool.not (Bool.eq_false_iff.2 hp4)))) rfl) rfl (rl_p (yab rfl (yac rfl (congrArg Value.bool (congrArg Bool.not (Bool.eq_false_iff.2 hp4)))) rfl) rfl (rl_p (yab rfl (yac rfl (congrArg Value.bool (congrArg Bool.not (Bool.eq_false_iff.2 hp4)))) rfl) rfl (zq (yaw (v := (.bool (true))) (congrArg Value.bool (congrArg Bool.not (Bool.eq_false_iff.2 hp4))) rfl) (zq (zm (.bool (true))) (rl_p (yab rfl (yac rfl rfl) rfl) rfl (rl_p (yab rfl (yac rfl rfl) rfl) rfl (rl_p (yab rfl (yac rfl rfl) rfl) rfl (zq (yaw (v := (.bool (true))) rfl rfl) (zq (zm (.bool (true))) (rl_p (yab rfl (yac rfl rfl) rfl) rfl (rl_p (yab rfl (yac rfl rfl) rfl) rfl (rl_p (yab rfl (yac rfl rfl) rfl) rfl (zq (yaw (v := (.bool (true))) rfl rfl) (zq (za (.bool (true))) (yaa (yaE rfl (zs (zq (za (ii 2)) (yaa (yai rfl rfl ⟨_, rfl, (hS.sel [] (by decide)), h⟩)))))))))))))))))))))))
    · replace h := h.2 hp; exact zd hp (yaL rfl (zs (zq (za (ii 0)) (yaa (yai rfl rfl ⟨_, rfl, (hS.sel [] (by decide)), h⟩)))))
  clear hJ; intro j; refine zr (zq (yao rfl underlying24 rfl yag) (zq (zl underlying3 (Row.cell (hS.bx 1 rfl) (i := 0) rfl)) (zq zL (zq (zm (.bool (decide (d < 1)))) ?_)))); by_cases hp8 : d < 1
  · replace h := h.1 hp8; exact rl_p (yab rfl (yac rfl (congrArg Value.bool (decide_eq_true hp8))) rfl) rfl (rl_p (yab rfl (yac rfl (congrArg Value.bool (decide_eq_true hp8))) rfl) rfl (rl_p (yab rfl (yac rfl (congrArg Value.bool (decide_eq_true hp8))) rfl) rfl (zq (yaw (v := (.bool (true))) (congrArg Value.bool (decide_eq_true hp8)) rfl) (yaa (yaE rfl (zs (zq (za (ii 2)) (yaa (yai rfl rfl ⟨_, rfl, (hS.sel [] (by decide)), h⟩)))))))))
  · replace h := h.2 hp8; refine rl_q (yad rfl (yac rfl (congrArg Value.bool (decide_eq_false hp8)))) rfl rfl (yao rfl underlying24 rfl yag) (rl_q (yad rfl (yac rfl (congrArg Value.bool (decide_eq_false hp8)))) rfl rfl (zl underlying3 (Row.cell (hS.bx 1 rfl) (i := 0) rfl)) (rl_q (yad rfl (yac rfl (congrArg Value.bool (decide_eq_false hp8)))) rfl rfl zG (zq (yap (v := (.bool (decide (12 < d)))) (congrArg Value.bool (decide_eq_false hp8)) rfl) (yaa ?_)))); by_cases hp9 : 12 < d
    · replace h := h.1 hp9; exact zc hp9 (zs (zq (za (ii 2)) (yaa (yai rfl rfl ⟨_, rfl, (hS.sel [] (by decide)), h⟩))))
    · replace h := h.2 hp9; exact zd hp9 (yah (j _ _ _ ⟨h, rfl, rfl, (hS.sel [1, 0] (by decide))⟩))
end Go.Proofs.Ytinoedockljfeaa

/- What the references' pure forms come to: graphs and divisors. -/
namespace Go.Proofs.Ytinoedockljfeaa
open Go Go.Proofs.Try
set_option linter.unusedVariables false
set_option linter.unusedSimpArgs false
theorem yer {n v : Int} {es : List E3} {R : Bool → Prop} (h : R (decide (0 ≤ v ∧ v < n))) : yb2 n es v R := by
  unfold yb2
  refine ⟨fun h1 => ?_, fun h1 => ?_⟩
  · have e : decide (v < n) = decide (0 ≤ v ∧ v < n) := by simp [h1]
    rw [e]; exact h
  · have e : false = decide (0 ≤ v ∧ v < n) := by simp [h1]
    rw [e]; exact h
theorem p_r08_edge {n : Int} {es : List E3} {k : Nat} {R : Int → Prop} (hk : k < es.length) (hl : es.length ≤ 1000000000) (h : R (yey n (pre es k).1 (pre es k).2 (ge es k))) : ycR n es (k : Int) R := by
  unfold ycR
  simp only [Int.toNat_natCast]
  generalize hx : ge es k = x at h ⊢
  refine ⟨by omega, (0 ≤ x.1 ∧ x.1 < n) ∧ (0 ≤ x.2.1 ∧ x.2.1 < n) ∧ 1 ≤ x.2.2 ∧ x.2.2 ≤ 50, fun hJ => ?_, ?_⟩
  · have hed : ∀ a b, yey n a b x = if x.1 ≤ x.2.1 ∧ yc6 a b x.1 x.2.1 < 0 then 0 else 9 := fun a b => by unfold yey; rw [if_pos hJ]
    rw [hed] at h
    refine ⟨fun q => by rw [if_neg (by omega)] at h; exact h, fun q => ⟨fun h0 => ?_, fun h0 => ?_⟩⟩
    · have e1 : ((k : Int) - 1).toNat = k - 1 := by omega
      rw [e1]
      have hp : pre es k = ((ge es (k - 1)).1, (ge es (k - 1)).2.1) := by unfold pre; rw [if_neg (by omega)]
      rw [hp] at h
      have hc := pcmp_lt (ge es (k - 1)).1 (ge es (k - 1)).2.1 x.1 x.2.1
      refine ⟨i64 (by omega), by omega, fun q1 => ?_, fun q1 => ⟨fun q2 => ⟨fun q3 => ?_, fun q3 => ?_⟩, fun q2 => ?_⟩⟩
      · rw [if_neg (fun h => by have := hc.1 h.2; omega)] at h; exact h
      · rw [if_neg (fun h => by have := hc.1 h.2; omega)] at h; exact h
      · rw [if_pos ⟨by omega, hc.2 (by omega)⟩] at h; exact h
      · rw [if_pos ⟨by omega, hc.2 (by omega)⟩] at h; exact h
    · have hp : pre es k = (-1, -1) := by unfold pre; rw [if_pos (by omega)]
      rw [hp, if_pos ⟨by omega, (pcmp_lt _ _ _ _).2 (.inl (by omega))⟩] at h
      exact h
  · have hed : ¬ ((0 ≤ x.1 ∧ x.1 < n) ∧ (0 ≤ x.2.1 ∧ x.2.1 < n) ∧ 1 ≤ x.2.2 ∧ x.2.2 ≤ 50) → R 2 := fun q => by unfold yey at h; rwa [if_neg q] at h
    refine yer ⟨fun h1 => yer ⟨fun h2 => ⟨fun h3 => hed (by omega), fun h3 => ⟨fun h4 => hed (by omega), fun h4 => ?_⟩⟩, fun h2 => hed (by simp at h2; omega)⟩, fun h1 => hed (by simp at h1; omega)⟩
    simp only [decide_eq_true_eq] at h1 h2
    exact ⟨h1, h2, by omega, by omega⟩
theorem ye7 {n : Int} {es : List E3} {R : Int → Prop} (hl : es.length ≤ 1000000000) (h : R (yaZ n es)) : ycc n es R := by
  unfold ycc
  have hout : ¬ (1 ≤ n ∧ n ≤ 12) → R 2 := fun q => by unfold yaZ at h; rwa [if_neg q] at h
  refine ⟨1 ≤ n ∧ n ≤ 12, fun hn => ?_, fun q => hout (by omega), fun q => ⟨fun q2 => hout (by omega), fun q2 => ⟨by omega, by omega⟩⟩⟩
  have hg : yaZ n es = gchk n (-1) (-1) es := by unfold yaZ; rw [if_pos hn]
  rw [hg] at h
  refine ⟨Cnt es.length (fun k => gchk n (-1) (-1) es = gchk n (pre es k).1 (pre es k).2 (es.drop k)), Cnt.start rfl, ?_⟩
  rintro m _ ⟨k, rfl, rfl, hk, hinv⟩
  refine ⟨fun hlt => p_r08_edge (by omega) hl ⟨fun h0 => Cnt.next (by omega) (by omega) ?_, fun h0 => ?_⟩, fun hge => ?_⟩
  · rw [ge_drop (by omega), ye0, if_pos h0] at hinv
    rw [hinv]; simp [pre]
  · rw [ge_drop (by omega), ye0, if_neg h0] at hinv
    rwa [hinv] at h
  · have hk2 : k = es.length := by omega
    rw [hinv, hk2, List.drop_length] at h
    exact h
def yaI (es : List E3) : List (Int × Int) := es.flatMap fun x => List.replicate x.2.2.toNat (x.1, x.2.1)
theorem endsF_take {es : List E3} {k : Nat} (hk : k < es.length) : yaI (es.take (k + 1)) = yaI (es.take k) ++ List.replicate (ge es k).2.2.toNat ((ge es k).1, (ge es k).2.1) := by
  unfold yaI
  rw [List.take_add_one, List.getElem?_eq_getElem hk, ydH hk, List.flatMap_append]
  simp
theorem yc2 (es : List E3) (hE : ∀ x ∈ es, 1 ≤ x.2.2 ∧ x.2.2 ≤ 50) : ((yaI es).length : Int) = (es.map (·.2.2)).sum ∧ (yaI es).length ≤ 50 * es.length := by
  induction es with
  | nil => simp [yaI]
  | cons x t ih =>
    have hx := hE x (by simp)
    have := ih fun y hy => hE y (by simp [hy])
    unfold yaI at this ⊢
    rw [List.flatMap_cons, List.length_append, List.length_replicate, List.map_cons, List.sum_cons, List.length_cons]
    omega
theorem p_r08_Ends {n : Int} {es : List E3} {R : List (Int × Int) → Prop} (hl : es.length ≤ 1000) (hE : ∀ x ∈ es, 1 ≤ x.2.2 ∧ x.2.2 ≤ 50) (h : R (yaI es)) : ybW n es R := by
  unfold ybW
  have hlen : ∀ k, (yaI (es.take k)).length ≤ 50 * k := fun k => by
    have := (yc2 (es.take k) fun x hx => hE x (List.mem_of_mem_take hx)).2
    rw [List.length_take] at this
    omega
  refine ⟨fun m out i => Cnt es.length (fun k => out = yaI (es.take k)) m i, Cnt.start (by simp [yaI]), ?_⟩
  rintro m out _ ⟨k, rfl, rfl, hk, rfl⟩
  refine ⟨fun hlt => ?_, fun hge => ?_⟩
  · have hlt : k < es.length := by omega
    have hmk := hE _ (ge_mem hlt)
    have hl2 := hlen k
    simp only [Int.toNat_natCast]
    refine ⟨fun m2 out2 j => Cnt (ge es k).2.2.toNat (fun i => out2 = yaI (es.take k) ++ List.replicate i ((ge es k).1, (ge es k).2.1)) m2 j, Cnt.start (by simp), ?_⟩
    rintro m2 out2 _ ⟨j, rfl, rfl, hj, rfl⟩
    refine ⟨by omega, fun h1 => ⟨?_, Cnt.next (by omega) (by omega) ?_⟩, fun h1 => Cnt.next hlt (by omega) ?_⟩
    · rw [List.length_append, List.length_replicate]; omega
    · rw [List.append_assoc, List.replicate_succ']
    · have : j = (ge es k).2.2.toNat := by omega
      rw [endsF_take hlt, this]
  · have hk2 : k = es.length := by omega
    rw [hk2, List.take_length]; exact h
theorem p_r08_Size {n : Int} {es : List E3} {R : Int → Prop} (hl : es.length ≤ 1000) (hE : ∀ x ∈ es, 1 ≤ x.2.2 ∧ x.2.2 ≤ 50) (h : R ((es.map (·.2.2)).sum)) : ycj n es R :=
  p_r08_Ends hl hE (by rw [(yc2 es hE).1]; exact h)
theorem p_r08_small {n a b : Int} {es : List E3} {R : Bool → Prop} (h : R (smallF n es a b)) : ycq n es a b R := by
  unfold ycq
  unfold smallF at h
  refine ⟨fun h1 => ?_, fun h1 => ye7 (by omega) ⟨fun h2 => ⟨fun h3 => ?_, fun h3 => ?_⟩, fun h2 => ?_⟩⟩
  · rwa [decide_eq_false (by omega)] at h
  · have hE := gchk_ok es _ _ (ydX h2)
    refine p_r08_Size (by omega) (fun x hx => (hE x hx).2.2.2.2) ?_
    have e : decide ((es.map (·.2.2)).sum ≤ b) = decide (es.length ≤ 40 ∧ (yaZ n es = 0 → n ≤ a ∧ (es.map (·.2.2)).sum ≤ b)) := by
      rw [decide_eq_decide]; constructor
      · intro q; exact ⟨by omega, fun _ => ⟨h3, q⟩⟩
      · intro q; exact (q.2 h2).2
    rw [e]; exact h
  · rwa [decide_eq_false (fun q => h3 (q.2 h2).1)] at h
  · rwa [decide_eq_true ⟨by omega, fun q => absurd q h2⟩] at h
theorem p_r08_Few {n : Int} {es : List E3} {R : Bool → Prop} (h : R (smallF n es 6 9)) : ydI n es R := p_r08_small h
end Go.Proofs.Ytinoedockljfeaa

/- What the references' pure forms come to: connectedness, errors, scripts. -/
namespace Go.Proofs.Ytinoedockljfeaa
open Go Go.Proofs.Try
set_option linter.unusedVariables false
set_option linter.unusedSimpArgs false
section
variable {n : Nat} {es : List E3}
end
section
variable {n q : Int} {es : List E3} {d s : List Int}
end
end Go.Proofs.Ytinoedockljfeaa

/- What the pure forms of the program's and the library's small functions come to. -/
namespace Go.Proofs.Ytinoedockljfeaa
open Go Go.Proofs.Try
set_option linter.unusedVariables false
set_option linter.unusedSimpArgs false
theorem ydq {a b : List Int} {R : Bool → Prop} (hl : a.length ≤ 1000000000) (h : R (decide (a = b))) : yba a b R := by
  unfold yba
  have ht : a = b → R true := fun q => by rwa [decide_eq_true q] at h
  have hf : ¬ a = b → R false := fun q => by rwa [decide_eq_false q] at h
  refine ⟨fun hln => ?_, fun hln => hf fun q => hln (by rw [q])⟩
  refine ⟨Cnt a.length (fun k => ∀ j, j < k → gi a j = gi b j), Cnt.start (fun j hj => absurd hj (by omega)), ?_⟩
  rintro m _ ⟨k, rfl, rfl, hk, hinv⟩
  simp only [Int.toNat_natCast]
  refine ⟨fun hlt => ⟨by omega, by omega, fun h1 => Cnt.next (by omega) (by omega) fun j hj => ?_, fun h1 => hf fun q => h1 (by rw [q])⟩, fun hge => ht (gi_ext (by omega) fun j hj => hinv j (by omega))⟩
  by_cases e : j = k
  · subst e; exact h1
  · exact hinv j (by omega)
theorem ycX {a b : List Int} {R : Bool → Prop} (hl : a.length ≤ 1000000000) (h : R (decide (a = b))) : ybc a b R := by
  unfold ybc
  have ht : a = b → R true := fun q => by rwa [decide_eq_true q] at h
  have hf : ¬ a = b → R false := fun q => by rwa [decide_eq_false q] at h
  refine ⟨fun hln => ?_, fun hln => hf fun q => hln (by rw [q])⟩
  refine ⟨Cnt a.length (fun k => ∀ j, j < k → gi a j = gi b j), Cnt.start (fun j hj => absurd hj (by omega)), ?_⟩
  rintro m _ ⟨k, rfl, rfl, hk, hinv⟩
  simp only [Int.toNat_natCast]
  refine ⟨fun hlt => ⟨by omega, by omega, fun h1 => Cnt.next (by omega) (by omega) fun j hj => ?_, fun h1 => hf fun q => h1 (by rw [q])⟩, fun hge => ht (gi_ext (by omega) fun j hj => hinv j (by omega))⟩
  by_cases e : j = k
  · subst e; exact h1
  · exact hinv j (by omega)
end Go.Proofs.Ytinoedockljfeaa

/- What the library's pure forms come to: search, minimum, order. -/
namespace Go.Proofs.Ytinoedockljfeaa
open Go Go.Proofs.Try
set_option linter.unusedVariables false
set_option linter.unusedSimpArgs false
theorem any_gi {p : Int → Bool} {s : List Int} : s.any p = true ↔ ∃ k, k < s.length ∧ p (gi s k) = true := by
  rw [List.any_eq_true]
  constructor
  · rintro ⟨x, hx, hp⟩
    obtain ⟨k, hk, rfl⟩ := List.getElem_of_mem hx
    exact ⟨k, hk, by rw [ybl hk]; exact hp⟩
  · rintro ⟨k, hk, hp⟩
    exact ⟨_, gi_mem hk, hp⟩
theorem ycY {s : List Int} {F : Int → (Bool → Prop) → Prop} {p : Int → Bool} {R : Int → Prop} (hl : s.length ≤ 1000000000) (hF : ∀ x (R' : Bool → Prop), R' (p x) → F x R') (h1 : ∀ k : Nat, k < s.length → p (gi s k) = true → R (k : Int)) (h2 : (∀ k, k < s.length → p (gi s k) = false) → R (-1)) : yaV s F R := by
  unfold yaV
  refine ⟨Cnt s.length (fun k => ∀ j, j < k → p (gi s j) = false), Cnt.start (fun j hj => absurd hj (by omega)), ?_⟩
  rintro m _ ⟨k, rfl, rfl, hk, hinv⟩
  simp only [Int.toNat_natCast]
  refine ⟨fun hlt => ⟨by omega, hF _ _ ⟨fun h => h1 k (by omega) h, fun h => Cnt.next (by omega) (by omega) fun j hj => ?_⟩⟩, fun hge => h2 fun j hj => hinv j (by omega)⟩
  by_cases e : j = k
  · subst e; simpa using h
  · exact hinv j (by omega)
theorem ycA {s : List Int} {F : Int → (Bool → Prop) → Prop} {p : Int → Bool} {R : Bool → Prop} (hl : s.length ≤ 1000000000) (hF : ∀ x (R' : Bool → Prop), R' (p x) → F x R') (h : R (s.any p)) : yaM s F R := by
  unfold yaM
  refine ycY hl hF (fun k hk hp => ?_) (fun hn => ?_)
  · rw [any_gi.2 ⟨k, hk, hp⟩] at h
    have e : decide (0 ≤ (k : Int)) = true := by simp
    rw [e]; exact h
  · have e : s.any p = false := by
      rw [Bool.eq_false_iff]
      intro q
      obtain ⟨k, hk, hp⟩ := any_gi.1 q
      rw [hn k hk] at hp; cases hp
    rw [e] at h; exact h
end Go.Proofs.Ytinoedockljfeaa

/- What the pure forms of chips, graph and firing come to. -/
namespace Go.Proofs.Ytinoedockljfeaa
open Go Go.Proofs.Try
set_option linter.unusedVariables false
set_option linter.unusedSimpArgs false
theorem ydR {n v : Int} {R : Bool → Prop} (h : R (decide (0 ≤ v ∧ v < n))) : ya4 n v R := by
  unfold ya4
  refine ⟨fun h1 => ?_, fun h1 => ?_⟩
  · have e : decide (v < n) = decide (0 ≤ v ∧ v < n) := by simp [h1]
    rw [e]; exact h
  · have e : false = decide (0 ≤ v ∧ v < n) := by simp [h1]
    rw [e]; exact h
theorem ycH {a b : Int} {R : Int → Prop} (h : R (cmpF a b)) : ya1 a b R := by
  unfold ya1 ybP
  unfold cmpF at h
  refine ⟨fun q => absurd q (by simp), fun _ => ⟨fun q => absurd q (by simp), fun _ => ⟨fun h1 => by rwa [if_pos h1] at h, fun h1 => ?_⟩⟩⟩
  rw [if_neg h1] at h
  refine ⟨fun h2 => by rwa [if_pos h2] at h, fun h2 => by rwa [if_neg h2] at h⟩
theorem p_cmp_Or2 {x y : Int} {R : Int → Prop} (h : R (orF x y)) : yb0 [x, y] R := by
  unfold yb0
  unfold orF at h
  refine ⟨Cnt 2 (fun k => ∀ j, j < k → gi [x, y] j = 0), Cnt.start (fun j hj => absurd hj (by omega)), ?_⟩
  rintro m _ ⟨k, rfl, rfl, hk, hinv⟩
  simp only [Int.toNat_natCast, List.length_cons, List.length_nil]
  have hk3 : k = 0 ∨ k = 1 ∨ k = 2 := by omega
  have g0 : gi [x, y] 0 = x := rfl
  have g1 : gi [x, y] 1 = y := rfl
  have hnx : gi [x, y] k = 0 → ∀ j, j < k + 1 → gi [x, y] j = 0 := fun q j hj => by
    by_cases e : j = k
    · subst e; exact q
    · exact hinv j (by omega)
  refine ⟨fun hlt => ⟨by omega, fun q => Cnt.next (by omega) (by omega) (hnx q), fun q => ?_⟩, fun hge => ?_⟩
  · rcases hk3 with rfl | rfl | rfl
    · rw [g0] at q ⊢; rwa [if_pos q] at h
    · have h0 := hinv 0 (by omega)
      rw [g0] at h0
      rw [g1]; rwa [if_neg (fun q2 => q2 h0)] at h
    · exact absurd hlt (by omega)
  · have : k = 2 := by omega
    subst this
    have h0 := hinv 0 (by omega)
    have h1 := hinv 1 (by omega)
    rw [g0] at h0
    rw [g1] at h1
    rw [if_neg (fun q2 => q2 h0), h1] at h; exact h
theorem p_pair_compare {a b c d : Int} {R : Int → Prop} (h : R (yc6 a b c d)) : ybA a b c d R :=
  ycH (ycH (p_cmp_Or2 h))
theorem yhc {n : Int} {es : List E3} {R : Int → Prop} (hl : es.length ≤ 1000000000) (h : R (yaZ n es)) : yb8 n es R := by
  unfold yb8
  have hout : ¬ (1 ≤ n ∧ n ≤ 12) → R 2 := fun q => by unfold yaZ at h; rwa [if_neg q] at h
  refine ⟨1 ≤ n ∧ n ≤ 12, fun hn => ?_, fun q => hout (by omega), fun q => ⟨fun q2 => hout (by omega), fun q2 => ⟨by omega, by omega⟩⟩⟩
  have hg : yaZ n es = gchk n (-1) (-1) es := by unfold yaZ; rw [if_pos hn]
  rw [hg] at h
  refine ⟨fun m i a b => Cnt es.length (fun k => a = (pre es k).1 ∧ b = (pre es k).2 ∧ gchk n (-1) (-1) es = gchk n (pre es k).1 (pre es k).2 (es.drop k)) m i, Cnt.start ⟨rfl, rfl, rfl⟩, ?_⟩
  rintro m _ _ _ ⟨k, rfl, rfl, hk, rfl, rfl, hinv⟩
  simp only [Int.toNat_natCast]
  refine ⟨fun hlt => ⟨by omega, ?_⟩, fun hge => ?_⟩
  · have hlt : k < es.length := by omega
    rw [ge_drop hlt, ye0] at hinv
    generalize hx : ge es k = x at hinv ⊢
    have hed : R (if yey n (pre es k).1 (pre es k).2 x = 0 then gchk n x.1 x.2.1 (es.drop (k + 1)) else yey n (pre es k).1 (pre es k).2 x) := by rw [← hinv]; exact h
    have h2 : ¬ ((0 ≤ x.1 ∧ x.1 < n) ∧ (0 ≤ x.2.1 ∧ x.2.1 < n) ∧ 1 ≤ x.2.2 ∧ x.2.2 ≤ 50) → R 2 := fun q => by
      unfold yey at hed; rw [if_neg q, if_neg (by omega)] at hed; exact hed
    refine ⟨(0 ≤ x.1 ∧ x.1 < n) ∧ (0 ≤ x.2.1 ∧ x.2.1 < n) ∧ 1 ≤ x.2.2 ∧ x.2.2 ≤ 50, fun hJ => ?_, ydR ⟨fun q1 => ydR ⟨fun q2 => ⟨fun q3 => h2 (by omega), fun q3 => ⟨fun q4 => h2 (by omega), fun q4 => ?_⟩⟩, fun q2 => h2 (by simp at q2; omega)⟩, fun q1 => h2 (by simp at q1; omega)⟩⟩
    · have he : yey n (pre es k).1 (pre es k).2 x = if x.1 ≤ x.2.1 ∧ yc6 (pre es k).1 (pre es k).2 x.1 x.2.1 < 0 then 0 else 9 := by unfold yey; rw [if_pos hJ]
      rw [he] at hed hinv
      refine ⟨fun q => ?_, fun q => p_pair_compare ⟨fun q2 => ?_, fun q2 => Cnt.next hlt (by omega) ⟨?_, ?_, ?_⟩⟩⟩
      · rw [if_neg (show ¬ (x.1 ≤ x.2.1 ∧ _) by omega), if_neg (by omega)] at hed; exact hed
      · rw [if_neg (show ¬ (x.1 ≤ x.2.1 ∧ _) by omega), if_neg (by omega)] at hed; exact hed
      · simp [pre, hx]
      · simp [pre, hx]
      · have hc : x.1 ≤ x.2.1 ∧ yc6 (pre es k).1 (pre es k).2 x.1 x.2.1 < 0 := ⟨by omega, by omega⟩
        rw [if_pos hc, if_pos rfl] at hinv
        rw [hinv]
        simp [pre, hx]
    · simp only [decide_eq_true_eq] at q1 q2
      exact ⟨q1, q2, by omega, by omega⟩
  · have hk2 : k = es.length := by omega
    rw [hinv, hk2, List.drop_length] at h
    exact h
def e1 (x : E3) (s : Nat → Int) (v : Nat) : Int := (if (v : Int) = x.1 then x.2.2 * (s x.1.toNat - s x.2.1.toNat) else 0) - (if (v : Int) = x.2.1 then x.2.2 * (s x.1.toNat - s x.2.1.toNat) else 0)
section
variable {n : Nat} {es : List E3} {d s : List Int}
end
end Go.Proofs.Ytinoedockljfeaa

/- A graph is looked through whatever its length: a right one has few edges. -/
namespace Go.Proofs.Ytinoedockljfeaa
open Go Go.Proofs.Try
set_option linter.unusedVariables false
set_option linter.unusedSimpArgs false
end Go.Proofs.Ytinoedockljfeaa
