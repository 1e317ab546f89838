/- Texts laid together: PFa_3, TabT, PFc, PFd, PFe, Mk, Fe, Gn, Fg, Fh. -/
import Derived.Test.YtdbpajnjhgocoaaK5
/- Pure forms of functions, made by program (pf.py), each with the proof that the code does so. -/
namespace Go.Proofs.Ytdbpajnjhgocoaa
open Go Go.RowKit Go.Shelf Go.Proofs.Try
set_option linter.unusedVariables false
set_option maxRecDepth 100000
set_option maxHeartbeats 8000000
def ycf (kind : Int) (sizes : List Int) (R : Int → Int → Prop) : Prop :=
ybl kind sizes (fun r r2 r3 =>
((r3 = 0 →
ycu r r2 (fun r4 r5 =>
R r4 r5)) ∧
(¬ (r3 = 0) →
R 0 r3)))
theorem yfO {O : Nat → Prop} {w : World} {kind sizes Asizes lsizes csizes} {R : Int → Int → Prop} (h : ycf kind sizes R) (hO : ∀ k, O k → k < w.heap.size) (hA0 : (FP.sl cI Asizes lsizes csizes sizes).P O w) :
    Calls Try.prog 16 #[(ii kind), (.slice Asizes lsizes csizes)] w fun e w' => ∃ r6 r7, e = .returned (.tuple #[(ii r6), (ii r7)]) ∧ Sep w no O w' (rl []) ∧ R r6 r7 := by
  unfold ycf at h; have hS : Sep w no O w (rl [Res.ro (FP.sl cI Asizes lsizes csizes sizes)]) := Sep.startl hO [(FP.sl cI Asizes lsizes csizes sizes)] ⟨hA0, trivial⟩; refine yay (l := [(ii kind), (.slice Asizes lsizes csizes)]) func16 rfl ntmps16 (Nat.le_of_ble_eq_true rfl) (zs (zq (za (ii 0)) (zq (za (ii 0)) (yaa (zs (zq (zm (ii kind)) (zq (zm (.slice Asizes lsizes csizes)) (zn (yap rfl (am2 rfl rfl) yfZ ((ycH h (yaM _) (hS.rdr 0 rfl)).mono ?_)))))))))); rintro _ w2 ⟨r, r2, r3, Ar, lr, cr, rfl, hC, h⟩; replace hS := hS.call1 (hC.widen (ybt (yaB (fP (fI .i64) (fP (fI .i64) (fI .i64))) _ _ _ _ _) ybu) hS.blt) 1 0 rfl; clear hC; refine ⟨_, rfl, ?_⟩; refine zb (zq (zm (.tuple #[(.agg #[(ii r), (.slice Ar lr cr)]), (ii r3)])) (zq (zx (.agg #[(ii r), (.slice Ar lr cr)])) (zq (zx (ii r3)) (zn (yaH yal ?_))))); intro g w3 hN; replace hS : Sep w no O w3 (stl _ 2 (Res.box 31 g [(ii 0), (.slice none 0 0)])) := hS.new 2 rfl hN; clear hN; refine zb (zo (yaj (b := g) (o := 0) (cells := #[(ii r), (.slice Ar lr cr)]) rfl rfl yal rfl rfl (yah (hS.bx 2 rfl) (Nat.le_of_ble_eq_true rfl)) ?_)); intro w4 e1; replace hS := hS.bstn 2 rfl 0 [(ii r), (.slice Ar lr cr)] e1; clear e1; refine zb (zq (za (ii r3)) (yaa (yag (zs (zq (zm (ii r3)) (zq zN (yaa ?_))))))); by_cases hp : r3 = 0
  · replace h := h.1 hp; refine ze hp (yak (zs (zq (yaY (vs := [(ii r), (.slice Ar lr cr)]) rfl underlying31 rfl yal ⟨Row.cell (hS.bx 2 rfl) (i := 0) rfl, Row.cell (hS.bx 2 rfl) (i := 1) rfl, trivial⟩) (zn (yap rfl (am1 rfl) enter_36 ((yf6 h (yaM _) (hS.rdo 1 rfl)).mono ?_)))))); rintro _ w5 ⟨r4, r5, rfl, hC, h⟩; replace hS := hS.pur hC.pure; clear hC; refine ⟨_, rfl, ?_⟩; exact zb (zq (zx (ii r4)) (zq (zx (ii r5)) (zq (za (ii r4)) (zq (za (ii r5)) (yaa (yaW rfl rfl rfl ⟨_, _, rfl, (hS.sel [] (by decide)), h⟩))))))
  · replace h := h.2 hp; exact zf hp (zs (zq (zm (ii r3)) (zq (za (ii 0)) (zq (za (ii r3)) (yaa (yaW rfl rfl rfl ⟨_, _, rfl, (hS.sel [] (by decide)), h⟩))))))
def ydL (a : Int) (a2 : List E3) (b : Int) (b2 : List E3) (R : Bool → Prop) : Prop :=
(∃ J2 : Prop, (J2 → (∃ I2 : Nat → Int → Prop, (∃ m0, I2 m0 0) ∧ ∀ m2 i, I2 m2 i → 
((i < ((a2.length : Nat) : Int) →
((0 ≤ i ∧ i < ((a2.length : Nat) : Int)) ∧
((0 ≤ i ∧ i < ((b2.length : Nat) : Int)) ∧
(([(ge a2 i.toNat).1, (ge a2 i.toNat).2.1, (ge a2 i.toNat).2.2] = [(ge b2 i.toNat).1, (ge b2 i.toNat).2.1, (ge b2 i.toNat).2.2] →
(In64 (i + 1) ∧
∃ m3, m3 < m2 ∧ I2 m3 (i + 1))) ∧
(¬ ([(ge a2 i.toNat).1, (ge a2 i.toNat).2.1, (ge a2 i.toNat).2.2] = [(ge b2 i.toNat).1, (ge b2 i.toNat).2.1, (ge b2 i.toNat).2.2]) →
R false))))) ∧
(¬ (i < ((a2.length : Nat) : Int)) →
R true)))) ∧
((a = b →
((((a2.length : Nat) : Int) = ((b2.length : Nat) : Int) →
J2) ∧
(¬ (((a2.length : Nat) : Int) = ((b2.length : Nat) : Int)) →
R false))) ∧
(¬ (a = b) →
R false)))
theorem yh3 {O : Nat → Prop} {w : World} {a a2 b b2 Aa la ca Ab lb cb} {R : Bool → Prop} (h : ydL a a2 b b2 R) (hO : ∀ k, O k → k < w.heap.size) (hA0 : (FP.sl c3 Aa la ca a2).P O w) (hA1 : (FP.sl c3 Ab lb cb b2).P O w) :
    Calls Try.prog 15 #[(.agg #[(ii a), (.slice Aa la ca)]), (.agg #[(ii b), (.slice Ab lb cb)])] w fun e w' => ∃ r, e = .returned (.bool (r)) ∧ Sep w no O w' (rl []) ∧ R r := by
  unfold ydL at h; have hS : Sep w no O w (rl [Res.ro (FP.sl c3 Aa la ca a2), Res.ro (FP.sl c3 Ab lb cb b2)]) := Sep.startl hO [(FP.sl c3 Aa la ca a2), (FP.sl c3 Ab lb cb b2)] ⟨hA0, hA1, trivial⟩; refine yay (l := [(.agg #[(ii a), (.slice Aa la ca)]), (.agg #[(ii b), (.slice Ab lb cb)])]) func15 rfl ntmps15 (Nat.le_of_ble_eq_true rfl) (zs (zn (yec (v := (.agg #[(ii a), (.slice Aa la ca)])) rfl ?_))); intro g w2 hN; replace hS : Sep w no O w2 (stl _ 2 (Res.box 31 g [(ii a), (.slice Aa la ca)])) := hS.new 2 rfl hN; clear hN; refine zb (zn (yec (v := (.agg #[(ii b), (.slice Ab lb cb)])) rfl ?_)); intro g2 w3 hN; replace hS : Sep w no O w3 (stl _ 3 (Res.box 31 g2 [(ii b), (.slice Ab lb cb)])) := hS.new 3 rfl hN; clear hN; refine zb (zq (za (.bool (false))) (yaa (yag (yag ?_)))); obtain ⟨J2, hJ, h⟩ := h; refine ycE (fun E ds w' => J2 ∧ ds = [] ∧ E 2 = (Value.pointer (some (⟨g, 0, none⟩ : Addr))) ∧ E 3 = (Value.pointer (some (⟨g2, 0, none⟩ : Addr))) ∧ Sep w no O w' (rl [Res.box 31 g [(ii a), (.slice Aa la ca)], Res.ro (FP.sl c3 Aa la ca a2), Res.box 31 g2 [(ii b), (.slice Ab lb cb)], Res.ro (FP.sl c3 Ab lb cb b2)])) ?_ ?_
  · clear h hS; rintro E ds w4 ⟨h, rfl, hE2, hE3, hS⟩; replace h := hJ h; refine yag (zs (zq (za (ii 0)) (yaa (yam ?_)))); obtain ⟨I2, ⟨m0, h0⟩, hr⟩ := h; refine yaL (fun m E ds w' => ∃ i, I2 m i ∧ ds = [] ∧ E 2 = (Value.pointer (some (⟨g, 0, none⟩ : Addr))) ∧ E 3 = (Value.pointer (some (⟨g2, 0, none⟩ : Addr))) ∧ E 5 = (ii i) ∧ Sep w no O w' (rl [Res.box 31 g [(ii a), (.slice Aa la ca)], Res.ro (FP.sl c3 Aa la ca a2), Res.box 31 g2 [(ii b), (.slice Ab lb cb)], Res.ro (FP.sl c3 Ab lb cb b2)])) m0 ⟨_, h0, rfl, hE2, hE3, rfl, (hS.sel [0, 1, 2, 3] (by decide))⟩ ?_; clear h0 hS; rintro m2 E ds w5 ⟨i, h, rfl, hE2, hE3, hE5, hS⟩ again; replace h := hr m2 i h; clear hr; refine yag (zs (zq (yae hE5) (zq (yao hE2 underlying31 rfl ybW) (zq (zl underlying29 (Row.cell (hS.bx 0 rfl) (i := 1) rfl)) (zq (ybp (n := a2.length) rfl underlying29 (ybi (hS.rdr 1 rfl))) (zq zL (yaa ?_))))))); by_cases hp : i < ((a2.length : Nat) : Int)
    · replace h := h.1 hp; refine zc hp (yak (yag (yam (yag (ya6 [0, 1, 2, 3, 4, 5, 6, 7, 8, 9, 10] st0 yaS (by kernel_rfl) (by kernel_rfl) ?_))))); replace hS := hS.drew; refine zp (yao hE2 underlying31 rfl ybW) (zp (zl underlying29 (Row.cell (hS.bx 0 rfl) (i := 1) rfl)) (zp (yae hE5) ?_)); obtain ⟨hx, h⟩ := h; refine zp (zi underlying29 ybA (yaF (hS.rdr 1 rfl) hx)) (zp (yaY (vs := [(ii ((ge a2 i.toNat).1)), (ii ((ge a2 i.toNat).2.1)), (ii ((ge a2 i.toNat).2.2))]) rfl underlying75 rfl ybA (rd_fs (hS.rdr 1 rfl) hx (fun q => yev q))) ?_); refine zp (yao hE3 underlying31 rfl ybW) (zp (zl underlying29 (Row.cell (hS.bx 2 rfl) (i := 1) rfl)) (zp (yae hE5) ?_)); obtain ⟨hx2, h⟩ := h; refine zp (zi underlying29 ybA (yaF (hS.rdr 3 rfl) hx2)) (zp (yaY (vs := [(ii ((ge b2 i.toNat).1)), (ii ((ge b2 i.toNat).2.1)), (ii ((ge b2 i.toNat).2.2))]) rfl underlying75 rfl ybA (rd_fs (hS.rdr 3 rfl) hx2 (fun q => yev q))) ?_); refine zp (v_neqA (EqI.struct underlying75 Try.eqGuardType75 Try.stoodInHeld75 (by kernel_rfl) rfl) [(ge a2 i.toNat).1, (ge a2 i.toNat).2.1, (ge a2 i.toNat).2.2] [(ge b2 i.toNat).1, (ge b2 i.toNat).2.1, (ge b2 i.toNat).2.2] rfl rfl rfl rfl) (ybk ?_); by_cases hp2 : [(ge a2 i.toNat).1, (ge a2 i.toNat).2.1, (ge a2 i.toNat).2.2] = [(ge b2 i.toNat).1, (ge b2 i.toNat).2.1, (ge b2 i.toNat).2.2]
      · replace h := h.1 hp2; refine ze hp2 (yak (yan (zr (zq (yae hE5) ?_)))); obtain ⟨hi, h⟩ := h; refine zq (zA hi) (zq (za (ii (i + 1))) (yaa ?_)); obtain ⟨mq, hlt, h⟩ := h; exact again mq _ _ _ ⟨_, h, rfl, hE2, hE3, rfl, (hS.sel [0, 1, 2, 3] (by decide))⟩ hlt
      · replace h := h.2 hp2; exact zf hp2 (zs (zq (za (.bool (false))) (yaa (yas rfl rfl ⟨_, rfl, (hS.sel [] (by decide)), h⟩))))
    · replace h := h.2 hp; exact zd hp (yaJ rfl (zs (zq (za (.bool (true))) (yaa (yas rfl rfl ⟨_, rfl, (hS.sel [] (by decide)), h⟩)))))
  clear hJ; intro j; refine zr (zq (yao rfl underlying31 rfl yai) (zq (zl underlying3 (Row.cell (hS.bx 2 rfl) (i := 0) rfl)) (zq (yao rfl underlying31 rfl yai) (zq (zl underlying3 (Row.cell (hS.bx 3 rfl) (i := 0) rfl)) (zq zN (zq (zm (.bool (!(decide (a = b))))) ?_)))))); by_cases hp3 : a = b
  · replace h := h.1 hp3; refine rl_q (yac rfl (yad rfl (congrArg Value.bool (congrArg Bool.not (decide_eq_true hp3))))) rfl rfl (yao rfl underlying31 rfl ybW) (rl_q (yac rfl (yad rfl (congrArg Value.bool (congrArg Bool.not (decide_eq_true hp3))))) rfl rfl (zl underlying29 (Row.cell (hS.bx 2 rfl) (i := 1) rfl)) (rl_q (yac rfl (yad rfl (congrArg Value.bool (congrArg Bool.not (decide_eq_true hp3))))) rfl rfl (ybp (n := a2.length) rfl underlying29 (ybi (hS.rdr 0 rfl))) (rl_q (yac rfl (yad rfl (congrArg Value.bool (congrArg Bool.not (decide_eq_true hp3))))) rfl rfl (yao rfl underlying31 rfl ybW) (rl_q (yac rfl (yad rfl (congrArg Value.bool (congrArg Bool.not (decide_eq_true hp3))))) rfl rfl (zl underlying29 (Row.cell (hS.bx 3 rfl) (i := 1) rfl)) (rl_q (yac rfl (yad rfl (congrArg Value.bool (congrArg Bool.not (decide_eq_true hp3))))) rfl rfl (ybp (n := b2.length) rfl underlying29 (ybi (hS.rdr 1 rfl))) (rl_q (yac rfl (yad rfl (congrArg Value.bool (congrArg Bool.not (decide_eq_true hp3))))) rfl rfl zN (zq (yav (v := (.bool (!(decide (((a2.length : Nat) : Int) = ((b2.length : Nat) : Int)))))) (congrArg Value.bool (congrArg Bool.not (decide_eq_true hp3))) rfl) (yaa ?_)))))))); by_cases hp4 : ((a2.length : Nat) : Int) = ((b2.length : Nat) : Int)
    · replace h := h.1 hp4; exact ze hp4 (yak (j _ _ _ ⟨h, rfl, rfl, rfl, (hS.sel [2, 0, 3, 1] (by decide))⟩))
    · replace h := h.2 hp4; exact zf hp4 (zs (zq (za (.bool (false))) (yaa (yas rfl rfl ⟨_, rfl, (hS.sel [] (by decide)), h⟩))))
  · replace h := h.2 hp3; exact rl_p (yab rfl (yad rfl (congrArg Value.bool (congrArg Bool.not (decide_eq_false hp3)))) rfl) rfl (rl_p (yab rfl (yad rfl (congrArg Value.bool (congrArg Bool.not (decide_eq_false hp3)))) rfl) rfl (rl_p (yab rfl (yad rfl (congrArg Value.bool (congrArg Bool.not (decide_eq_false hp3)))) rfl) rfl (rl_p (yab rfl (yad rfl (congrArg Value.bool (congrArg Bool.not (decide_eq_false hp3)))) rfl) rfl (rl_p (yab rfl (yad rfl (congrArg Value.bool (congrArg Bool.not (decide_eq_false hp3)))) rfl) rfl (rl_p (yab rfl (yad rfl (congrArg Value.bool (congrArg Bool.not (decide_eq_false hp3)))) rfl) rfl (rl_p (yab rfl (yad rfl (congrArg Value.bool (congrArg Bool.not (decide_eq_false hp3)))) rfl) rfl (zq (yau (v := (.bool (true))) (congrArg Value.bool (congrArg Bool.not (decide_eq_false hp3))) rfl) (yaa (yaz rfl (zs (zq (za (.bool (false))) (yaa (yas rfl rfl ⟨_, rfl, (hS.sel [] (by decide)), h⟩)))))))))))))
def ycg (a : List (Int × Int)) (b : List (Int × Int)) (R : Bool → Prop) : Prop :=
((((a.length : Nat) : Int) = ((b.length : Nat) : Int) →
(∃ I2 : Nat → Int → Prop, (∃ m0, I2 m0 0) ∧ ∀ m2 i, I2 m2 i → 
((i < ((a.length : Nat) : Int) →
((0 ≤ i ∧ i < ((a.length : Nat) : Int)) ∧
((0 ≤ i ∧ i < ((b.length : Nat) : Int)) ∧
(([(gx a i.toNat).1, (gx a i.toNat).2] = [(gx b i.toNat).1, (gx b i.toNat).2] →
(In64 (i + 1) ∧
∃ m3, m3 < m2 ∧ I2 m3 (i + 1))) ∧
(¬ ([(gx a i.toNat).1, (gx a i.toNat).2] = [(gx b i.toNat).1, (gx b i.toNat).2]) →
R false))))) ∧
(¬ (i < ((a.length : Nat) : Int)) →
R true)))) ∧
(¬ (((a.length : Nat) : Int) = ((b.length : Nat) : Int)) →
R false))
theorem yd1 {O : Nat → Prop} {w : World} {a b Aa la ca Ab lb cb} {R : Bool → Prop} (h : ycg a b R) (hO : ∀ k, O k → k < w.heap.size) (hA0 : (FP.sl c2 Aa la ca a).P O w) (hA1 : (FP.sl c2 Ab lb cb b).P O w) :
    Calls Try.prog 30 #[(.slice Aa la ca), (.slice Ab lb cb)] w fun e w' => ∃ r, e = .returned (.bool (r)) ∧ Sep w no O w' (rl []) ∧ R r := by
  unfold ycg at h; have hS : Sep w no O w (rl [Res.ro (FP.sl c2 Aa la ca a), Res.ro (FP.sl c2 Ab lb cb b)]) := Sep.startl hO [(FP.sl c2 Aa la ca a), (FP.sl c2 Ab lb cb b)] ⟨hA0, hA1, trivial⟩; refine yay (l := [(.slice Aa la ca), (.slice Ab lb cb)]) func30 rfl ntmps30 (Nat.le_of_ble_eq_true rfl) (zs (zq (za (.bool (false))) (yaa (yag (zs (zq (zm (.slice Aa la ca)) (zq (ybp (n := a.length) rfl underlying57 (ybi (hS.rdr 0 rfl))) (zq (zm (.slice Ab lb cb)) (zq (ybp (n := b.length) rfl underlying57 (ybi (hS.rdr 1 rfl))) (zq zN (yaa ?_))))))))))); by_cases hp : ((a.length : Nat) : Int) = ((b.length : Nat) : Int)
  · replace h := h.1 hp; refine ze hp (yak (yag (zs (zq (za (ii 0)) (yaa (yam ?_)))))); obtain ⟨I2, ⟨m0, h0⟩, hr⟩ := h; refine yaL (fun m E ds w' => ∃ i, I2 m i ∧ ds = [] ∧ E 0 = (Value.slice Aa la ca) ∧ E 1 = (Value.slice Ab lb cb) ∧ E 5 = (ii i) ∧ Sep w no O w' (rl [Res.ro (FP.sl c2 Aa la ca a), Res.ro (FP.sl c2 Ab lb cb b)])) m0 ⟨_, h0, rfl, rfl, rfl, rfl, (hS.sel [0, 1] (by decide))⟩ ?_; clear h0 hS; rintro m2 E ds w2 ⟨i, h, rfl, hE0, hE1, hE5, hS⟩ again; replace h := hr m2 i h; clear hr; refine yag (zs (zq (yae hE5) (zq (yae hE0) (zq (ybp (n := a.length) rfl underlying57 (ybi (hS.rdr 0 rfl))) (zq zL (yaa ?_)))))); by_cases hp2 : i < ((a.length : Nat) : Int)
    · replace h := h.1 hp2; refine zc hp2 (yak (yag (yam (yag (ya6 [0, 1, 2, 3, 4, 5, 6, 7, 8] st0 yaS (by kernel_rfl) (by kernel_rfl) ?_))))); replace hS := hS.drew; refine zp (yae hE0) (zp (yae hE5) ?_); obtain ⟨hx, h⟩ := h; refine zp (zi underlying57 yaA (yaF (hS.rdr 0 rfl) hx)) (zp (yaY (vs := [(ii ((gx a i.toNat).1)), (ii ((gx a i.toNat).2))]) rfl underlying59 rfl yaA (rd_fs (hS.rdr 0 rfl) hx (fun q => ydC q))) ?_); refine zp (yae hE1) (zp (yae hE5) ?_); obtain ⟨hx2, h⟩ := h; refine zp (zi underlying57 yaA (yaF (hS.rdr 1 rfl) hx2)) (zp (yaY (vs := [(ii ((gx b i.toNat).1)), (ii ((gx b i.toNat).2))]) rfl underlying59 rfl yaA (rd_fs (hS.rdr 1 rfl) hx2 (fun q => ydC q))) ?_); refine zp (v_neqA (EqI.array underlying59 Try.eqGuardType59 (by kernel_rfl) (by kernel_rfl)) [(gx a i.toNat).1, (gx a i.toNat).2] [(gx b i.toNat).1, (gx b i.toNat).2] rfl rfl rfl rfl) (ybk ?_); by_cases hp3 : [(gx a i.toNat).1, (gx a i.toNat).2] = [(gx b i.toNat).1, (gx b i.toNat).2]
      · replace h := h.1 hp3; refine ze hp3 (yak (yan (zr (zq (yae hE5) ?_)))); obtain ⟨hi, h⟩ := h; refine zq (zA hi) (zq (za (ii (i + 1))) (yaa ?_)); obtain ⟨mq, hlt, h⟩ := h; exact again mq _ _ _ ⟨_, h, rfl, hE0, hE1, rfl, (hS.sel [0, 1] (by decide))⟩ hlt
      · replace h := h.2 hp3; exact zf hp3 (zs (zq (za (.bool (false))) (yaa (yas rfl rfl ⟨_, rfl, (hS.sel [] (by decide)), h⟩))))
    · replace h := h.2 hp2; exact zd hp2 (yaJ rfl (zs (zq (za (.bool (true))) (yaa (yas rfl rfl ⟨_, rfl, (hS.sel [] (by decide)), h⟩)))))
  · replace h := h.2 hp; exact zf hp (zs (zq (za (.bool (false))) (yaa (yas rfl rfl ⟨_, rfl, (hS.sel [] (by decide)), h⟩))))
def yc5 (kind : Int) (R : Int → Int → Prop) : Prop :=
(∃ J2 : Prop, (J2 → ((kind = 8 →
R 3 0) ∧
(¬ (kind = 8) →
((6 ≤ kind →
R 2 0) ∧
(¬ (6 ≤ kind) →
R 1 0))))) ∧
((kind < 0 →
R 0 1) ∧
(¬ (kind < 0) →
((8 < kind →
R 0 1) ∧
(¬ (8 < kind) →
J2)))))
theorem ye0 {O : Nat → Prop} {w : World} {kind} {R : Int → Int → Prop} (h : yc5 kind R) (hO : ∀ k, O k → k < w.heap.size) :
    Calls Try.prog 12 #[(ii kind)] w fun e w' => ∃ r r2, e = .returned (.tuple #[(ii r), (ii r2)]) ∧ Sep w no O w' (rl []) ∧ R r r2 := by
  unfold yc5 at h; have hS : Sep w no O w (rl []) := Sep.start w hO; refine yay (l := [(ii kind)]) func12 rfl ntmps12 (Nat.le_of_ble_eq_true rfl) (zs (zq (za (ii 0)) (zq (za (ii 0)) (yaa (yag (yag ?_)))))); obtain ⟨J2, hJ, h⟩ := h; refine ycE (fun E ds w' => J2 ∧ ds = [] ∧ E 0 = (ii kind) ∧ Sep w no O w' (rl [])) ?_ ?_
  · clear h hS; rintro E ds w2 ⟨h, rfl, hE0, hS⟩; replace h := hJ h; refine yag (zs (zq (yae hE0) (zq zE (yaa ?_)))); by_cases hp : kind = 8
    · replace h := h.1 hp; exact zc hp (zs (zq (za (ii 3)) (zq (za (ii 0)) (yaa (yaW rfl rfl rfl ⟨_, _, rfl, (hS.sel [] (by decide)), h⟩)))))
    · replace h := h.2 hp; refine zd hp (yak (yag (zs (zq (yae hE0) (zq (v_geq rfl rfl) (yaa ?_)))))); by_cases hp2 : 6 ≤ kind
      · replace h := h.1 hp2; exact zc hp2 (zs (zq (za (ii 2)) (zq (za (ii 0)) (yaa (yaW rfl rfl rfl ⟨_, _, rfl, (hS.sel [] (by decide)), h⟩)))))
      · replace h := h.2 hp2; exact zd hp2 (yak (zs (zq (za (ii 1)) (zq (za (ii 0)) (yaa (yaW rfl rfl rfl ⟨_, _, rfl, (hS.sel [] (by decide)), h⟩))))))
  clear hJ; intro j; refine zr (zq (zm (ii kind)) (zq zL (zq (zm (.bool (decide (kind < 0)))) ?_))); by_cases hp3 : kind < 0
  · replace h := h.1 hp3; exact rl_p (yab rfl (yad rfl (congrArg Value.bool (decide_eq_true hp3))) rfl) rfl (rl_p (yab rfl (yad rfl (congrArg Value.bool (decide_eq_true hp3))) rfl) rfl (zq (yau (v := (.bool (true))) (congrArg Value.bool (decide_eq_true hp3)) rfl) (yaa (yaz rfl (zs (zq (za (ii 0)) (zq (za (ii 1)) (yaa (yaW rfl rfl rfl ⟨_, _, rfl, (hS.sel [] (by decide)), h⟩)))))))))
  · replace h := h.2 hp3; refine rl_q (yac rfl (yad rfl (congrArg Value.bool (decide_eq_false hp3)))) rfl rfl (zm (ii kind)) (rl_q (yac rfl (yad rfl (congrArg Value.bool (decide_eq_false hp3)))) rfl rfl zG (zq (yav (v := (.bool (decide (8 < kind)))) (congrArg Value.bool (decide_eq_false hp3)) rfl) (yaa ?_))); by_cases hp4 : 8 < kind
    · replace h := h.1 hp4; exact zc hp4 (zs (zq (za (ii 0)) (zq (za (ii 1)) (yaa (yaW rfl rfl rfl ⟨_, _, rfl, (hS.sel [] (by decide)), h⟩)))))
    · replace h := h.2 hp4; exact zd hp4 (yak (j _ _ _ ⟨h, rfl, rfl, (hS.sel [] (by decide))⟩))
def yce (d : Int) (i : List Int) (R : Int → Prop) : Prop :=
((d = 4 →
((0 ≤ (0 : Int) ∧ (0 : Int) < ((i.length : Nat) : Int)) ∧
((50 < (gi i (0 : Int).toNat) →
R 13) ∧
(¬ (50 < (gi i (0 : Int).toNat)) →
R 2)))) ∧
(¬ (d = 4) →
(∃ I2 : Nat → Int → Prop, (∃ m0, I2 m0 0) ∧ ∀ m2 v, I2 m2 v → 
((v < ((i.length : Nat) : Int) →
((0 ≤ v ∧ v < ((i.length : Nat) : Int)) ∧
((13 < (gi i v.toNat) →
R 13) ∧
(¬ (13 < (gi i v.toNat)) →
(In64 (v + 1) ∧
∃ m3, m3 < m2 ∧ I2 m3 (v + 1)))))) ∧
(¬ (v < ((i.length : Nat) : Int)) →
(∃ J2 : Bool → Prop, (∀ (v2 : Bool), J2 v2 → ((v2 = true →
((0 ≤ (0 : Int) ∧ (0 : Int) < ((i.length : Nat) : Int)) ∧
(In64 ((gi i (0 : Int).toNat) + 1) ∧
R ((gi i (0 : Int).toNat) + 1)))) ∧
(¬ (v2 = true) →
((d = 6 →
((0 ≤ (0 : Int) ∧ (0 : Int) < ((i.length : Nat) : Int)) ∧
((0 ≤ (1 : Int) ∧ (1 : Int) < ((i.length : Nat) : Int)) ∧
(In64 ((gi i (0 : Int).toNat) + (gi i (1 : Int).toNat)) ∧
R ((gi i (0 : Int).toNat) + (gi i (1 : Int).toNat)))))) ∧
(¬ (d = 6) →
((d = 7 →
((0 ≤ (0 : Int) ∧ (0 : Int) < ((i.length : Nat) : Int)) ∧
((0 ≤ (1 : Int) ∧ (1 : Int) < ((i.length : Nat) : Int)) ∧
(In64 ((gi i (0 : Int).toNat) * (gi i (1 : Int).toNat)) ∧
R ((gi i (0 : Int).toNat) * (gi i (1 : Int).toNat)))))) ∧
(¬ (d = 7) →
((d = 8 →
((0 ≤ (0 : Int) ∧ (0 : Int) < ((i.length : Nat) : Int)) ∧
((0 ≤ (1 : Int) ∧ (1 : Int) < ((i.length : Nat) : Int)) ∧
(In64 ((gi i (0 : Int).toNat) + (gi i (1 : Int).toNat)) ∧
((0 ≤ (2 : Int) ∧ (2 : Int) < ((i.length : Nat) : Int)) ∧
(In64 (((gi i (0 : Int).toNat) + (gi i (1 : Int).toNat)) + (gi i (2 : Int).toNat)) ∧
(In64 ((((gi i (0 : Int).toNat) + (gi i (1 : Int).toNat)) + (gi i (2 : Int).toNat)) - 1) ∧
R ((((gi i (0 : Int).toNat) + (gi i (1 : Int).toNat)) + (gi i (2 : Int).toNat)) - 1)))))))) ∧
(¬ (d = 8) →
((0 ≤ (0 : Int) ∧ (0 : Int) < ((i.length : Nat) : Int)) ∧
R (gi i (0 : Int).toNat))))))))))) ∧
((d = 2 →
J2 (decide (d = 2))) ∧
(¬ (d = 2) →
J2 (decide (d = 5))))))))))
theorem yd3 {O : Nat → Prop} {w : World} {d i Ai li ci} {R : Int → Prop} (h : yce d i R) (hO : ∀ k, O k → k < w.heap.size) (hA0 : (FP.sl cI Ai li ci i).P O w) :
    Calls Try.prog 41 #[(ii d), (.slice Ai li ci)] w fun e w' => ∃ r, e = .returned (ii r) ∧ Sep w no O w' (rl []) ∧ R r := by
  unfold yce at h; have hS : Sep w no O w (rl [Res.ro (FP.sl cI Ai li ci i)]) := Sep.startl hO [(FP.sl cI Ai li ci i)] ⟨hA0, trivial⟩; refine yay (l := [(ii d), (.slice Ai li ci)]) func41 rfl ntmps41 (Nat.le_of_ble_eq_true rfl) (zs (zq (za (ii 0)) (yaa (zs (zq (za (ii 13)) (yaa (yag (zs (zq (zm (ii d)) (zq zE (yaa ?_))))))))))); by_cases hp : d = 4
  · replace h := h.1 hp; refine zc hp (yag (zs (zq (zm (.slice Ai li ci)) ?_))); obtain ⟨hx, h⟩ := h; refine zq (zi underlying22 yai (yaF (hS.rdr 0 rfl) hx)) (zq (yaw (v := (ii (gi i (0 : Int).toNat))) rfl underlying3 rfl (rd_1 (hS.rdr 0 rfl) hx (fun q => yar q) rfl)) ?_); refine zq zG (yaa ?_); by_cases hp2 : 50 < (gi i (0 : Int).toNat)
    · replace h := h.1 hp2; exact zc hp2 (zs (zq (zm (ii 13)) (zq (za (ii 13)) (yaa (yas rfl rfl ⟨_, rfl, (hS.sel [] (by decide)), h⟩)))))
    · replace h := h.2 hp2; exact zd hp2 (yak (zs (zq (za (ii 2)) (yaa (yas rfl rfl ⟨_, rfl, (hS.sel [] (by decide)), h⟩)))))
  · replace h := h.2 hp; refine zd hp (yak (yag (zs (zq (za (ii 0)) (yaa (yam ?_)))))); obtain ⟨I2, ⟨m0, h0⟩, hr⟩ := h; refine yaL (fun m E ds w' => ∃ v, I2 m v ∧ ds = [] ∧ E 0 = (ii d) ∧ E 1 = (Value.slice Ai li ci) ∧ E 5 = (ii 13) ∧ E 6 = (ii v) ∧ Sep w no O w' (rl [Res.ro (FP.sl cI Ai li ci i)])) m0 ⟨_, h0, rfl, rfl, rfl, rfl, rfl, (hS.sel [0] (by decide))⟩ ?_; clear h0 hS; rintro m2 E ds w2 ⟨v, h, rfl, hE0, hE1, hE5, hE6, hS⟩ again; replace h := hr m2 v h; clear hr; refine yag (zs (zq (yae hE6) (zq (yae hE1) (zq (ybp (n := i.length) rfl underlying22 (ybi (hS.rdr 0 rfl))) (zq zL (yaa ?_)))))); by_cases hp3 : v < ((i.length : Nat) : Int)
    · replace h := h.1 hp3; refine zc hp3 (yak (yag (yam (zs (zq (yae hE1) (zq (yae hE6) ?_)))))); obtain ⟨hx2, h⟩ := h; refine zq (zi underlying22 yai (yaF (hS.rdr 0 rfl) hx2)) (zq (yaw (v := (ii (gi i v.toNat))) rfl underlying3 rfl (rd_1 (hS.rdr 0 rfl) hx2 (fun q => yar q) rfl)) ?_); refine zq (yae hE5) (zq zG (yaa ?_)); by_cases hp4 : 13 < (gi i v.toNat)
      · replace h := h.1 hp4; exact zc hp4 (zs (zq (yae hE5) (zq (za (ii 13)) (yaa (yas rfl rfl ⟨_, rfl, (hS.sel [] (by decide)), h⟩)))))
      · replace h := h.2 hp4; refine zd hp4 (yak (yan (zr (zq (yae hE6) ?_)))); obtain ⟨hi, h⟩ := h; refine zq (zA hi) (zq (za (ii (v + 1))) (yaa ?_)); obtain ⟨mq, hlt, h⟩ := h; exact again mq _ _ _ ⟨_, h, rfl, hE0, hE1, hE5, rfl, (hS.sel [0] (by decide))⟩ hlt
    · replace h := h.2 hp3; refine zd hp3 (yaJ rfl (yag (zs (zq (yae hE0) (yaa (yam (yag (zs (zq zE (zq (za (.bool (decide (d = 2)))) (yaa ?_))))))))))); obtain ⟨J2, hJ, h⟩ := h; refine yf1 (fun E ds w' => ∃ v2, J2 v2 ∧ ds = [] ∧ E 1 = (Value.slice Ai li ci) ∧ E 27 = (ii d) ∧ E 28 = (Value.bool (v2)) ∧ Sep w no O w' (rl [Res.ro (FP.sl cI Ai li ci i)])) ?_ ?_
      · clear h hS; rintro E ds w3 ⟨v2, h, rfl, hE1, hE27, hE28, hS⟩; replace h := hJ v2 h; by_cases hp5 : v2 = true
        · replace h := h.1 hp5; refine yaz ((hE28).trans (congrArg Value.bool hp5)) (zs (zq (yae hE1) ?_)); obtain ⟨hx3, h⟩ := h; refine zq (zi underlying22 yai (yaF (hS.rdr 0 rfl) hx3)) (zq (yaw (v := (ii (gi i (0 : Int).toNat))) rfl underlying3 rfl (rd_1 (hS.rdr 0 rfl) hx3 (fun q => yar q) rfl)) ?_); obtain ⟨hi2, h⟩ := h; exact zq (zA hi2) (zq (za (ii ((gi i (0 : Int).toNat) + 1))) (yaa (yas rfl rfl ⟨_, rfl, (hS.sel [] (by decide)), h⟩)))
        · replace h := h.2 hp5; refine yaQ ((hE28).trans (congrArg Value.bool (Bool.eq_false_iff.2 hp5))) (zs (zq (yhj hE27 rfl) (zq (za (.bool (decide (d = 6)))) (yaa ?_)))); by_cases hp6 : d = 6
          · replace h := h.1 hp6; refine zc hp6 (yag (ya6 [0, 1, 2, 3, 4, 5, 6, 7] st0 yaS (by kernel_rfl) (by kernel_rfl) ?_)); replace hS := hS.drew; refine zp (yae hE1) ?_; obtain ⟨hx4, h⟩ := h; refine zp (zi underlying22 yai (yaF (hS.rdr 0 rfl) hx4)) (zp (yaw (v := (ii (gi i (0 : Int).toNat))) rfl underlying3 rfl (rd_1 (hS.rdr 0 rfl) hx4 (fun q => yar q) rfl)) ?_); refine zp (yae hE1) ?_; obtain ⟨hx5, h⟩ := h; refine zp (zi underlying22 yai (yaF (hS.rdr 0 rfl) hx5)) (zp (yaw (v := (ii (gi i (1 : Int).toNat))) rfl underlying3 rfl (rd_1 (hS.rdr 0 rfl) hx5 (fun q => yar q) rfl)) ?_); obtain ⟨hi3, h⟩ := h; exact zp (zA hi3) (zp (za (ii ((gi i (0 : Int).toNat) + (gi i (1 : Int).toNat)))) (ybk (yas rfl rfl ⟨_, rfl, (hS.sel [] (by decide)), h⟩)))
          · replace h := h.2 hp6; refine zd hp6 (zs (zq (yhj hE27 rfl) (zq (za (.bool (decide (d = 7)))) (yaa ?_)))); by_cases hp7 : d = 7
            · replace h := h.1 hp7; refine zc hp7 (yag (ya6 [0, 1, 2, 3, 4, 5, 6, 7] st0 yaS (by kernel_rfl) (by kernel_rfl) ?_)); replace hS := hS.drew; refine zp (yae hE1) ?_; obtain ⟨hx6, h⟩ := h; refine zp (zi underlying22 yai (yaF (hS.rdr 0 rfl) hx6)) (zp (yaw (v := (ii (gi i (0 : Int).toNat))) rfl underlying3 rfl (rd_1 (hS.rdr 0 rfl) hx6 (fun q => yar q) rfl)) ?_); refine zp (yae hE1) ?_; obtain ⟨hx7, h⟩ := h; refine zp (zi underlying22 yai (yaF (hS.rdr 0 rfl) hx7)) (zp (yaw (v := (ii (gi i (1 : Int).toNat))) rfl underlying3 rfl (rd_1 (hS.rdr 0 rfl) hx7 (fun q => yar q) rfl)) ?_); obtain ⟨hi4, h⟩ := h; exact zp (yfm rfl rfl hi4) (zp (za (ii ((gi i (0 : Int).toNat) * (gi i (1 : Int).toNat)))) (ybk (yas rfl rfl ⟨_, rfl, (hS.sel [] (by decide)), h⟩)))
            · replace h := h.2 hp7; refine zd hp7 (zs (zq (yhj hE27 rfl) (zq (za (.bool (decide (d = 8)))) (yaa ?_)))); by_cases hp8 : d = 8
              · replace h := h.1 hp8; refine zc hp8 (yag (ya6 [0, 1, 2, 3, 4, 5, 6, 7, 8, 9, 10, 11, 12] st0 yaS (by kernel_rfl) (by kernel_rfl) ?_)); replace hS := hS.drew; refine zp (yae hE1) ?_; obtain ⟨hx8, h⟩ := h; refine zp (zi underlying22 yai (yaF (hS.rdr 0 rfl) hx8)) (zp (yaw (v := (ii (gi i (0 : Int).toNat))) rfl underlying3 rfl (rd_1 (hS.rdr 0 rfl) hx8 (fun q => yar q) rfl)) ?_); refine zp (yae hE1) ?_; obtain ⟨hx9, h⟩ := h; refine zp (zi underlying22 yai (yaF (hS.rdr 0 rfl) hx9)) (zp (yaw (v := (ii (gi i (1 : Int).toNat))) rfl underlying3 rfl (rd_1 (hS.rdr 0 rfl) hx9 (fun q => yar q) rfl)) ?_); obtain ⟨hi5, h⟩ := h; refine zp (zA hi5) (zp (yae hE1) ?_); obtain ⟨hx10, h⟩ := h; refine zp (zi underlying22 yai (yaF (hS.rdr 0 rfl) hx10)) (zp (yaw (v := (ii (gi i (2 : Int).toNat))) rfl underlying3 rfl (rd_1 (hS.rdr 0 rfl) hx10 (fun q => yar q) rfl)) ?_); obtain ⟨hi6, h⟩ := h; refine zp (zA hi6) ?_; obtain ⟨hi7, h⟩ := h; exact zp (zS hi7) (zp (za (ii ((((gi i (0 : Int).toNat) + (gi i (1 : Int).toNat)) + (gi i (2 : Int).toNat)) - 1))) (ybk (yas rfl rfl ⟨_, rfl, (hS.sel [] (by decide)), h⟩)))
              · replace h := h.2 hp8; refine zd hp8 (yak (yan (zs (zq (yae hE1) ?_)))); obtain ⟨hx11, h⟩ := h; refine zq (zi underlying22 yai (yaF (hS.rdr 0 rfl) hx11)) (zq (yaw (v := (ii (gi i (0 : Int).toNat))) rfl underlying3 rfl (rd_1 (hS.rdr 0 rfl) hx11 (fun q => yar q) rfl)) ?_); exact zq (za (ii (gi i (0 : Int).toNat))) (yaa (yas rfl rfl ⟨_, rfl, (hS.sel [] (by decide)), h⟩))
      clear hJ; intro j; by_cases hp9 : d = 2
      · replace h := h.1 hp9; exact zc hp9 (yak (j _ _ _ ⟨_, h, rfl, hE1, rfl, rfl, (hS.sel [0] (by decide))⟩))
      · replace h := h.2 hp9; exact zd hp9 (zr (zq zE (zq (za (.bool (decide (d = 5)))) (yaa (j _ _ _ ⟨_, h, rfl, hE1, rfl, rfl, (hS.sel [0] (by decide))⟩)))))
def ydu (kind : Int) (l : List Int) (R : Int → Prop) : Prop :=
yc5 kind (fun r r2 =>
((r2 = 0 →
((((l.length : Nat) : Int) = r →
(∃ I2 : Nat → Int → Prop, (∃ m0, I2 m0 0) ∧ ∀ m2 i, I2 m2 i → 
((i < r →
((0 ≤ i ∧ i < ((l.length : Nat) : Int)) ∧
(((gi l i.toNat) < 1 →
R 2) ∧
(¬ ((gi l i.toNat) < 1) →
(In64 (i + 1) ∧
∃ m3, m3 < m2 ∧ I2 m3 (i + 1)))))) ∧
(¬ (i < r) →
yce kind l (fun r3 =>
((12 < r3 →
R 5) ∧
(¬ (12 < r3) →
R 0))))))) ∧
(¬ (((l.length : Nat) : Int) = r) →
R 8))) ∧
(¬ (r2 = 0) →
R r2)))
theorem yha {O : Nat → Prop} {w : World} {kind l Al ll cl} {R : Int → Prop} (h : ydu kind l R) (hO : ∀ k, O k → k < w.heap.size) (hA0 : (FP.sl cI Al ll cl l).P O w) :
    Calls Try.prog 23 #[(ii kind), (.slice Al ll cl)] w fun e w' => ∃ r4, e = .returned (ii r4) ∧ Sep w no O w' (rl []) ∧ R r4 := by
  unfold ydu at h; have hS : Sep w no O w (rl [Res.ro (FP.sl cI Al ll cl l)]) := Sep.startl hO [(FP.sl cI Al ll cl l)] ⟨hA0, trivial⟩; refine yay (l := [(ii kind), (.slice Al ll cl)]) func23 rfl ntmps23 (Nat.le_of_ble_eq_true rfl) (zs (zq (za (ii 0)) (yaa (zs (zq (zm (ii kind)) (zn (yap rfl (am1 rfl) enter_12 ((ye0 h (yaM _)).mono ?_)))))))); rintro _ w2 ⟨r, r2, rfl, hC, h⟩; replace hS := hS.pur hC.pure; clear hC; refine ⟨_, rfl, ?_⟩; refine zb (zq (zm (.tuple #[(ii r), (ii r2)])) (zq (zx (ii r)) (zq (zx (ii r2)) (zq (za (ii r)) (zq (za (ii r2)) (yaa (yag (zs (zq (zm (ii r2)) (zq zN (yaa ?_))))))))))); by_cases hp : r2 = 0
  · replace h := h.1 hp; refine ze hp (yak (yag (zs (zq (zm (.slice Al ll cl)) (zq (ybp (n := l.length) rfl underlying22 (ybi (hS.rdr 0 rfl))) (zq (zm (ii r)) (zq zN (yaa ?_)))))))); by_cases hp2 : ((l.length : Nat) : Int) = r
    · replace h := h.1 hp2; refine ze hp2 (yak (yag (zs (zq (za (ii 0)) (yaa (yam ?_)))))); obtain ⟨I2, ⟨m0, h0⟩, hr⟩ := h; refine yaL (fun m E ds w' => ∃ i, I2 m i ∧ ds = [] ∧ E 0 = (ii kind) ∧ E 1 = (Value.slice Al ll cl) ∧ E 5 = (ii r) ∧ E 7 = (ii i) ∧ Sep w no O w' (rl [Res.ro (FP.sl cI Al ll cl l)])) m0 ⟨_, h0, rfl, rfl, rfl, rfl, rfl, (hS.sel [0] (by decide))⟩ ?_; clear h0 hS; rintro m2 E ds w3 ⟨i, h, rfl, hE0, hE1, hE5, hE7, hS⟩ again; replace h := hr m2 i h; clear hr; refine yag (zs (zq (yae hE7) (zq (yae hE5) (zq zL (yaa ?_))))); by_cases hp3 : i < r
      · replace h := h.1 hp3; refine zc hp3 (yak (yag (yam (zs (zq (yae hE1) (zq (yae hE7) ?_)))))); obtain ⟨hx, h⟩ := h; refine zq (zi underlying22 yai (yaF (hS.rdr 0 rfl) hx)) (zq (yaw (v := (ii (gi l i.toNat))) rfl underlying3 rfl (rd_1 (hS.rdr 0 rfl) hx (fun q => yar q) rfl)) ?_); refine zq zL (yaa ?_); by_cases hp4 : (gi l i.toNat) < 1
        · replace h := h.1 hp4; exact zc hp4 (zs (zq (za (ii 2)) (yaa (yas rfl rfl ⟨_, rfl, (hS.sel [] (by decide)), h⟩))))
        · replace h := h.2 hp4; refine zd hp4 (yak (yan (zr (zq (yae hE7) ?_)))); obtain ⟨hi, h⟩ := h; refine zq (zA hi) (zq (za (ii (i + 1))) (yaa ?_)); obtain ⟨mq, hlt, h⟩ := h; exact again mq _ _ _ ⟨_, h, rfl, hE0, hE1, hE5, rfl, (hS.sel [0] (by decide))⟩ hlt
      · replace h := h.2 hp3; refine zd hp3 (yaJ rfl (yag (zs (zq (yae hE0) (zq (yae hE1) (zn (yap rfl (am2 rfl rfl) enter_41 ((yd3 h (yaM _) (hS.rdr 0 rfl)).mono ?_)))))))); rintro _ w4 ⟨r3, rfl, hC, h⟩; replace hS := hS.pur hC.pure; clear hC; refine ⟨_, rfl, ?_⟩; refine zb (zq zG (yaa ?_)); by_cases hp5 : 12 < r3
        · replace h := h.1 hp5; exact zc hp5 (zs (zq (za (ii 5)) (yaa (yas rfl rfl ⟨_, rfl, (hS.sel [] (by decide)), h⟩))))
        · replace h := h.2 hp5; exact zd hp5 (yak (zs (zq (za (ii 0)) (yaa (yas rfl rfl ⟨_, rfl, (hS.sel [] (by decide)), h⟩)))))
    · replace h := h.2 hp2; exact zf hp2 (zs (zq (za (ii 8)) (yaa (yas rfl rfl ⟨_, rfl, (hS.sel [] (by decide)), h⟩))))
  · replace h := h.2 hp; exact zf hp (zs (zq (zm (ii r2)) (zq (za (ii r2)) (yaa (yas rfl rfl ⟨_, rfl, (hS.sel [] (by decide)), h⟩)))))
def ycS (from2 : Int) (to : Int) (R : (List (Int × Int)) → Prop) : Prop :=
(∃ I2 : Nat → (List (Int × Int)) → Int → Prop, (∃ m0, I2 m0 ([]) from2) ∧ ∀ m2 out v, I2 m2 out v → 
((v < to →
(In64 (v + 1) ∧
(out.length + 1 ≤ 1000000000 ∧
∃ m3, m3 < m2 ∧ I2 m3 (out ++ [(v, v + 1)]) (v + 1)))) ∧
(¬ (v < to) →
R out)))
theorem yei {O : Nat → Prop} {w : World} {from2 to} {R : (List (Int × Int)) → Prop} (h : ycS from2 to R) (hO : ∀ k, O k → k < w.heap.size) :
    Calls Try.prog 95 #[(ii from2), (ii to)] w fun e w' => ∃ r Ar lr cr, e = .returned (.slice Ar lr cr) ∧ Sep w no O w' (rl [Res.own c2 59 Ar lr cr r]) ∧ R r := by
  unfold ycS at h; have hS : Sep w no O w (rl []) := Sep.start w hO; refine yay (l := [(ii from2), (ii to)]) func95 rfl ntmps95 (Nat.le_of_ble_eq_true rfl) (zs (zq (za (.slice none 0 0)) (yaa (zs (zq (za (.slice none 0 0)) (yaa (yag (zs (zq (zm (ii from2)) (zq (za (ii from2)) (yaa (yam ?_)))))))))))); replace hS := hS.nil 0 rfl c2 59; obtain ⟨I2, ⟨m0, h0⟩, hr⟩ := h; refine yaL (fun m E ds w' => ∃ out v Aout lout cout, I2 m out v ∧ ds = [] ∧ E 1 = (ii to) ∧ E 5 = (Value.slice Aout lout cout) ∧ E 6 = (ii v) ∧ Sep w no O w' (rl [Res.own c2 59 Aout lout cout out])) m0 ⟨_, _, _, _, _, h0, rfl, rfl, rfl, rfl, (hS.sel [0] (by decide))⟩ ?_; clear h0 hS; rintro m2 E ds w2 ⟨out, v, Aout, lout, cout, h, rfl, hE1, hE5, hE6, hS⟩ again; replace h := hr m2 out v h; clear hr; refine yag (zs (zq (yae hE6) (zq (yae hE1) (zq zL (yaa ?_))))); by_cases hp : v < to
  · replace h := h.1 hp; refine zc hp (yak (yag (yam (zr (zq (yae hE5) (zq (yae hE6) (zq (yae hE6) ?_))))))); obtain ⟨hi, h⟩ := h; refine zq (zA hi) (zn (ya2 (l := [(0, (ii v)), (1, (ii (v + 1)))]) (cells := [(ii v), (ii (v + 1))]) (bp2 rfl rfl) underlying59 yaA yai (by kernel_rfl) ?_)); refine zb (zn (yaD (l := [(0, (.agg #[(ii v), (ii (v + 1))]))]) (cells := [(ii v), (ii (v + 1))]) (bp1 rfl) underlying57 yaA rfl rfl ?_)); intro g w3 hN; replace hS := hS.litf (n := 1) 1 rfl (fP (fI .i64) (fI .i64)) hN ([(v, v + 1)] : List (Int × Int)) rfl (by decide) rfl; clear hN; refine zb ?_; obtain ⟨hx, h⟩ := h; refine zn (ycB (c := c2) rfl rfl underlying57 underlying57 yaA rfl rfl (by decide) hS 0 rfl (hS.yo 1 rfl) hx ?_); clear hS; intro A c w4 hS; refine zb (zq (za (.slice A (lout + 1) c)) (yaa (yan (zr (zq (yae hE6) (zq (zA hi) (zq (za (ii (v + 1))) (yaa ?_)))))))); obtain ⟨mq, hlt, h⟩ := h; exact again mq _ _ _ ⟨_, _, _, _, _, h, rfl, hE1, rfl, rfl, (hS.sel [0] (by decide))⟩ hlt
  · replace h := h.2 hp; exact zd hp (yaJ rfl (zs (zq (yae hE5) (zq (za (.slice Aout lout cout)) (yaa (yas rfl rfl ⟨_, _, _, _, rfl, (hS.sel [0] (by decide)), h⟩))))))
def yb6 (m2 : Int) (n : Int) (R : (List (Int × Int)) → Prop) : Prop :=
(∃ I2 : Nat → (List (Int × Int)) → Int → Prop, (∃ m0, I2 m0 ([]) 0) ∧ ∀ m3 out i, I2 m3 out i → 
((i < m2 →
(∃ I3 : Nat → (List (Int × Int)) → Int → Prop, (∃ m0, I3 m0 out 0) ∧ ∀ m4 out2 k, I3 m4 out2 k → 
((k < n →
(In64 (m2 + k) ∧
(out2.length + 1 ≤ 1000000000 ∧
(In64 (k + 1) ∧
∃ m5, m5 < m4 ∧ I3 m5 (out2 ++ [(i, m2 + k)]) (k + 1))))) ∧
(¬ (k < n) →
(In64 (i + 1) ∧
∃ m6, m6 < m3 ∧ I2 m6 out2 (i + 1)))))) ∧
(¬ (i < m2) →
R out)))
theorem ydo {O : Nat → Prop} {w : World} {m2 n} {R : (List (Int × Int)) → Prop} (h : yb6 m2 n R) (hO : ∀ k, O k → k < w.heap.size) :
    Calls Try.prog 96 #[(ii m2), (ii n)] w fun e w' => ∃ r Ar lr cr, e = .returned (.slice Ar lr cr) ∧ Sep w no O w' (rl [Res.own c2 59 Ar lr cr r]) ∧ R r := by
  unfold yb6 at h; have hS : Sep w no O w (rl []) := Sep.start w hO; refine yay (l := [(ii m2), (ii n)]) func96 rfl ntmps96 (Nat.le_of_ble_eq_true rfl) (zs (zq (za (.slice none 0 0)) (yaa (zs (zq (za (.slice none 0 0)) (yaa (yag (zs (zq (za (ii 0)) (yaa (yam ?_))))))))))); replace hS := hS.nil 0 rfl c2 59; obtain ⟨I2, ⟨m0, h0⟩, hr⟩ := h; refine yaL (fun m E ds w' => ∃ out i Aout lout cout, I2 m out i ∧ ds = [] ∧ E 0 = (ii m2) ∧ E 1 = (ii n) ∧ E 5 = (Value.slice Aout lout cout) ∧ E 6 = (ii i) ∧ Sep w no O w' (rl [Res.own c2 59 Aout lout cout out])) m0 ⟨_, _, _, _, _, h0, rfl, rfl, rfl, rfl, rfl, (hS.sel [0] (by decide))⟩ ?_; clear h0 hS; rintro m3 E ds w2 ⟨out, i, Aout, lout, cout, h, rfl, hE0, hE1, hE5, hE6, hS⟩ again; replace h := hr m3 out i h; clear hr; refine yag (zs (zq (yae hE6) (zq (yae hE0) (zq zL (yaa ?_))))); by_cases hp : i < m2
  · replace h := h.1 hp; refine zc hp (yak (yag (yam (zs (zq (za (ii 0)) (yaa (yam ?_))))))); obtain ⟨I3, ⟨m0, h0⟩, hr⟩ := h; refine yaL (fun m E ds w' => ∃ out2 k Aout2 lout2 cout2, I3 m out2 k ∧ ds = [] ∧ E 0 = (ii m2) ∧ E 1 = (ii n) ∧ E 5 = (Value.slice Aout2 lout2 cout2) ∧ E 6 = (ii i) ∧ E 7 = (ii k) ∧ Sep w no O w' (rl [Res.own c2 59 Aout2 lout2 cout2 out2])) m0 ⟨_, _, _, _, _, h0, rfl, hE0, hE1, hE5, hE6, rfl, (hS.sel [0] (by decide))⟩ ?_; clear h0 hS; rintro m4 E ds w3 ⟨out2, k, Aout2, lout2, cout2, h, rfl, hE0, hE1, hE5, hE6, hE7, hS⟩ again2; replace h := hr m4 out2 k h; clear hr; refine yag (zs (zq (yae hE7) (zq (yae hE1) (zq zL (yaa ?_))))); by_cases hp2 : k < n
    · replace h := h.1 hp2; refine zc hp2 (yak (yag (yam (zr (zq (yae hE5) (zq (yae hE6) (zq (yae hE0) (zq (yae hE7) ?_)))))))); obtain ⟨hi, h⟩ := h; refine zq (zA hi) (zn (ya2 (l := [(0, (ii i)), (1, (ii (m2 + k)))]) (cells := [(ii i), (ii (m2 + k))]) (bp2 rfl rfl) underlying59 yaA yai (by kernel_rfl) ?_)); refine zb (zn (yaD (l := [(0, (.agg #[(ii i), (ii (m2 + k))]))]) (cells := [(ii i), (ii (m2 + k))]) (bp1 rfl) underlying57 yaA rfl rfl ?_)); intro g w4 hN; replace hS := hS.litf (n := 1) 1 rfl (fP (fI .i64) (fI .i64)) hN ([(i, m2 + k)] : List (Int × Int)) rfl (by decide) rfl; clear hN; refine zb ?_; obtain ⟨hx, h⟩ := h; refine zn (ycB (c := c2) rfl rfl underlying57 underlying57 yaA rfl rfl (by decide) hS 0 rfl (hS.yo 1 rfl) hx ?_); clear hS; intro A c w5 hS; refine zb (zq (za (.slice A (lout2 + 1) c)) (yaa (yan (zr (zq (yae hE7) ?_))))); obtain ⟨hi2, h⟩ := h; refine zq (zA hi2) (zq (za (ii (k + 1))) (yaa ?_)); obtain ⟨mq, hlt, h⟩ := h; exact again2 mq _ _ _ ⟨_, _, _, _, _, h, rfl, hE0, hE1, rfl, hE6, rfl, (hS.sel [0] (by decide))⟩ hlt
    · replace h := h.2 hp2; refine zd hp2 (yaJ rfl (yan (zr (zq (yae hE6) ?_)))); obtain ⟨hi3, h⟩ := h; refine zq (zA hi3) (zq (za (ii (i + 1))) (yaa ?_)); obtain ⟨mq, hlt, h⟩ := h; exact again mq _ _ _ ⟨_, _, _, _, _, h, rfl, hE0, hE1, hE5, rfl, (hS.sel [0] (by decide))⟩ hlt
  · replace h := h.2 hp; exact zd hp (yaJ rfl (zs (zq (yae hE5) (zq (za (.slice Aout lout cout)) (yaa (yas rfl rfl ⟨_, _, _, _, rfl, (hS.sel [0] (by decide)), h⟩))))))
def ycI (m2 : Int) (n : Int) (R : (List (Int × Int)) → Prop) : Prop :=
(∃ I2 : Nat → (List (Int × Int)) → Int → Prop, (∃ m0, I2 m0 ([]) 0) ∧ ∀ m3 out i, I2 m3 out i → 
((i < m2 →
(∃ I3 : Nat → (List (Int × Int)) → Int → Prop, (∃ m0, I3 m0 out 0) ∧ ∀ m4 out2 j, I3 m4 out2 j → 
((j < n →
(In64 (j + 1) ∧
(∃ J2 : (List (Int × Int)) → Prop, (∀ (out3 : List (Int × Int)), J2 out3 → (In64 (i + 1) ∧
(((i + 1) < m2 →
(In64 (i * n) ∧
(In64 ((i * n) + j) ∧
(In64 ((i * n) + n) ∧
(In64 (((i * n) + n) + j) ∧
(out3.length + 1 ≤ 1000000000 ∧
∃ m5, m5 < m4 ∧ I3 m5 (out3 ++ [((i * n) + j, ((i * n) + n) + j)]) (j + 1))))))) ∧
(¬ ((i + 1) < m2) →
∃ m6, m6 < m4 ∧ I3 m6 out3 (j + 1))))) ∧
(((j + 1) < n →
(In64 (i * n) ∧
(In64 ((i * n) + j) ∧
(In64 (((i * n) + j) + 1) ∧
(out2.length + 1 ≤ 1000000000 ∧
J2 (out2 ++ [((i * n) + j, ((i * n) + j) + 1)])))))) ∧
(¬ ((j + 1) < n) →
J2 out2))))) ∧
(¬ (j < n) →
(In64 (i + 1) ∧
∃ m7, m7 < m3 ∧ I2 m7 out2 (i + 1)))))) ∧
(¬ (i < m2) →
R out)))
theorem yfK {O : Nat → Prop} {w : World} {m2 n} {R : (List (Int × Int)) → Prop} (h : ycI m2 n R) (hO : ∀ k, O k → k < w.heap.size) :
    Calls Try.prog 97 #[(ii m2), (ii n)] w fun e w' => ∃ r Ar lr cr, e = .returned (.slice Ar lr cr) ∧ Sep w no O w' (rl [Res.own c2 59 Ar lr cr r]) ∧ R r := by
  unfold ycI at h; have hS : Sep w no O w (rl []) := Sep.start w hO; refine yay (l := [(ii m2), (ii n)]) func97 rfl ntmps97 (Nat.le_of_ble_eq_true rfl) (zs (zq (za (.slice none 0 0)) (yaa (zs (zq (za (.slice none 0 0)) (yaa (yag (zs (zq (za (ii 0)) (yaa (yam ?_))))))))))); replace hS := hS.nil 0 rfl c2 59; obtain ⟨I2, ⟨m0, h0⟩, hr⟩ := h; refine yaL (fun m E ds w' => ∃ out i Aout lout cout, I2 m out i ∧ ds = [] ∧ E 0 = (ii m2) ∧ E 1 = (ii n) ∧ E 5 = (Value.slice Aout lout cout) ∧ E 6 = (ii i) ∧ Sep w no O w' (rl [Res.own c2 59 Aout lout cout out])) m0 ⟨_, _, _, _, _, h0, rfl, rfl, rfl, rfl, rfl, (hS.sel [0] (by decide))⟩ ?_; clear h0 hS; rintro m3 E ds w2 ⟨out, i, Aout, lout, cout, h, rfl, hE0, hE1, hE5, hE6, hS⟩ again; replace h := hr m3 out i h; clear hr; refine yag (zs (zq (yae hE6) (zq (yae hE0) (zq zL (yaa ?_))))); by_cases hp : i < m2
  · replace h := h.1 hp; refine zc hp (yak (yag (yam (zs (zq (za (ii 0)) (yaa (yam ?_))))))); obtain ⟨I3, ⟨m0, h0⟩, hr⟩ := h; refine yaL (fun m E ds w' => ∃ out2 j Aout2 lout2 cout2, I3 m out2 j ∧ ds = [] ∧ E 0 = (ii m2) ∧ E 1 = (ii n) ∧ E 5 = (Value.slice Aout2 lout2 cout2) ∧ E 6 = (ii i) ∧ E 7 = (ii j) ∧ Sep w no O w' (rl [Res.own c2 59 Aout2 lout2 cout2 out2])) m0 ⟨_, _, _, _, _, h0, rfl, hE0, hE1, hE5, hE6, rfl, (hS.sel [0] (by decide))⟩ ?_; clear h0 hS; rintro m4 E ds w3 ⟨out2, j, Aout2, lout2, cout2, h, rfl, hE0, hE1, hE5, hE6, hE7, hS⟩ again2; replace h := hr m4 out2 j h; clear hr; refine yag (zs (zq (yae hE7) (zq (yae hE1) (zq zL (yaa ?_))))); by_cases hp2 : j < n
    · replace h := h.1 hp2; refine zc hp2 (yak (yag (yam (yag (zs (zq (yae hE7) ?_)))))); obtain ⟨hi, h⟩ := h; refine zq (zA hi) (zq (yae hE1) (zq zL (yaa ?_))); obtain ⟨J2, hJ, h⟩ := h; refine yf1 (fun E ds w' => ∃ out3 Aout3 lout3 cout3, J2 out3 ∧ ds = [] ∧ E 0 = (ii m2) ∧ E 1 = (ii n) ∧ E 5 = (Value.slice Aout3 lout3 cout3) ∧ E 6 = (ii i) ∧ E 7 = (ii j) ∧ Sep w no O w' (rl [Res.own c2 59 Aout3 lout3 cout3 out3])) ?_ ?_
      · clear h hS; rintro E ds w4 ⟨out3, Aout3, lout3, cout3, h, rfl, hE0, hE1, hE5, hE6, hE7, hS⟩; replace h := hJ out3 h; refine zs (zq (yae hE6) ?_); obtain ⟨hi2, h⟩ := h; refine zq (zA hi2) (zq (yae hE0) (zq zL (yaa ?_))); by_cases hp3 : (i + 1) < m2
        · replace h := h.1 hp3; refine zc hp3 (zr (zq (yae hE5) (zq (yae hE6) (zq (yae hE1) ?_)))); obtain ⟨hi3, h⟩ := h; refine zq (yfm rfl rfl hi3) (zq (yae hE7) ?_); obtain ⟨hi4, h⟩ := h; refine zq (zA hi4) (zq (yae hE6) (zq (yae hE1) (zq (yfm rfl rfl hi3) (zq (yae hE1) ?_)))); obtain ⟨hi6, h⟩ := h; refine zq (zA hi6) (zq (yae hE7) ?_); obtain ⟨hi7, h⟩ := h; refine zq (zA hi7) (zn (ya2 (l := [(0, (ii ((i * n) + j))), (1, (ii (((i * n) + n) + j)))]) (cells := [(ii ((i * n) + j)), (ii (((i * n) + n) + j))]) (bp2 rfl rfl) underlying59 yaA yai (by kernel_rfl) ?_)); refine zb (zn (yaD (l := [(0, (.agg #[(ii ((i * n) + j)), (ii (((i * n) + n) + j))]))]) (cells := [(ii ((i * n) + j)), (ii (((i * n) + n) + j))]) (bp1 rfl) underlying57 yaA rfl rfl ?_)); intro g w5 hN; replace hS := hS.litf (n := 1) 1 rfl (fP (fI .i64) (fI .i64)) hN ([((i * n) + j, ((i * n) + n) + j)] : List (Int × Int)) rfl (by decide) rfl; clear hN; refine zb ?_; obtain ⟨hx, h⟩ := h; refine zn (ycB (c := c2) rfl rfl underlying57 underlying57 yaA rfl rfl (by decide) hS 0 rfl (hS.yo 1 rfl) hx ?_); clear hS; intro A c w6 hS; refine zb (zq (za (.slice A (lout3 + 1) c)) (yaa (yan (zr (zq (yae hE7) (zq (zA hi) (zq (za (ii (j + 1))) (yaa ?_)))))))); obtain ⟨mq, hlt, h⟩ := h; exact again2 mq _ _ _ ⟨_, _, _, _, _, h, rfl, hE0, hE1, rfl, hE6, rfl, (hS.sel [0] (by decide))⟩ hlt
        · replace h := h.2 hp3; refine zd hp3 (yak (yan (zr (zq (yae hE7) (zq (zA hi) (zq (za (ii (j + 1))) (yaa ?_))))))); obtain ⟨mq, hlt, h⟩ := h; exact again2 mq _ _ _ ⟨_, _, _, _, _, h, rfl, hE0, hE1, hE5, hE6, rfl, (hS.sel [0] (by decide))⟩ hlt
      clear hJ; intro j2; by_cases hp4 : (j + 1) < n
      · replace h := h.1 hp4; refine zc hp4 (zr (zq (yae hE5) (zq (yae hE6) (zq (yae hE1) ?_)))); obtain ⟨hi10, h⟩ := h; refine zq (yfm rfl rfl hi10) (zq (yae hE7) ?_); obtain ⟨hi11, h⟩ := h; refine zq (zA hi11) (zq (yae hE6) (zq (yae hE1) (zq (yfm rfl rfl hi10) (zq (yae hE7) (zq (zA hi11) ?_))))); obtain ⟨hi14, h⟩ := h; refine zq (zA hi14) (zn (ya2 (l := [(0, (ii ((i * n) + j))), (1, (ii (((i * n) + j) + 1)))]) (cells := [(ii ((i * n) + j)), (ii (((i * n) + j) + 1))]) (bp2 rfl rfl) underlying59 yaA yai (by kernel_rfl) ?_)); refine zb (zn (yaD (l := [(0, (.agg #[(ii ((i * n) + j)), (ii (((i * n) + j) + 1))]))]) (cells := [(ii ((i * n) + j)), (ii (((i * n) + j) + 1))]) (bp1 rfl) underlying57 yaA rfl rfl ?_)); intro g2 w7 hN; replace hS := hS.litf (n := 1) 1 rfl (fP (fI .i64) (fI .i64)) hN ([((i * n) + j, ((i * n) + j) + 1)] : List (Int × Int)) rfl (by decide) rfl; clear hN; refine zb ?_; obtain ⟨hx2, h⟩ := h; refine zn (ycB (c := c2) rfl rfl underlying57 underlying57 yaA rfl rfl (by decide) hS 0 rfl (hS.yo 1 rfl) hx2 ?_); clear hS; intro A2 c2 w8 hS; exact zb (zq (za (.slice A2 (lout2 + 1) c2)) (yaa (j2 _ _ _ ⟨_, _, _, _, h, rfl, hE0, hE1, rfl, hE6, hE7, (hS.sel [0] (by decide))⟩)))
      · replace h := h.2 hp4; exact zd hp4 (yak (j2 _ _ _ ⟨_, _, _, _, h, rfl, hE0, hE1, hE5, hE6, hE7, (hS.sel [0] (by decide))⟩))
    · replace h := h.2 hp2; refine zd hp2 (yaJ rfl (yan (zr (zq (yae hE6) ?_)))); obtain ⟨hi15, h⟩ := h; refine zq (zA hi15) (zq (za (ii (i + 1))) (yaa ?_)); obtain ⟨mq, hlt, h⟩ := h; exact again mq _ _ _ ⟨_, _, _, _, _, h, rfl, hE0, hE1, hE5, rfl, (hS.sel [0] (by decide))⟩ hlt
  · replace h := h.2 hp; exact zd hp (yaJ rfl (zs (zq (yae hE5) (zq (za (.slice Aout lout cout)) (yaa (yas rfl rfl ⟨_, _, _, _, rfl, (hS.sel [0] (by decide)), h⟩))))))
def ycy (l : List Int) (R : (List (Int × Int)) → Prop) : Prop :=
(∃ I2 : Nat → (List (Int × Int)) → Int → Int → Prop, (∃ m0, I2 m0 ([]) 2 0) ∧ ∀ m2 out next i, I2 m2 out next i → 
((i < 3 →
(∃ I3 : Nat → (List (Int × Int)) → Int → Int → Int → Prop, (∃ m0, I3 m0 out next 0 1) ∧ ∀ m3 out2 next2 at2 k, I3 m3 out2 next2 at2 k → 
((0 ≤ i ∧ i < ((l.length : Nat) : Int)) ∧
((k < (gi l i.toNat) →
(out2.length + 1 ≤ 1000000000 ∧
(In64 (next2 + 1) ∧
(In64 (k + 1) ∧
∃ m4, m4 < m3 ∧ I3 m4 (out2 ++ [(at2, next2)]) (next2 + 1) next2 (k + 1))))) ∧
(¬ (k < (gi l i.toNat)) →
(out2.length + 1 ≤ 1000000000 ∧
(In64 (i + 1) ∧
∃ m5, m5 < m2 ∧ I2 m5 (out2 ++ [(at2, 1)]) next2 (i + 1)))))))) ∧
(¬ (i < 3) →
R out)))
theorem yfr {O : Nat → Prop} {w : World} {l Al ll cl} {R : (List (Int × Int)) → Prop} (h : ycy l R) (hO : ∀ k, O k → k < w.heap.size) (hA0 : (FP.sl cI Al ll cl l).P O w) :
    Calls Try.prog 98 #[(.slice Al ll cl)] w fun e w' => ∃ r Ar lr cr, e = .returned (.slice Ar lr cr) ∧ Sep w no O w' (rl [Res.own c2 59 Ar lr cr r]) ∧ R r := by
  unfold ycy at h; have hS : Sep w no O w (rl [Res.ro (FP.sl cI Al ll cl l)]) := Sep.startl hO [(FP.sl cI Al ll cl l)] ⟨hA0, trivial⟩; refine yay (l := [(.slice Al ll cl)]) func98 rfl ntmps98 (Nat.le_of_ble_eq_true rfl) (zs (zq (za (.slice none 0 0)) (yaa (zs (zq (za (.slice none 0 0)) (yaa (zs (zq (za (ii 2)) (yaa (yag (zs (zq (za (ii 0)) (yaa (yam ?_)))))))))))))); replace hS := hS.nil 1 rfl c2 59; obtain ⟨I2, ⟨m0, h0⟩, hr⟩ := h; refine yaL (fun m E ds w' => ∃ out next i Aout lout cout, I2 m out next i ∧ ds = [] ∧ E 0 = (Value.slice Al ll cl) ∧ E 3 = (Value.slice Aout lout cout) ∧ E 4 = (ii next) ∧ E 5 = (ii i) ∧ Sep w no O w' (rl [Res.own c2 59 Aout lout cout out, Res.ro (FP.sl cI Al ll cl l)])) m0 ⟨_, _, _, _, _, _, h0, rfl, rfl, rfl, rfl, rfl, (hS.sel [1, 0] (by decide))⟩ ?_; clear h0 hS; rintro m2 E ds w2 ⟨out, next, i, Aout, lout, cout, h, rfl, hE0, hE3, hE4, hE5, hS⟩ again; replace h := hr m2 out next i h; clear hr; refine yag (zs (zq (yae hE5) (zq zL (yaa ?_)))); by_cases hp : i < 3
  · replace h := h.1 hp; refine zc hp (yak (yag (yam (zs (zq (za (ii 0)) (yaa (yag (zs (zq (za (ii 1)) (yaa (yam ?_))))))))))); obtain ⟨I3, ⟨m0, h0⟩, hr⟩ := h; refine yaL (fun m E ds w' => ∃ out2 next2 at2 k Aout2 lout2 cout2, I3 m out2 next2 at2 k ∧ ds = [] ∧ E 0 = (Value.slice Al ll cl) ∧ E 3 = (Value.slice Aout2 lout2 cout2) ∧ E 4 = (ii next2) ∧ E 5 = (ii i) ∧ E 6 = (ii at2) ∧ E 7 = (ii k) ∧ Sep w no O w' (rl [Res.own c2 59 Aout2 lout2 cout2 out2, Res.ro (FP.sl cI Al ll cl l)])) m0 ⟨_, _, _, _, _, _, _, h0, rfl, hE0, hE3, hE4, hE5, rfl, rfl, (hS.sel [0, 1] (by decide))⟩ ?_; clear h0 hS; rintro m3 E ds w3 ⟨out2, next2, at2, k, Aout2, lout2, cout2, h, rfl, hE0, hE3, hE4, hE5, hE6, hE7, hS⟩ again2; replace h := hr m3 out2 next2 at2 k h; clear hr; refine yag (zs (zq (yae hE7) (zq (yae hE0) (zq (yae hE5) ?_)))); obtain ⟨hx, h⟩ := h; refine zq (zi underlying22 yai (yaF (hS.rdr 1 rfl) hx)) (zq (yaw (v := (ii (gi l i.toNat))) rfl underlying3 rfl (rd_1 (hS.rdr 1 rfl) hx (fun q => yar q) rfl)) ?_); refine zq zL (yaa ?_); by_cases hp2 : k < (gi l i.toNat)
    · replace h := h.1 hp2; refine zc hp2 (yak (yag (yam (zs (zq (yae hE3) (zq (yae hE6) (zq (yae hE4) (zn (ya2 (l := [(0, (ii at2)), (1, (ii next2))]) (cells := [(ii at2), (ii next2)]) (bp2 rfl rfl) underlying59 yaA yai (by kernel_rfl) ?_))))))))); refine zb (zn (yaD (l := [(0, (.agg #[(ii at2), (ii next2)]))]) (cells := [(ii at2), (ii next2)]) (bp1 rfl) underlying57 yaA rfl rfl ?_)); intro g w4 hN; replace hS := hS.litf (n := 1) 2 rfl (fP (fI .i64) (fI .i64)) hN ([(at2, next2)] : List (Int × Int)) rfl (by decide) rfl; clear hN; refine zb ?_; obtain ⟨hx2, h⟩ := h; refine zn (ycB (c := c2) rfl rfl underlying57 underlying57 yaA rfl rfl (by decide) hS 0 rfl (hS.yo 2 rfl) hx2 ?_); clear hS; intro A c w5 hS; refine zb (zq (za (.slice A (lout2 + 1) c)) (yaa (zs (zq (yae hE4) (zq (za (ii next2)) (yaa (zr (zq (yae hE4) ?_)))))))); obtain ⟨hi, h⟩ := h; refine zq (zA hi) (zq (za (ii (next2 + 1))) (yaa (yan (zr (zq (yae hE7) ?_))))); obtain ⟨hi2, h⟩ := h; refine zq (zA hi2) (zq (za (ii (k + 1))) (yaa ?_)); obtain ⟨mq, hlt, h⟩ := h; exact again2 mq _ _ _ ⟨_, _, _, _, _, _, _, h, rfl, hE0, rfl, rfl, hE5, rfl, rfl, (hS.sel [0, 1] (by decide))⟩ hlt
    · replace h := h.2 hp2; refine zd hp2 (yaJ rfl (zr (zq (yae hE3) (zq (yae hE6) (zn (ya2 (l := [(0, (ii at2)), (1, (ii 1))]) (cells := [(ii at2), (ii 1)]) (bp2 rfl rfl) underlying59 yaA yai (by kernel_rfl) ?_)))))); refine zb (zn (yaD (l := [(0, (.agg #[(ii at2), (ii 1)]))]) (cells := [(ii at2), (ii 1)]) (bp1 rfl) underlying57 yaA rfl rfl ?_)); intro g2 w6 hN; replace hS := hS.litf (n := 1) 2 rfl (fP (fI .i64) (fI .i64)) hN ([(at2, 1)] : List (Int × Int)) rfl (by decide) rfl; clear hN; refine zb ?_; obtain ⟨hx3, h⟩ := h; refine zn (ycB (c := c2) rfl rfl underlying57 underlying57 yaA rfl rfl (by decide) hS 0 rfl (hS.yo 2 rfl) hx3 ?_); clear hS; intro A2 c2 w7 hS; refine zb (zq (za (.slice A2 (lout2 + 1) c2)) (yaa (yan (zr (zq (yae hE5) ?_))))); obtain ⟨hi3, h⟩ := h; refine zq (zA hi3) (zq (za (ii (i + 1))) (yaa ?_)); obtain ⟨mq, hlt, h⟩ := h; exact again mq _ _ _ ⟨_, _, _, _, _, _, h, rfl, hE0, rfl, hE4, rfl, (hS.sel [0, 1] (by decide))⟩ hlt
  · replace h := h.2 hp; exact zd hp (yaJ rfl (zs (zq (yae hE3) (zq (za (.slice Aout lout cout)) (yaa (yas rfl rfl ⟨_, _, _, _, rfl, (hS.sel [0] (by decide)), h⟩))))))
def yaX (d : Int) (i : List Int) (R : (List (Int × Int)) → Prop) : Prop :=
((0 ≤ (0 : Int) ∧ (0 : Int) < ((i.length : Nat) : Int)) ∧
((d = 0 →
(In64 ((gi i (0 : Int).toNat) - 1) ∧
ycS 0 ((gi i (0 : Int).toNat) - 1) (fun r =>
R r))) ∧
(¬ (d = 0) →
((d = 1 →
(In64 ((gi i (0 : Int).toNat) - 1) ∧
ycS 0 ((gi i (0 : Int).toNat) - 1) (fun r2 =>
(r2.length + 1 ≤ 1000000000 ∧
R (r2 ++ [((gi i (0 : Int).toNat) - 1, 0)]))))) ∧
(¬ (d = 1) →
((d = 2 →
yb6 1 (gi i (0 : Int).toNat) (fun r3 =>
R r3)) ∧
(¬ (d = 2) →
((d = 4 →
(∃ I2 : Nat → (List (Int × Int)) → Int → Prop, (∃ m0, I2 m0 ([]) 0) ∧ ∀ m2 v v2, I2 m2 v v2 → 
((v2 < (gi i (0 : Int).toNat) →
(v.length + 1 ≤ 1000000000 ∧
(In64 (v2 + 1) ∧
∃ m3, m3 < m2 ∧ I2 m3 (v ++ [(0, 1)]) (v2 + 1)))) ∧
(¬ (v2 < (gi i (0 : Int).toNat)) →
R v)))) ∧
(¬ (d = 4) →
((d = 5 →
yb6 1 (gi i (0 : Int).toNat) (fun r4 =>
ycS 1 (gi i (0 : Int).toNat) (fun r5 =>
(r4.length + r5.length ≤ 1000000000 ∧
((r4 ++ r5).length + 1 ≤ 1000000000 ∧
R ((r4 ++ r5) ++ [(gi i (0 : Int).toNat, 1)])))))) ∧
(¬ (d = 5) →
((d = 6 →
((0 ≤ (1 : Int) ∧ (1 : Int) < ((i.length : Nat) : Int)) ∧
yb6 (gi i (0 : Int).toNat) (gi i (1 : Int).toNat) (fun r6 =>
R r6))) ∧
(¬ (d = 6) →
((d = 7 →
((0 ≤ (1 : Int) ∧ (1 : Int) < ((i.length : Nat) : Int)) ∧
ycI (gi i (0 : Int).toNat) (gi i (1 : Int).toNat) (fun r7 =>
R r7))) ∧
(¬ (d = 7) →
((d = 8 →
ycy i (fun r8 =>
R r8)) ∧
(¬ (d = 8) →
(∃ I3 : Nat → (List (Int × Int)) → Int → Prop, (∃ m0, I3 m0 ([]) 0) ∧ ∀ m4 v3 v4, I3 m4 v3 v4 → 
((v4 < (gi i (0 : Int).toNat) →
(In64 (v4 + 1) ∧
(∃ I4 : Nat → (List (Int × Int)) → Int → Prop, (∃ m0, I4 m0 v3 (v4 + 1)) ∧ ∀ m5 v5 v6, I4 m5 v5 v6 → 
((v6 < (gi i (0 : Int).toNat) →
(v5.length + 1 ≤ 1000000000 ∧
(In64 (v6 + 1) ∧
∃ m6, m6 < m5 ∧ I4 m6 (v5 ++ [(v4, v6)]) (v6 + 1)))) ∧
(¬ (v6 < (gi i (0 : Int).toNat)) →
∃ m7, m7 < m4 ∧ I3 m7 v5 (v4 + 1)))))) ∧
(¬ (v4 < (gi i (0 : Int).toNat)) →
R v3))))))))))))))))))))
theorem pok_r11_ends {O : Nat → Prop} {w : World} {d i Ai li ci} {R : (List (Int × Int)) → Prop} (h : yaX d i R) (hO : ∀ k, O k → k < w.heap.size) (hA0 : (FP.sl cI Ai li ci i).P O w) :
    Calls Try.prog 79 #[(ii d), (.slice Ai li ci)] w fun e w' => ∃ r9 Ar9 lr9 cr9, e = .returned (.slice Ar9 lr9 cr9) ∧ Sep w no O w' (rl [Res.own c2 59 Ar9 lr9 cr9 r9]) ∧ R r9 := by
  unfold yaX at h; have hS : Sep w no O w (rl [Res.ro (FP.sl cI Ai li ci i)]) := Sep.startl hO [(FP.sl cI Ai li ci i)] ⟨hA0, trivial⟩; refine yay (l := [(ii d), (.slice Ai li ci)]) func79 rfl ntmps79 (Nat.le_of_ble_eq_true rfl) (zs (zq (za (.slice none 0 0)) (yaa (zs (zq (zm (.slice Ai li ci)) ?_))))); obtain ⟨hx, h⟩ := h; refine zq (zi underlying22 yai (yaF (hS.rdr 0 rfl) hx)) (zq (yaw (v := (ii (gi i (0 : Int).toNat))) rfl underlying3 rfl (rd_1 (hS.rdr 0 rfl) hx (fun q => yar q) rfl)) ?_); refine zq (za (ii (gi i (0 : Int).toNat))) (yaa (yag (zs (zq (zm (ii d)) (yaa (yam (zs (zq zE (zq (za (.bool (decide (d = 0)))) (yaa ?_)))))))))); by_cases hp : d = 0
  · replace h := h.1 hp; refine zc hp (zs (zq (zm (ii (gi i (0 : Int).toNat))) ?_)); obtain ⟨hi, h⟩ := h; refine zq (zS hi) (zn (yap rfl (am2 rfl rfl) enter_95 ((yei h (yaM _)).mono ?_))); rintro _ w2 ⟨r, Ar, lr, cr, rfl, hC, h⟩; replace hS := hS.call1 (hC.widen (ybt (yaB (fP (fI .i64) (fI .i64)) _ _ _ _ _) ybu) hS.blt) 1 0 rfl; clear hC; refine ⟨_, rfl, ?_⟩; exact zb (zq (za (.slice Ar lr cr)) (yaa (yas rfl rfl ⟨_, _, _, _, rfl, (hS.sel [1] (by decide)), h⟩)))
  · replace h := h.2 hp; refine zd hp (zs (zq zE (zq (za (.bool (decide (d = 1)))) (yaa ?_)))); by_cases hp2 : d = 1
    · replace h := h.1 hp2; refine zc hp2 (zs (zq (zm (ii (gi i (0 : Int).toNat))) ?_)); obtain ⟨hi2, h⟩ := h; refine zq (zS hi2) (zn (yap rfl (am2 rfl rfl) enter_95 ((yei h (yaM _)).mono ?_))); rintro _ w3 ⟨r2, Ar2, lr2, cr2, rfl, hC, h⟩; replace hS := hS.call1 (hC.widen (ybt (yaB (fP (fI .i64) (fI .i64)) _ _ _ _ _) ybu) hS.blt) 1 0 rfl; clear hC; refine ⟨_, rfl, ?_⟩; refine zb (zq (zm (ii (gi i (0 : Int).toNat))) (zq (zS hi2) (zn (ya2 (l := [(0, (ii ((gi i (0 : Int).toNat) - 1))), (1, (ii 0))]) (cells := [(ii ((gi i (0 : Int).toNat) - 1)), (ii 0)]) (bp2 rfl rfl) underlying59 yaA yai (by kernel_rfl) ?_)))); refine zb (zn (yaD (l := [(0, (.agg #[(ii ((gi i (0 : Int).toNat) - 1)), (ii 0)]))]) (cells := [(ii ((gi i (0 : Int).toNat) - 1)), (ii 0)]) (bp1 rfl) underlying57 yaA rfl rfl ?_)); intro g w4 hN; replace hS := hS.litf (n := 1) 2 rfl (fP (fI .i64) (fI .i64)) hN ([((gi i (0 : Int).toNat) - 1, 0)] : List (Int × Int)) rfl (by decide) rfl; clear hN; refine zb ?_; obtain ⟨hx2, h⟩ := h; refine zn (ycB (c := c2) rfl rfl underlying57 underlying57 yaA rfl rfl (by decide) hS 1 rfl (hS.yo 2 rfl) hx2 ?_); clear hS; intro A c w5 hS; exact zb (zq (za (.slice A (lr2 + 1) c)) (yaa (yas rfl rfl ⟨_, _, _, _, rfl, (hS.sel [1] (by decide)), h⟩)))
    · replace h := h.2 hp2; refine zd hp2 (zs (zq zE (zq (za (.bool (decide (d = 2)))) (yaa ?_)))); by_cases hp3 : d = 2
      · replace h := h.1 hp3; refine zc hp3 (zs (zq (zm (ii (gi i (0 : Int).toNat))) (zn (yap rfl (am2 rfl rfl) enter_96 ((ydo h (yaM _)).mono ?_))))); rintro _ w6 ⟨r3, Ar3, lr3, cr3, rfl, hC, h⟩; replace hS := hS.call1 (hC.widen (ybt (yaB (fP (fI .i64) (fI .i64)) _ _ _ _ _) ybu) hS.blt) 1 0 rfl; clear hC; refine ⟨_, rfl, ?_⟩; exact zb (zq (za (.slice Ar3 lr3 cr3)) (yaa (yas rfl rfl ⟨_, _, _, _, rfl, (hS.sel [1] (by decide)), h⟩)))
      · replace h := h.2 hp3; refine zd hp3 (zs (zq zE (zq (za (.bool (decide (d = 4)))) (yaa ?_)))); by_cases hp4 : d = 4
        · replace h := h.1 hp4; refine zc hp4 (zs (zn (yaD (l := []) (cells := []) (bp0) underlying57 yaA rfl rfl ?_))); intro g2 w7 hN; replace hS := hS.litf (n := 0) 1 rfl (fP (fI .i64) (fI .i64)) hN ([] : List (Int × Int)) rfl (by decide) rfl; clear hN; refine zb (zq (za (.slice (some ⟨g2, 0, none⟩) 0 0)) (yaa (yag (zs (zq (za (ii 0)) (yaa (yam ?_))))))); obtain ⟨I2, ⟨m0, h0⟩, hr⟩ := h; refine yaL (fun m E ds w' => ∃ v v2 Av lv cv, I2 m v v2 ∧ ds = [] ∧ E 5 = (ii (gi i (0 : Int).toNat)) ∧ E 6 = (Value.slice Av lv cv) ∧ E 7 = (ii v2) ∧ Sep w no O w' (rl [Res.own c2 59 Av lv cv v])) m0 ⟨_, _, _, _, _, h0, rfl, rfl, rfl, rfl, (hS.sel [1] (by decide))⟩ ?_; clear h0 hS; rintro m2 E ds w8 ⟨v, v2, Av, lv, cv, h, rfl, hE5, hE6, hE7, hS⟩ again; replace h := hr m2 v v2 h; clear hr; refine yag (zs (zq (yae hE7) (zq (yae (v := (ii (gi i (0 : Int).toNat))) hE5) (zq zL (yaa ?_))))); by_cases hp5 : v2 < (gi i (0 : Int).toNat)
          · replace h := h.1 hp5; refine zc hp5 (yak (yag (yam (zr (zq (yae hE6) (zn (ya2 (l := [(0, (ii 0)), (1, (ii 1))]) (cells := [(ii 0), (ii 1)]) (bp2 rfl rfl) underlying59 yaA yai (by kernel_rfl) ?_))))))); refine zb (zn (yaD (l := [(0, (.agg #[(ii 0), (ii 1)]))]) (cells := [(ii 0), (ii 1)]) (bp1 rfl) underlying57 yaA rfl rfl ?_)); intro g3 w9 hN; replace hS := hS.litf (n := 1) 1 rfl (fP (fI .i64) (fI .i64)) hN ([(0, 1)] : List (Int × Int)) rfl (by decide) rfl; clear hN; refine zb ?_; obtain ⟨hx3, h⟩ := h; refine zn (ycB (c := c2) rfl rfl underlying57 underlying57 yaA rfl rfl (by decide) hS 0 rfl (hS.yo 1 rfl) hx3 ?_); clear hS; intro A2 c2 w10 hS; refine zb (zq (za (.slice A2 (lv + 1) c2)) (yaa (yan (zr (zq (yae hE7) ?_))))); obtain ⟨hi4, h⟩ := h; refine zq (zA hi4) (zq (za (ii (v2 + 1))) (yaa ?_)); obtain ⟨mq, hlt, h⟩ := h; exact again mq _ _ _ ⟨_, _, _, _, _, h, rfl, hE5, rfl, rfl, (hS.sel [0] (by decide))⟩ hlt
          · replace h := h.2 hp5; exact zd hp5 (yaJ rfl (zs (zq (yae hE6) (zq (za (.slice Av lv cv)) (yaa (yas rfl rfl ⟨_, _, _, _, rfl, (hS.sel [0] (by decide)), h⟩))))))
        · replace h := h.2 hp4; refine zd hp4 (zs (zq zE (zq (za (.bool (decide (d = 5)))) (yaa ?_)))); by_cases hp6 : d = 5
          · replace h := h.1 hp6; refine zc hp6 (zs (zq (zm (ii (gi i (0 : Int).toNat))) (zn (yap rfl (am2 rfl rfl) enter_96 ((ydo h (yaM _)).mono ?_))))); rintro _ w11 ⟨r4, Ar4, lr4, cr4, rfl, hC, h⟩; replace hS := hS.call1 (hC.widen (ybt (yaB (fP (fI .i64) (fI .i64)) _ _ _ _ _) ybu) hS.blt) 1 0 rfl; clear hC; refine ⟨_, rfl, ?_⟩; refine zb (zq (zm (ii (gi i (0 : Int).toNat))) (zn (yap rfl (am2 rfl rfl) enter_95 ((yei h (yaM _)).mono ?_)))); rintro _ w12 ⟨r5, Ar5, lr5, cr5, rfl, hC, h⟩; replace hS := hS.call1 (hC.widen (ybt (yaB (fP (fI .i64) (fI .i64)) _ _ _ _ _) ybu) hS.blt) 2 0 rfl; clear hC; refine ⟨_, rfl, ?_⟩; refine zb ?_; obtain ⟨hx4, h⟩ := h; refine zn (ycB (c := c2) rfl rfl underlying57 underlying57 yaA rfl rfl (by decide) hS 1 rfl (hS.yo 2 rfl) hx4 ?_); clear hS; intro A3 c3 w13 hS; refine zb (zq (zm (ii (gi i (0 : Int).toNat))) (zn (ya2 (l := [(0, (ii (gi i (0 : Int).toNat))), (1, (ii 1))]) (cells := [(ii (gi i (0 : Int).toNat)), (ii 1)]) (bp2 rfl rfl) underlying59 yaA yai (by kernel_rfl) ?_))); refine zb (zn (yaD (l := [(0, (.agg #[(ii (gi i (0 : Int).toNat)), (ii 1)]))]) (cells := [(ii (gi i (0 : Int).toNat)), (ii 1)]) (bp1 rfl) underlying57 yaA rfl rfl ?_)); intro g4 w14 hN; replace hS := hS.litf (n := 1) 3 rfl (fP (fI .i64) (fI .i64)) hN ([(gi i (0 : Int).toNat, 1)] : List (Int × Int)) rfl (by decide) rfl; clear hN; refine zb ?_; obtain ⟨hx5, h⟩ := h; refine zn (ycB (c := c2) rfl rfl underlying57 underlying57 yaA rfl rfl (by decide) hS 1 rfl (hS.yo 3 rfl) hx5 ?_); clear hS; intro A4 c4 w15 hS; exact zb (zq (za (.slice A4 ((lr4 + lr5) + 1) c4)) (yaa (yas rfl rfl ⟨_, _, _, _, rfl, (hS.sel [1] (by decide)), h⟩)))
          · replace h := h.2 hp6; refine zd hp6 (zs (zq zE (zq (za (.bool (decide (d = 6)))) (yaa ?_)))); by_cases hp7 : d = 6
            · replace h := h.1 hp7; refine zc hp7 (zs (zq (zm (ii (gi i (0 : Int).toNat))) (zq (zm (.slice Ai li ci)) ?_))); obtain ⟨hx6, h⟩ := h; refine zq (zi underlying22 yai (yaF (hS.rdr 0 rfl) hx6)) (zq (yaw (v := (ii (gi i (1 : Int).toNat))) rfl underlying3 rfl (rd_1 (hS.rdr 0 rfl) hx6 (fun q => yar q) rfl)) ?_); refine zn (yap rfl (am2 rfl rfl) enter_96 ((ydo h (yaM _)).mono ?_)); rintro _ w16 ⟨r6, Ar6, lr6, cr6, rfl, hC, h⟩; replace hS := hS.call1 (hC.widen (ybt (yaB (fP (fI .i64) (fI .i64)) _ _ _ _ _) ybu) hS.blt) 1 0 rfl; clear hC; refine ⟨_, rfl, ?_⟩; exact zb (zq (za (.slice Ar6 lr6 cr6)) (yaa (yas rfl rfl ⟨_, _, _, _, rfl, (hS.sel [1] (by decide)), h⟩)))
            · replace h := h.2 hp7; refine zd hp7 (zs (zq zE (zq (za (.bool (decide (d = 7)))) (yaa ?_)))); by_cases hp8 : d = 7
              · replace h := h.1 hp8; refine zc hp8 (zs (zq (zm (ii (gi i (0 : Int).toNat))) (zq (zm (.slice Ai li ci)) ?_))); obtain ⟨hx7, h⟩ := h; refine zq (zi underlying22 yai (yaF (hS.rdr 0 rfl) hx7)) (zq (yaw (v := (ii (gi i (1 : Int).toNat))) rfl underlying3 rfl (rd_1 (hS.rdr 0 rfl) hx7 (fun q => yar q) rfl)) ?_); refine zn (yap rfl (am2 rfl rfl) enter_97 ((yfK h (yaM _)).mono ?_)); rintro _ w17 ⟨r7, Ar7, lr7, cr7, rfl, hC, h⟩; replace hS := hS.call1 (hC.widen (ybt (yaB (fP (fI .i64) (fI .i64)) _ _ _ _ _) ybu) hS.blt) 1 0 rfl; clear hC; refine ⟨_, rfl, ?_⟩; exact zb (zq (za (.slice Ar7 lr7 cr7)) (yaa (yas rfl rfl ⟨_, _, _, _, rfl, (hS.sel [1] (by decide)), h⟩)))
              · replace h := h.2 hp8; refine zd hp8 (zs (zq zE (zq (za (.bool (decide (d = 8)))) (yaa ?_)))); by_cases hp9 : d = 8
                · replace h := h.1 hp9; refine zc hp9 (zs (zq (zm (.slice Ai li ci)) (zn (yap rfl (am1 rfl) enter_98 ((yfr h (yaM _) (hS.rdr 0 rfl)).mono ?_))))); rintro _ w18 ⟨r8, Ar8, lr8, cr8, rfl, hC, h⟩; replace hS := hS.call1 (hC.widen (ybt (yaB (fP (fI .i64) (fI .i64)) _ _ _ _ _) ybu) hS.blt) 1 0 rfl; clear hC; refine ⟨_, rfl, ?_⟩; exact zb (zq (za (.slice Ar8 lr8 cr8)) (yaa (yas rfl rfl ⟨_, _, _, _, rfl, (hS.sel [1] (by decide)), h⟩)))
                · replace h := h.2 hp9; refine zd hp9 (yak (yan (zs (zq (za (.slice none 0 0)) (yaa (yag (zs (zq (za (ii 0)) (yaa (yam ?_)))))))))); replace hS := hS.nil 1 rfl c2 59; obtain ⟨I3, ⟨m0, h0⟩, hr⟩ := h; refine yaL (fun m E ds w' => ∃ v3 v4 Av2 lv2 cv2, I3 m v3 v4 ∧ ds = [] ∧ E 5 = (ii (gi i (0 : Int).toNat)) ∧ E 8 = (Value.slice Av2 lv2 cv2) ∧ E 9 = (ii v4) ∧ Sep w no O w' (rl [Res.own c2 59 Av2 lv2 cv2 v3])) m0 ⟨_, _, _, _, _, h0, rfl, rfl, rfl, rfl, (hS.sel [1] (by decide))⟩ ?_; clear h0 hS; rintro m4 E ds w19 ⟨v3, v4, Av2, lv2, cv2, h, rfl, hE5, hE8, hE9, hS⟩ again2; replace h := hr m4 v3 v4 h; clear hr; refine yag (zs (zq (yae hE9) (zq (yae (v := (ii (gi i (0 : Int).toNat))) hE5) (zq zL (yaa ?_))))); by_cases hp10 : v4 < (gi i (0 : Int).toNat)
                  · replace h := h.1 hp10; refine zc hp10 (yak (yag (yam (zs (zq (yae hE9) ?_))))); obtain ⟨hi5, h⟩ := h; refine zq (zA hi5) (zq (za (ii (v4 + 1))) (yaa (yam ?_))); obtain ⟨I4, ⟨m0, h0⟩, hr⟩ := h; refine yaL (fun m E ds w' => ∃ v5 v6 Av3 lv3 cv3, I4 m v5 v6 ∧ ds = [] ∧ E 5 = (ii (gi i (0 : Int).toNat)) ∧ E 8 = (Value.slice Av3 lv3 cv3) ∧ E 9 = (ii v4) ∧ E 10 = (ii v6) ∧ Sep w no O w' (rl [Res.own c2 59 Av3 lv3 cv3 v5])) m0 ⟨_, _, _, _, _, h0, rfl, hE5, hE8, hE9, rfl, (hS.sel [0] (by decide))⟩ ?_; clear h0 hS; rintro m5 E ds w20 ⟨v5, v6, Av3, lv3, cv3, h, rfl, hE5, hE8, hE9, hE10, hS⟩ again3; replace h := hr m5 v5 v6 h; clear hr; refine yag (zs (zq (yae hE10) (zq (yae (v := (ii (gi i (0 : Int).toNat))) hE5) (zq zL (yaa ?_))))); by_cases hp11 : v6 < (gi i (0 : Int).toNat)
                    · replace h := h.1 hp11; refine zc hp11 (yak (yag (yam (zr (zq (yae hE8) (zq (yae hE9) (zq (yae hE10) (zn (ya2 (l := [(0, (ii v4)), (1, (ii v6))]) (cells := [(ii v4), (ii v6)]) (bp2 rfl rfl) underlying59 yaA yai (by kernel_rfl) ?_))))))))); refine zb (zn (yaD (l := [(0, (.agg #[(ii v4), (ii v6)]))]) (cells := [(ii v4), (ii v6)]) (bp1 rfl) underlying57 yaA rfl rfl ?_)); intro g5 w21 hN; replace hS := hS.litf (n := 1) 1 rfl (fP (fI .i64) (fI .i64)) hN ([(v4, v6)] : List (Int × Int)) rfl (by decide) rfl; clear hN; refine zb ?_; obtain ⟨hx8, h⟩ := h; refine zn (ycB (c := c2) rfl rfl underlying57 underlying57 yaA rfl rfl (by decide) hS 0 rfl (hS.yo 1 rfl) hx8 ?_); clear hS; intro A5 c5 w22 hS; refine zb (zq (za (.slice A5 (lv3 + 1) c5)) (yaa (yan (zr (zq (yae hE10) ?_))))); obtain ⟨hi6, h⟩ := h; refine zq (zA hi6) (zq (za (ii (v6 + 1))) (yaa ?_)); obtain ⟨mq, hlt, h⟩ := h; exact again3 mq _ _ _ ⟨_, _, _, _, _, h, rfl, hE5, rfl, hE9, rfl, (hS.sel [0] (by decide))⟩ hlt
                    · replace h := h.2 hp11; refine zd hp11 (yaJ rfl (yan (zr (zq (yae hE9) (zq (zA hi5) (zq (za (ii (v4 + 1))) (yaa ?_))))))); obtain ⟨mq, hlt, h⟩ := h; exact again2 mq _ _ _ ⟨_, _, _, _, _, h, rfl, hE5, hE8, rfl, (hS.sel [0] (by decide))⟩ hlt
                  · replace h := h.2 hp10; exact zd hp10 (yaJ rfl (zs (zq (yae hE8) (zq (za (.slice Av2 lv2 cv2)) (yaa (yas rfl rfl ⟨_, _, _, _, rfl, (hS.sel [0] (by decide)), h⟩))))))
def ydf (n : Int) (times : List (List Int)) (R : Int → (List E3) → Prop) : Prop :=
(∃ I2 : Nat → Int → (List E3) → Prop, (∃ m0, I2 m0 0 ([])) ∧ ∀ m2 a g3, I2 m2 a g3 → 
((a < n →
(∃ I3 : Nat → Int → (List E3) → Prop, (∃ m0, I3 m0 a g3) ∧ ∀ m3 b g4, I3 m3 b g4 → 
((b < n →
((0 ≤ a ∧ a < ((times.length : Nat) : Int)) ∧
((0 ≤ b ∧ b < (((gx times a.toNat).length : Nat) : Int)) ∧
((0 < (gi (gx times a.toNat) b.toNat) →
(g4.length + 1 ≤ 1000000000 ∧
(In64 (b + 1) ∧
∃ m4, m4 < m3 ∧ I3 m4 (b + 1) (g4 ++ [(a, b, gi (gx times a.toNat) b.toNat)])))) ∧
(¬ (0 < (gi (gx times a.toNat) b.toNat)) →
(In64 (b + 1) ∧
∃ m5, m5 < m3 ∧ I3 m5 (b + 1) g4)))))) ∧
(¬ (b < n) →
(In64 (a + 1) ∧
∃ m6, m6 < m2 ∧ I2 m6 (a + 1) g4))))) ∧
(¬ (a < n) →
R n g3)))
theorem pok_r08_Joined {O : Nat → Prop} {w : World} {n times Atimes ltimes ctimes} {R : Int → (List E3) → Prop} (h : ydf n times R) (hO : ∀ k, O k → k < w.heap.size) (hA0 : (FP.sl (cL cI) Atimes ltimes ctimes times).P O w) :
    Calls Try.prog 94 #[(ii n), (.slice Atimes ltimes ctimes)] w fun e w' => ∃ r r2 Ar lr cr, e = .returned (.agg #[(ii r), (.slice Ar lr cr)]) ∧ Sep w no O w' (rl [Res.own c3 75 Ar lr cr r2]) ∧ R r r2 := by
  unfold ydf at h; have hS : Sep w no O w (rl [Res.ro (FP.sl (cL cI) Atimes ltimes ctimes times)]) := Sep.startl hO [(FP.sl (cL cI) Atimes ltimes ctimes times)] ⟨hA0, trivial⟩; refine yay (l := [(ii n), (.slice Atimes ltimes ctimes)]) func94 rfl ntmps94 (Nat.le_of_ble_eq_true rfl) (zs (zn (yaH yal ?_))); intro g w2 hN; replace hS : Sep w no O w2 (stl _ 1 (Res.box 31 g [(ii 0), (.slice none 0 0)])) := hS.new 1 rfl hN; clear hN; refine zb (yaa (zs (zq (zm (ii n)) (zn (yax (l := [(0, (ii n))]) (cells := [(ii n), (.slice none 0 0)]) (places := [(0, 1), (1, 1)]) (bp1 rfl) underlying31 yal (by kernel_rfl) rfl ?_))))); refine zb (zn (yaH yal ?_)); intro g2 w3 hN; replace hS : Sep w no O w3 (stl _ 2 (Res.box 31 g2 [(ii 0), (.slice none 0 0)])) := hS.new 2 rfl hN; clear hN; refine zb (zo (yaj (b := g2) (o := 0) (cells := #[(ii n), (.slice none 0 0)]) rfl rfl yal rfl rfl (yah (hS.bx 2 rfl) (Nat.le_of_ble_eq_true rfl)) ?_)); intro w4 e1; replace hS := hS.bstn 2 rfl 0 [(ii n), (.slice none 0 0)] e1; clear e1; refine zb (yaa (yag (zs (zq (za (ii 0)) (yaa (yam ?_)))))); replace hS := hS.nil 3 rfl c3 75; obtain ⟨I2, ⟨m0, h0⟩, hr⟩ := h; refine yaL (fun m E ds w' => ∃ a g3 Ag lg cg, I2 m a g3 ∧ ds = [] ∧ E 0 = (ii n) ∧ E 1 = (Value.slice Atimes ltimes ctimes) ∧ E 4 = (Value.pointer (some (⟨g, 0, none⟩ : Addr))) ∧ E 5 = (Value.pointer (some (⟨g2, 0, none⟩ : Addr))) ∧ E 6 = (ii a) ∧ Sep w no O w' (rl [Res.ro (FP.sl (cL cI) Atimes ltimes ctimes times), Res.box 31 g [(ii 0), (.slice none 0 0)], Res.box 31 g2 [(ii n), (.slice Ag lg cg)], Res.own c3 75 Ag lg cg g3])) m0 ⟨_, _, _, _, _, h0, rfl, rfl, rfl, rfl, rfl, rfl, (hS.sel [0, 1, 2, 3] (by decide))⟩ ?_; clear h0 hS; rintro m2 E ds w5 ⟨a, g3, Ag, lg, cg, h, rfl, hE0, hE1, hE4, hE5, hE6, hS⟩ again; replace h := hr m2 a g3 h; clear hr; refine yag (zs (zq (yae hE6) (zq (yae hE0) (zq zL (yaa ?_))))); by_cases hp : a < n
  · replace h := h.1 hp; refine zc hp (yak (yag (yam (zs (zq (yae hE6) (zq (za (ii a)) (yaa (yam ?_)))))))); obtain ⟨I3, ⟨m0, h0⟩, hr⟩ := h; refine yaL (fun m E ds w' => ∃ b g4 Ag2 lg2 cg2, I3 m b g4 ∧ ds = [] ∧ E 0 = (ii n) ∧ E 1 = (Value.slice Atimes ltimes ctimes) ∧ E 4 = (Value.pointer (some (⟨g, 0, none⟩ : Addr))) ∧ E 5 = (Value.pointer (some (⟨g2, 0, none⟩ : Addr))) ∧ E 6 = (ii a) ∧ E 7 = (ii b) ∧ Sep w no O w' (rl [Res.ro (FP.sl (cL cI) Atimes ltimes ctimes times), Res.box 31 g [(ii 0), (.slice none 0 0)], Res.box 31 g2 [(ii n), (.slice Ag2 lg2 cg2)], Res.own c3 75 Ag2 lg2 cg2 g4])) m0 ⟨_, _, _, _, _, h0, rfl, hE0, hE1, hE4, hE5, hE6, rfl, (hS.sel [0, 1, 2, 3] (by decide))⟩ ?_; clear h0 hS; rintro m3 E ds w6 ⟨b, g4, Ag2, lg2, cg2, h, rfl, hE0, hE1, hE4, hE5, hE6, hE7, hS⟩ again2; replace h := hr m3 b g4 h; clear hr; refine yag (zs (zq (yae hE7) (zq (yae hE0) (zq zL (yaa ?_))))); by_cases hp2 : b < n
    · replace h := h.1 hp2; refine zc hp2 (yak (yag (yam (zs (zq (yae hE1) (zq (yae hE6) ?_)))))); obtain ⟨hx, h⟩ := h; refine zq (zi underlying108 yfx (yaF (hS.rdr 0 rfl) hx)) ?_; obtain ⟨A, l, c, hc, hq⟩ := hS.el 0 rfl hx 4 5 rfl rfl (by decide); replace hS := hq; clear hq; refine zq (yaw (v := (.slice A l c)) rfl underlying22 rfl (hS.clr 5 rfl)) (zq (yae hE7) ?_); obtain ⟨hx2, h⟩ := h; refine zq (zi underlying22 yai (yaF (hS.rdr 4 rfl) hx2)) (zq (yaw (v := (ii (gi (gx times a.toNat) b.toNat))) rfl underlying3 rfl (rd_1 (hS.rdr 4 rfl) hx2 (fun q => yar q) rfl)) ?_); refine zq zG (yaa ?_); by_cases hp3 : 0 < (gi (gx times a.toNat) b.toNat)
      · replace h := h.1 hp3; refine zc hp3 (ya6 [0, 1, 2, 3, 4, 5, 6, 7, 8, 9, 10, 11, 12, 13, 14, 15] (fun i => match i with | 11 => [0, 1] | 12 => [0, 1] | _ => []) yaS (by kernel_rfl) (by kernel_rfl) ?_); replace hS := hS.drew; refine zp (yao hE5 underlying31 rfl ybW) (zp (zl underlying29 (Row.cell (hS.bx 2 rfl) (i := 1) rfl)) (zp (yae hE6) (zp (yae hE7) (zp (yae hE1) (zp (yae hE6) (zp (zi underlying108 yfx (yaF (hS.rdr 0 rfl) hx)) ?_)))))); obtain ⟨A2, l2, c2, hc2, hq⟩ := hS.el 0 rfl hx 6 7 rfl rfl (by decide); replace hS := hq; clear hq; refine zp (yaw (v := (.slice A2 l2 c2)) rfl underlying22 rfl (hS.clr 7 rfl)) (zp (yae hE7) (zp (zi underlying22 yai (yaF (hS.rdr 6 rfl) hx2)) (zp (yaw (v := (ii (gi (gx times a.toNat) b.toNat))) rfl underlying3 rfl (rd_1 (hS.rdr 6 rfl) hx2 (fun q => yar q) rfl)) ?_))); refine rp_n rfl rfl rfl rfl (yax (l := [(0, (ii a)), (1, (ii b)), (2, (ii (gi (gx times a.toNat) b.toNat)))]) (cells := [(ii a), (ii b), (ii (gi (gx times a.toNat) b.toNat))]) (places := [(0, 1), (1, 1), (2, 1)]) (bp3 rfl rfl rfl) underlying75 ybA (by kernel_rfl) rfl ?_); refine ⟨⟨fun hh => Bool.noConfusion (show false = true from hh), ⟨fun hh => Bool.noConfusion (show false = true from hh), ⟨fun hh => Bool.noConfusion (show false = true from hh), ⟨fun hh => Bool.noConfusion (show false = true from hh), ⟨fun hh => Bool.noConfusion (show false = true from hh), ⟨fun hh => Bool.noConfusion (show false = true from hh), ⟨fun hh => Bool.noConfusion (show false = true from hh), ⟨fun hh => Bool.noConfusion (show false = true from hh), ⟨fun hh => Bool.noConfusion (show false = true from hh), ⟨fun _ => (zl underlying29 (Row.cell (hS.bx 2 rfl) (i := 1) rfl)), ⟨fun _ => (yao hE5 underlying31 rfl ybW), trivial⟩⟩⟩⟩⟩⟩⟩⟩⟩⟩⟩, ?_⟩; refine rp_n rfl rfl rfl rfl (yaD (l := [(0, (.agg #[(ii a), (ii b), (ii (gi (gx times a.toNat) b.toNat))]))]) (cells := [(ii a), (ii b), (ii (gi (gx times a.toNat) b.toNat))]) (bp1 rfl) underlying29 ybA rfl rfl ?_); intro g5 w7 hN; replace hS := hS.litf (n := 1) 8 rfl (fP (fI .i64) (fP (fI .i64) (fI .i64))) hN ([(a, b, gi (gx times a.toNat) b.toNat)] : List E3) rfl (by decide) rfl; clear hN; refine ⟨⟨fun hh => Bool.noConfusion (show false = true from hh), ⟨fun hh => Bool.noConfusion (show false = true from hh), ⟨fun hh => Bool.noConfusion (show false = true from hh), ⟨fun hh => Bool.noConfusion (show false = true from hh), ⟨fun hh => Bool.noConfusion (show false = true from hh), ⟨fun hh => Bool.noConfusion (show false = true from hh), ⟨fun hh => Bool.noConfusion (show false = true from hh), ⟨fun hh => Bool.noConfusion (show false = true from hh), ⟨fun hh => Bool.noConfusion (show false = true from hh), ⟨fun _ => (zl underlying29 (Row.cell (hS.bx 2 rfl) (i := 1) rfl)), ⟨fun _ => (yao hE5 underlying31 rfl ybW), trivial⟩⟩⟩⟩⟩⟩⟩⟩⟩⟩⟩, ?_⟩; obtain ⟨hx3, h⟩ := h; refine rp_n rfl rfl rfl rfl (ycB (c := c3) rfl rfl underlying29 underlying29 ybA rfl rfl (by decide) hS 3 rfl (hS.yo 8 rfl) hx3 ?_); clear hS; intro A3 c3 w8 hS; refine zb (zp (yao hE5 underlying31 rfl ybW) (yfN rfl rfl rfl (zt (.slice A3 (lg2 + 1) c3) ybW (hS.bwr 2 rfl (j := 1) rfl) ?_))); intro w9 e1; replace hS := hS.bst 2 rfl 1 (.slice A3 (lg2 + 1) c3) e1; clear e1; refine zb (ybk (yan (zr (zq (yae hE7) ?_)))); obtain ⟨hi, h⟩ := h; refine zq (zA hi) (zq (za (ii (b + 1))) (yaa ?_)); obtain ⟨mq, hlt, h⟩ := h; exact again2 mq _ _ _ ⟨_, _, _, _, _, h, rfl, hE0, hE1, hE4, hE5, hE6, rfl, (hS.sel [0, 1, 2, 3] (by decide))⟩ hlt
      · replace h := h.2 hp3; refine zd hp3 (yak (yan (zr (zq (yae hE7) ?_)))); obtain ⟨hi2, h⟩ := h; refine zq (zA hi2) (zq (za (ii (b + 1))) (yaa ?_)); obtain ⟨mq, hlt, h⟩ := h; exact again2 mq _ _ _ ⟨_, _, _, _, _, h, rfl, hE0, hE1, hE4, hE5, hE6, rfl, (hS.sel [0, 1, 2, 3] (by decide))⟩ hlt
    · replace h := h.2 hp2; refine zd hp2 (yaJ rfl (yan (zr (zq (yae hE6) ?_)))); obtain ⟨hi3, h⟩ := h; refine zq (zA hi3) (zq (za (ii (a + 1))) (yaa ?_)); obtain ⟨mq, hlt, h⟩ := h; exact again mq _ _ _ ⟨_, _, _, _, _, h, rfl, hE0, hE1, hE4, hE5, rfl, (hS.sel [0, 1, 2, 3] (by decide))⟩ hlt
  · replace h := h.2 hp; refine zd hp (yaJ rfl (zs (zq (yaY (vs := [(ii n), (.slice Ag lg cg)]) hE5 underlying31 rfl yal ⟨Row.cell (hS.bx 2 rfl) (i := 0) rfl, Row.cell (hS.bx 2 rfl) (i := 1) rfl, trivial⟩) (zo (yaj (b := g) (o := 0) (cells := #[(ii n), (.slice Ag lg cg)]) hE4 rfl yal rfl rfl (yah (hS.bx 1 rfl) (Nat.le_of_ble_eq_true rfl)) ?_))))); intro w10 e1; replace hS := hS.bstn 1 rfl 0 [(ii n), (.slice Ag lg cg)] e1; clear e1; exact zb (yaa (ye1 rfl (rv_n (vs := [(ii n), (.slice Ag lg cg)]) hE4 underlying31 rfl yal ⟨Row.cell (hS.bx 1 rfl) (i := 0) rfl, Row.cell (hS.bx 1 rfl) (i := 1) rfl, trivial⟩) ⟨_, _, _, _, _, rfl, (hS.sel [3] (by decide)), h⟩))
end Go.Proofs.Ytdbpajnjhgocoaa

/- Table, whose rows stay one's own; printed by tab.py. -/
namespace Go.Proofs.Ytdbpajnjhgocoaa
open Go Go.RowKit Go.Shelf Go.Proofs.Try
set_option linter.unusedVariables false
set_option maxRecDepth 100000
theorem tab_r08_Table {O : Nat → Prop} {w : World} {n : Int} (hn : 0 ≤ n ∧ n ≤ 1000) (hO : ∀ k, O k → k < w.heap.size) :
    Calls Try.prog 93 #[(Value.int .i64 n)] w fun e w' => ∃ Ar : Option Addr, ∃ lr : Nat, ∃ cr : Nat, ∃ Gr : List Nat, e = .returned (Value.slice Ar lr cr) ∧ Sep w no O w' (rl [Res.own cA 22 Ar lr cr (ows Gr (List.replicate n.toNat (List.replicate n.toNat (0 : Int)))), Res.rows 3 Gr (List.replicate n.toNat (List.replicate n.toNat (0 : Int)))]) := by
  have hS : Sep w no O w (rl []) := Sep.start w hO
  refine yay (l := [(Value.int .i64 n)]) func93 rfl ntmps93 (Nat.le_of_ble_eq_true rfl) ?_
  refine yag ?_
  refine ybV yaS ?_
  refine rl_q rfl rfl rfl (ydN (v := (Value.slice none 0 0)) rfl) ?_
  refine yaa ?_
  refine yag ?_
  refine ybV yaS ?_
  refine rl_q rfl rfl rfl (ydN (v := (Value.slice none 0 0)) rfl) ?_
  refine yaa ?_
  refine yag ?_
  refine yag ?_
  refine ybV yaS ?_
  refine rl_q rfl rfl rfl (ydN (v := (Value.int .i64 0)) rfl) ?_
  refine yaa ?_
  refine yam ?_
  replace hS := hS.tabnil 0 1 rfl rfl rfl 22 3
  refine yaL (fun m E ds w' => ∃ k : Nat, ∃ Aout : Option Addr, ∃ lout : Nat, ∃ cout : Nat, ∃ G : List Nat, k + m = n.toNat ∧ ds = [] ∧ E 0 = (Value.int .i64 n) ∧ E 3 = (Value.slice Aout lout cout) ∧ E 4 = (Value.int .i64 (k : Int)) ∧ Sep w no O w' (rl [Res.own cA 22 Aout lout cout (ows G (List.replicate k (List.replicate n.toNat (0 : Int)))), Res.rows 3 G (List.replicate k (List.replicate n.toNat (0 : Int)))])) n.toNat ⟨0, _, _, _, [], by omega, rfl, rfl, rfl, rfl, (hS.sel [0, 1] (by decide))⟩ ?_
  clear hS
  rintro m2 E ds w2 ⟨k, Aout, lout, cout, G, h, rfl, hE0, hE3, hE4, hS⟩ again
  refine yag ?_
  refine yag ?_
  refine ybV yaS ?_
  refine rl_q rfl rfl rfl (yae (v := (Value.int .i64 (k : Int))) hE4) ?_
  refine rl_q rfl rfl rfl (yae (v := (Value.int .i64 n)) hE0) ?_
  refine rl_q rfl rfl rfl (ycT rfl rfl) ?_
  refine yaa ?_
  by_cases hp : (k : Int) < n
  · have h := h
    refine yaz (congrArg Value.bool (decide_eq_true hp)) ?_
    refine yak ?_
    refine yag ?_
    refine yam ?_
    refine ybV yaS ?_
    refine rl_q rfl rfl rfl (yae (v := (Value.slice Aout lout cout)) hE3) ?_
    refine rl_q rfl rfl rfl (yae (v := (Value.int .i64 n)) hE0) ?_
    refine rl_n rfl rfl rfl rfl (n_make rfl rfl underlying22 yai (by decide) rfl (by omega) ?_)
    intro g w3 hN
    replace hS := hS.made 2 rfl cI (Value.int .i64 0) (0 : Int) (fun _ _ => rfl) hN (by omega)
    clear hN
    refine ⟨Stb.none _, ?_⟩
    refine rl_n rfl rfl rfl rfl (yaD (l := [(0, (Value.slice (some ⟨g, 0, none⟩) n.toNat n.toNat))]) (cells := [(Value.slice (some ⟨g, 0, none⟩) n.toNat n.toNat)]) (bp1 rfl) underlying108 yfx rfl rfl ?_)
    intro g2 w4 hN
    replace hS := hS.litf (n := 1) 3 rfl fA hN ([((some ⟨g, 0, none⟩ : Option Addr), n.toNat, n.toNat)]) rfl (by decide) rfl
    clear hN
    refine ⟨Stb.none _, ?_⟩
    refine rl_n rfl rfl rfl rfl (ycB (c := cA) rfl rfl underlying108 underlying108 yfx rfl rfl (by decide) hS 0 rfl (hS.yo 3 rfl) (by rw [ows_len (hS.rowsl 1 rfl)]; simp; omega) ?_)
    clear hS
    intro A c w5 hS
    replace hS := hS.rowpush 1 0 2 rfl rfl rfl rfl rfl rfl
    rw [← List.replicate_succ'] at hS
    refine ⟨Stb.none _, ?_⟩
    refine rl_q rfl rfl rfl (ydN (v := (Value.slice A (lout + 1) c)) rfl) ?_
    refine yaa ?_
    refine yan ?_
    refine ybV yaS ?_
    refine rl_q rfl rfl rfl (yae (v := (Value.int .i64 (k : Int))) hE4) ?_
    refine rl_q rfl rfl rfl (yca rfl rfl (show In64 ((k : Int) + 1) from ⟨by omega, by omega⟩)) ?_
    refine rl_q rfl rfl rfl (ydN (v := (Value.int .i64 ((k : Int) + 1))) rfl) ?_
    refine yaa ?_
    exact again (m2 - 1) _ _ _ ⟨k + 1, _, _, _, _, by omega, rfl, hE0, rfl, by simp [upd], (hS.sel [0, 1] (by decide))⟩ (by omega)
  · have h := h
    refine yaQ (congrArg Value.bool (decide_eq_false hp)) ?_
    refine yaJ rfl ?_
    refine yag ?_
    refine ybV yaS ?_
    refine rl_q rfl rfl rfl (yae (v := (Value.slice Aout lout cout)) hE3) ?_
    refine rl_q rfl rfl rfl (ydN (v := (Value.slice Aout lout cout)) rfl) ?_
    refine yaa ?_
    have hk : k = n.toNat := by omega
    subst hk
    exact yas rfl rfl ⟨_, _, _, _, rfl, (hS.sel [0, 1] (by decide))⟩
end Go.Proofs.Ytdbpajnjhgocoaa

/- Pure forms of functions, made by program (pf.py), each with the proof that the code does so. -/
namespace Go.Proofs.Ytdbpajnjhgocoaa
open Go Go.RowKit Go.Shelf Go.Proofs.Try
set_option linter.unusedVariables false
set_option maxRecDepth 100000
set_option maxHeartbeats 8000000
end Go.Proofs.Ytdbpajnjhgocoaa

/- Pure forms of functions, made by program (pf.py), each with the proof that the code does so. -/
namespace Go.Proofs.Ytdbpajnjhgocoaa
open Go Go.RowKit Go.Shelf Go.Proofs.Try
set_option linter.unusedVariables false
set_option maxRecDepth 100000
set_option maxHeartbeats 8000000
def ydU (d : Int) (i : List (Int × Int)) (R : Int → (List E3) → Int → Prop) : Prop :=
(∃ J2 : Prop, (J2 → ((4096 < ((i.length : Nat) : Int) →
R 0 ([]) 5) ∧
(¬ (4096 < ((i.length : Nat) : Int)) →
((0 ≤ d ∧ d ≤ 1000) ∧
(∃ I2 : Nat → Int → (List (List Int)) → Prop, (∃ m0, I2 m0 0 (List.replicate d.toNat (List.replicate d.toNat (0 : Int)))) ∧ ∀ m2 v v2, I2 m2 v v2 → 
((v < ((i.length : Nat) : Int) →
((0 ≤ v ∧ v < ((i.length : Nat) : Int)) ∧
((0 ≤ (0 : Int) ∧ (0 : Int) < 2) ∧
((0 ≤ (1 : Int) ∧ (1 : Int) < 2) ∧
(∃ J3 : Prop, (J3 → ((0 ≤ (mnF ((gx i v.toNat).1) ((gx i v.toNat).2)) ∧ (mnF ((gx i v.toNat).1) ((gx i v.toNat).2)) < ((v2.length : Nat) : Int)) ∧
((0 ≤ (mxF ((gx i v.toNat).1) ((gx i v.toNat).2)) ∧ (mxF ((gx i v.toNat).1) ((gx i v.toNat).2)) < (((gx v2 (mnF ((gx i v.toNat).1) ((gx i v.toNat).2)).toNat).length : Nat) : Int)) ∧
(In64 ((gi (gx v2 (mnF ((gx i v.toNat).1) ((gx i v.toNat).2)).toNat) (mxF ((gx i v.toNat).1) ((gx i v.toNat).2)).toNat) + 1) ∧
(In64 (v + 1) ∧
∃ m3, m3 < m2 ∧ I2 m3 (v + 1) (v2.set (mnF ((gx i v.toNat).1) ((gx i v.toNat).2)).toNat ((gx v2 (mnF ((gx i v.toNat).1) ((gx i v.toNat).2)).toNat).set (mxF ((gx i v.toNat).1) ((gx i v.toNat).2)).toNat ((gi (gx v2 (mnF ((gx i v.toNat).1) ((gx i v.toNat).2)).toNat) (mxF ((gx i v.toNat).1) ((gx i v.toNat).2)).toNat) + 1)))))))) ∧
((((gx i v.toNat).1) < 0 →
R 0 ([]) 2) ∧
(¬ (((gx i v.toNat).1) < 0) →
((d ≤ ((gx i v.toNat).1) →
R 0 ([]) 2) ∧
(¬ (d ≤ ((gx i v.toNat).1)) →
((((gx i v.toNat).2) < 0 →
R 0 ([]) 2) ∧
(¬ (((gx i v.toNat).2) < 0) →
((d ≤ ((gx i v.toNat).2) →
R 0 ([]) 2) ∧
(¬ (d ≤ ((gx i v.toNat).2)) →
J3))))))))))))) ∧
(¬ (v < ((i.length : Nat) : Int)) →
(∃ I3 : Nat → Int → Prop, (∃ m0, I3 m0 0) ∧ ∀ m4 v3, I3 m4 v3 → 
((v3 < d →
(∃ I4 : Nat → Int → Prop, (∃ m0, I4 m0 0) ∧ ∀ m5 v4, I4 m5 v4 → 
((v4 < d →
((0 ≤ v3 ∧ v3 < ((v2.length : Nat) : Int)) ∧
((0 ≤ v4 ∧ v4 < (((gx v2 v3.toNat).length : Nat) : Int)) ∧
((50 < (gi (gx v2 v3.toNat) v4.toNat) →
R 0 ([]) 5) ∧
(¬ (50 < (gi (gx v2 v3.toNat) v4.toNat)) →
(In64 (v4 + 1) ∧
∃ m6, m6 < m5 ∧ I4 m6 (v4 + 1))))))) ∧
(¬ (v4 < d) →
(In64 (v3 + 1) ∧
∃ m7, m7 < m4 ∧ I3 m7 (v3 + 1)))))) ∧
(¬ (v3 < d) →
ydf d v2 (fun r r2 =>
R r r2 0))))))))))) ∧
((d < 1 →
R 0 ([]) 2) ∧
(¬ (d < 1) →
((12 < d →
R 0 ([]) 2) ∧
(¬ (12 < d) →
J2)))))
theorem pok_r08_Make {O : Nat → Prop} {w : World} {d i Ai li ci} {R : Int → (List E3) → Int → Prop} (h : ydU d i R) (hO : ∀ k, O k → k < w.heap.size) (hA0 : (FP.sl c2 Ai li ci i).P O w) :
    Calls Try.prog 78 #[(ii d), (.slice Ai li ci)] w fun e w' => ∃ r3 r4 r5 Ar2 lr2 cr2, e = .returned (.tuple #[(.agg #[(ii r3), (.slice Ar2 lr2 cr2)]), (ii r5)]) ∧ Sep w no O w' (rl [Res.own c3 75 Ar2 lr2 cr2 r4]) ∧ R r3 r4 r5 := by
  unfold ydU at h; have hS : Sep w no O w (rl [Res.ro (FP.sl c2 Ai li ci i)]) := Sep.startl hO [(FP.sl c2 Ai li ci i)] ⟨hA0, trivial⟩; refine yay (l := [(ii d), (.slice Ai li ci)]) func78 rfl ntmps78 (Nat.le_of_ble_eq_true rfl) (zs (zn (yaH yal ?_))); intro g w2 hN; replace hS : Sep w no O w2 (stl _ 1 (Res.box 31 g [(ii 0), (.slice none 0 0)])) := hS.new 1 rfl hN; clear hN; refine zb (zq (za (ii 0)) (yaa (yag (yag ?_)))); obtain ⟨J2, hJ, h⟩ := h; refine ycE (fun E ds w' => J2 ∧ ds = [] ∧ E 0 = (ii d) ∧ E 1 = (Value.slice Ai li ci) ∧ E 4 = (Value.pointer (some (⟨g, 0, none⟩ : Addr))) ∧ Sep w no O w' (rl [Res.ro (FP.sl c2 Ai li ci i), Res.box 31 g [(ii 0), (.slice none 0 0)]])) ?_ ?_
  · clear h hS; rintro E ds w3 ⟨h, rfl, hE0, hE1, hE4, hS⟩; replace h := hJ h; refine yag (zs (zq (yae hE1) (zq (ybp (n := i.length) rfl underlying57 (ybi (hS.rdr 0 rfl))) (zq zG (yaa ?_))))); by_cases hp : 4096 < ((i.length : Nat) : Int)
    · replace h := h.1 hp; refine zc hp (zs (zn (yax (l := []) (cells := [(ii 0), (.slice none 0 0)]) (places := [(0, 1), (1, 1)]) (bp0) underlying31 yal (by kernel_rfl) rfl ?_))); refine zb (zo (yaj (b := g) (o := 0) (cells := #[(ii 0), (.slice none 0 0)]) hE4 rfl yal rfl rfl (yah (hS.bx 1 rfl) (Nat.le_of_ble_eq_true rfl)) ?_)); intro w4 e1; replace hS := hS.bstn 1 rfl 0 [(ii 0), (.slice none 0 0)] e1; clear e1; refine zb (zq (za (ii 5)) (yaa ?_)); replace hS := hS.nil 2 rfl c3 75; exact yaq rfl (rv_n (vs := [(ii 0), (.slice none 0 0)]) hE4 underlying31 rfl yal ⟨Row.cell (hS.bx 1 rfl) (i := 0) rfl, Row.cell (hS.bx 1 rfl) (i := 1) rfl, trivial⟩) (rv_t rfl) ⟨_, _, _, _, _, _, rfl, (hS.sel [2] (by decide)), h⟩
    · replace h := h.2 hp; refine zd hp (yak (zs (zq (yae hE0) ?_))); obtain ⟨hx, h⟩ := h; refine zn (yap rfl (am1 rfl) enter_93 ((tab_r08_Table hx hS.blt).mono ?_)); rintro _ w5 ⟨At, lt, ct, Gt, rfl, hC⟩; replace hS := hS.call2 hC 2 0 3 1 rfl rfl (by decide) (by decide); clear hC; refine ⟨_, rfl, ?_⟩; refine zb (zq (za (.slice At lt ct)) (yaa (yag (zs (zq (za (ii 0)) (yaa (yam ?_))))))); obtain ⟨I2, ⟨m0, h0⟩, hr⟩ := h; refine yaL (fun m E ds w' => ∃ v v2, I2 m v v2 ∧ ds = [] ∧ E 0 = (ii d) ∧ E 1 = (Value.slice Ai li ci) ∧ E 4 = (Value.pointer (some (⟨g, 0, none⟩ : Addr))) ∧ E 6 = (Value.slice At lt ct) ∧ E 7 = (ii v) ∧ Sep w no O w' (rl [Res.ro (FP.sl c2 Ai li ci i), Res.box 31 g [(ii 0), (.slice none 0 0)], Res.own cA 22 At lt ct (ows Gt v2), Res.rows 3 Gt v2])) m0 ⟨_, _, h0, rfl, hE0, hE1, hE4, rfl, rfl, (hS.sel [0, 1, 2, 3] (by decide))⟩ ?_; clear h0 hS; rintro m2 E ds w6 ⟨v, v2, h, rfl, hE0, hE1, hE4, hE6, hE7, hS⟩ again; replace h := hr m2 v v2 h; clear hr; refine yag (zs (zq (yae hE7) (zq (yae hE1) (zq (ybp (n := i.length) rfl underlying57 (ybi (hS.rdr 0 rfl))) (zq zL (yaa ?_)))))); by_cases hp2 : v < ((i.length : Nat) : Int)
      · replace h := h.1 hp2; refine zc hp2 (yak (yag (yam (yag (ya6 [0, 1, 2, 3, 4, 5, 6, 7, 8, 9, 10, 11] st0 yaS (by kernel_rfl) (by kernel_rfl) ?_))))); replace hS := hS.drew; refine zp (yae hE1) (zp (yae hE7) ?_); obtain ⟨hx2, h⟩ := h; refine zp (zi underlying57 yaA (yaF (hS.rdr 0 rfl) hx2)) ?_; obtain ⟨hx3, h⟩ := h; refine zp (ydV rfl rfl underlying59 yai hx3) (zp (yaw (v := (ii ((gx i v.toNat).1))) rfl underlying3 rfl (rd_f (hS.rdr 0 rfl) hx2 (fun q => ydC q) 0 rfl)) ?_); refine zp (yae hE1) (zp (yae hE7) (zp (zi underlying57 yaA (yaF (hS.rdr 0 rfl) hx2)) ?_)); obtain ⟨hx4, h⟩ := h; refine zp (ydV rfl rfl underlying59 yai hx4) (zp (yaw (v := (ii ((gx i v.toNat).2))) rfl underlying3 rfl (rd_f (hS.rdr 0 rfl) hx2 (fun q => ydC q) 1 rfl)) ?_); refine zp (za (ii ((gx i v.toNat).1))) (zp (za (ii ((gx i v.toNat).2))) (ybk (yag (yag ?_)))); obtain ⟨J3, hJ, h⟩ := h; refine ycE (fun E ds w' => J3 ∧ ds = [] ∧ E 0 = (ii d) ∧ E 1 = (Value.slice Ai li ci) ∧ E 4 = (Value.pointer (some (⟨g, 0, none⟩ : Addr))) ∧ E 6 = (Value.slice At lt ct) ∧ E 7 = (ii v) ∧ E 8 = (ii ((gx i v.toNat).1)) ∧ E 9 = (ii ((gx i v.toNat).2)) ∧ Sep w no O w' (rl [Res.ro (FP.sl c2 Ai li ci i), Res.box 31 g [(ii 0), (.slice none 0 0)], Res.own cA 22 At lt ct (ows Gt v2), Res.rows 3 Gt v2])) ?_ ?_
        · clear h hS; rintro E ds w7 ⟨h, rfl, hE0, hE1, hE4, hE6, hE7, hE8, hE9, hS⟩; replace h := hJ h; refine zr (zq (yae hE6) (zq (yae (v := (ii ((gx i v.toNat).1))) hE8) (zq (yae (v := (ii ((gx i v.toNat).2))) hE9) (zq (v_min2 rfl rfl) ?_)))); obtain ⟨hx5, h⟩ := h; refine zq (zi underlying108 yfx (hS.rowix 3 2 rfl rfl hx5)) (zq (yaw (v := (.slice (rowA Gt (mnF ((gx i v.toNat).1) ((gx i v.toNat).2))) ((gx v2 (mnF ((gx i v.toNat).1) ((gx i v.toNat).2)).toNat).length) ((gx v2 (mnF ((gx i v.toNat).1) ((gx i v.toNat).2)).toNat).length))) rfl underlying22 rfl (hS.rowcell 3 2 rfl rfl hx5)) (zq (yae (v := (ii ((gx i v.toNat).1))) hE8) (zq (yae (v := (ii ((gx i v.toNat).2))) hE9) (zq (v_max2 rfl rfl) ?_)))); obtain ⟨hx6, h⟩ := h; refine zq (zi underlying22 yai (yaF (hS.rowfp 3 rfl hx5) hx6)) (zq (yaw (v := (ii (gi (gx v2 (mnF ((gx i v.toNat).1) ((gx i v.toNat).2)).toNat) (mxF ((gx i v.toNat).1) ((gx i v.toNat).2)).toNat))) rfl underlying3 rfl (rd_1 (f := fI .i64) (hS.rowfp 3 rfl hx5) hx6 (fun q => yar q) rfl)) ?_); obtain ⟨hi, h⟩ := h; refine zq (zA hi) (zq (zi underlying22 yai (yaF (hS.rowfp 3 rfl hx5) hx6)) (zo (zt (ii ((gi (gx v2 (mnF ((gx i v.toNat).1) ((gx i v.toNat).2)).toNat) (mxF ((gx i v.toNat).1) ((gx i v.toNat).2)).toNat) + 1)) yai (hS.rowwr 3 rfl hx5 hx6) ?_))); intro w8 e1; replace hS := hS.rowst 3 rfl hx5 hx6 ((gi (gx v2 (mnF ((gx i v.toNat).1) ((gx i v.toNat).2)).toNat) (mxF ((gx i v.toNat).1) ((gx i v.toNat).2)).toNat) + 1) e1; clear e1; replace hS := hS.rowre 2 rfl (T' := (v2.set (mnF ((gx i v.toNat).1) ((gx i v.toNat).2)).toNat ((gx v2 (mnF ((gx i v.toNat).1) ((gx i v.toNat).2)).toNat).set (mxF ((gx i v.toNat).1) ((gx i v.toNat).2)).toNat ((gi (gx v2 (mnF ((gx i v.toNat).1) ((gx i v.toNat).2)).toNat) (mxF ((gx i v.toNat).1) ((gx i v.toNat).2)).toNat) + 1)))) (ows_set (ydC (tn_lt hx5)) (List.length_set ..)); refine zb (yaa (yan (zr (zq (yae hE7) ?_)))); obtain ⟨hi2, h⟩ := h; refine zq (zA hi2) (zq (za (ii (v + 1))) (yaa ?_)); obtain ⟨mq, hlt, h⟩ := h; exact again mq _ _ _ ⟨_, _, h, rfl, hE0, hE1, hE4, hE6, rfl, (hS.sel [0, 1, 2, 3] (by decide))⟩ hlt
        clear hJ; intro j2; refine zr (zq (zm (ii ((gx i v.toNat).1))) (zq zL (zq (zm (.bool (decide (((gx i v.toNat).1) < 0)))) ?_))); by_cases hp3 : ((gx i v.toNat).1) < 0
        · replace h := h.1 hp3; refine rl_p (yab rfl (yad rfl (congrArg Value.bool (decide_eq_true hp3))) rfl) rfl (rl_p (yab rfl (yad rfl (congrArg Value.bool (decide_eq_true hp3))) rfl) rfl (rl_p (yab rfl (yad rfl (congrArg Value.bool (decide_eq_true hp3))) rfl) rfl (zq (yau (v := (.bool (true))) (congrArg Value.bool (decide_eq_true hp3)) rfl) (zq (zm (.bool (true))) (rl_p (yab rfl (yad rfl rfl) rfl) rfl (rl_p (yab rfl (yad rfl rfl) rfl) rfl (zq (yau (v := (.bool (true))) rfl rfl) (zq (zm (.bool (true))) (rl_p (yab rfl (yad rfl rfl) rfl) rfl (rl_p (yab rfl (yad rfl rfl) rfl) rfl (rl_p (yab rfl (yad rfl rfl) rfl) rfl (zq (yau (v := (.bool (true))) rfl rfl) (yaa (yaz rfl (zs (zn (yax (l := []) (cells := [(ii 0), (.slice none 0 0)]) (places := [(0, 1), (1, 1)]) (bp0) underlying31 yal (by kernel_rfl) rfl ?_))))))))))))))))); refine zb (zo (yaj (b := g) (o := 0) (cells := #[(ii 0), (.slice none 0 0)]) hE4 rfl yal rfl rfl (yah (hS.bx 1 rfl) (Nat.le_of_ble_eq_true rfl)) ?_)); intro w9 e1; replace hS := hS.bstn 1 rfl 0 [(ii 0), (.slice none 0 0)] e1; clear e1; refine zb (zq (za (ii 2)) (yaa ?_)); replace hS := hS.nil 4 rfl c3 75; exact yaq rfl (rv_n (vs := [(ii 0), (.slice none 0 0)]) hE4 underlying31 rfl yal ⟨Row.cell (hS.bx 1 rfl) (i := 0) rfl, Row.cell (hS.bx 1 rfl) (i := 1) rfl, trivial⟩) (rv_t rfl) ⟨_, _, _, _, _, _, rfl, (hS.sel [4] (by decide)), h⟩
        · replace h := h.2 hp3; refine rl_q (yac rfl (yad rfl (congrArg Value.bool (decide_eq_false hp3)))) rfl rfl (zm (ii ((gx i v.toNat).1))) (rl_q (yac rfl (yad rfl (congrArg Value.bool (decide_eq_false hp3)))) rfl rfl (yae hE0) (rl_q (yac rfl (yad rfl (congrArg Value.bool (decide_eq_false hp3)))) rfl rfl (v_geq rfl rfl) (zq (yav (v := (.bool (decide (d ≤ ((gx i v.toNat).1))))) (congrArg Value.bool (decide_eq_false hp3)) rfl) (zq (zm (.bool (decide (d ≤ ((gx i v.toNat).1))))) ?_)))); by_cases hp4 : d ≤ ((gx i v.toNat).1)
          · replace h := h.1 hp4; refine rl_p (yab rfl (yad rfl (congrArg Value.bool (decide_eq_true hp4))) rfl) rfl (rl_p (yab rfl (yad rfl (congrArg Value.bool (decide_eq_true hp4))) rfl) rfl (zq (yau (v := (.bool (true))) (congrArg Value.bool (decide_eq_true hp4)) rfl) (zq (zm (.bool (true))) (rl_p (yab rfl (yad rfl rfl) rfl) rfl (rl_p (yab rfl (yad rfl rfl) rfl) rfl (rl_p (yab rfl (yad rfl rfl) rfl) rfl (zq (yau (v := (.bool (true))) rfl rfl) (yaa (yaz rfl (zs (zn (yax (l := []) (cells := [(ii 0), (.slice none 0 0)]) (places := [(0, 1), (1, 1)]) (bp0) underlying31 yal (by kernel_rfl) rfl ?_)))))))))))); refine zb (zo (yaj (b := g) (o := 0) (cells := #[(ii 0), (.slice none 0 0)]) hE4 rfl yal rfl rfl (yah (hS.bx 1 rfl) (Nat.le_of_ble_eq_true rfl)) ?_)); intro w10 e1; replace hS := hS.bstn 1 rfl 0 [(ii 0), (.slice none 0 0)] e1; clear e1; refine zb (zq (za (ii 2)) (yaa ?_)); replace hS := hS.nil 4 rfl c3 75; exact yaq rfl (rv_n (vs := [(ii 0), (.slice none 0 0)]) hE4 underlying31 rfl yal ⟨Row.cell (hS.bx 1 rfl) (i := 0) rfl, Row.cell (hS.bx 1 rfl) (i := 1) rfl, trivial⟩) (rv_t rfl) ⟨_, _, _, _, _, _, rfl, (hS.sel [4] (by decide)), h⟩
          · replace h := h.2 hp4; refine rl_q (yac rfl (yad rfl (congrArg Value.bool (decide_eq_false hp4)))) rfl rfl (zm (ii ((gx i v.toNat).2))) (rl_q (yac rfl (yad rfl (congrArg Value.bool (decide_eq_false hp4)))) rfl rfl zL (zq (yav (v := (.bool (decide (((gx i v.toNat).2) < 0)))) (congrArg Value.bool (decide_eq_false hp4)) rfl) (zq (zm (.bool (decide (((gx i v.toNat).2) < 0)))) ?_))); by_cases hp5 : ((gx i v.toNat).2) < 0
            · replace h := h.1 hp5; refine rl_p (yab rfl (yad rfl (congrArg Value.bool (decide_eq_true hp5))) rfl) rfl (rl_p (yab rfl (yad rfl (congrArg Value.bool (decide_eq_true hp5))) rfl) rfl (rl_p (yab rfl (yad rfl (congrArg Value.bool (decide_eq_true hp5))) rfl) rfl (zq (yau (v := (.bool (true))) (congrArg Value.bool (decide_eq_true hp5)) rfl) (yaa (yaz rfl (zs (zn (yax (l := []) (cells := [(ii 0), (.slice none 0 0)]) (places := [(0, 1), (1, 1)]) (bp0) underlying31 yal (by kernel_rfl) rfl ?_)))))))); refine zb (zo (yaj (b := g) (o := 0) (cells := #[(ii 0), (.slice none 0 0)]) hE4 rfl yal rfl rfl (yah (hS.bx 1 rfl) (Nat.le_of_ble_eq_true rfl)) ?_)); intro w11 e1; replace hS := hS.bstn 1 rfl 0 [(ii 0), (.slice none 0 0)] e1; clear e1; refine zb (zq (za (ii 2)) (yaa ?_)); replace hS := hS.nil 4 rfl c3 75; exact yaq rfl (rv_n (vs := [(ii 0), (.slice none 0 0)]) hE4 underlying31 rfl yal ⟨Row.cell (hS.bx 1 rfl) (i := 0) rfl, Row.cell (hS.bx 1 rfl) (i := 1) rfl, trivial⟩) (rv_t rfl) ⟨_, _, _, _, _, _, rfl, (hS.sel [4] (by decide)), h⟩
            · replace h := h.2 hp5; refine rl_q (yac rfl (yad rfl (congrArg Value.bool (decide_eq_false hp5)))) rfl rfl (zm (ii ((gx i v.toNat).2))) (rl_q (yac rfl (yad rfl (congrArg Value.bool (decide_eq_false hp5)))) rfl rfl (yae hE0) (rl_q (yac rfl (yad rfl (congrArg Value.bool (decide_eq_false hp5)))) rfl rfl (v_geq rfl rfl) (zq (yav (v := (.bool (decide (d ≤ ((gx i v.toNat).2))))) (congrArg Value.bool (decide_eq_false hp5)) rfl) (yaa ?_)))); by_cases hp6 : d ≤ ((gx i v.toNat).2)
              · replace h := h.1 hp6; refine zc hp6 (zs (zn (yax (l := []) (cells := [(ii 0), (.slice none 0 0)]) (places := [(0, 1), (1, 1)]) (bp0) underlying31 yal (by kernel_rfl) rfl ?_))); refine zb (zo (yaj (b := g) (o := 0) (cells := #[(ii 0), (.slice none 0 0)]) hE4 rfl yal rfl rfl (yah (hS.bx 1 rfl) (Nat.le_of_ble_eq_true rfl)) ?_)); intro w12 e1; replace hS := hS.bstn 1 rfl 0 [(ii 0), (.slice none 0 0)] e1; clear e1; refine zb (zq (za (ii 2)) (yaa ?_)); replace hS := hS.nil 4 rfl c3 75; exact yaq rfl (rv_n (vs := [(ii 0), (.slice none 0 0)]) hE4 underlying31 rfl yal ⟨Row.cell (hS.bx 1 rfl) (i := 0) rfl, Row.cell (hS.bx 1 rfl) (i := 1) rfl, trivial⟩) (rv_t rfl) ⟨_, _, _, _, _, _, rfl, (hS.sel [4] (by decide)), h⟩
              · replace h := h.2 hp6; exact zd hp6 (yak (j2 _ _ _ ⟨h, rfl, hE0, hE1, hE4, hE6, hE7, rfl, rfl, (hS.sel [0, 1, 2, 3] (by decide))⟩))
      · replace h := h.2 hp2; refine zd hp2 (yaJ rfl (yag (zs (zq (za (ii 0)) (yaa (yam ?_)))))); obtain ⟨I3, ⟨m0, h0⟩, hr⟩ := h; refine yaL (fun m E ds w' => ∃ v3, I3 m v3 ∧ ds = [] ∧ E 0 = (ii d) ∧ E 4 = (Value.pointer (some (⟨g, 0, none⟩ : Addr))) ∧ E 6 = (Value.slice At lt ct) ∧ E 10 = (ii v3) ∧ Sep w no O w' (rl [Res.box 31 g [(ii 0), (.slice none 0 0)], Res.own cA 22 At lt ct (ows Gt v2), Res.rows 3 Gt v2])) m0 ⟨_, h0, rfl, hE0, hE4, hE6, rfl, (hS.sel [1, 2, 3] (by decide))⟩ ?_; clear h0 hS; rintro m4 E ds w13 ⟨v3, h, rfl, hE0, hE4, hE6, hE10, hS⟩ again2; replace h := hr m4 v3 h; clear hr; refine yag (zs (zq (yae hE10) (zq (yae hE0) (zq zL (yaa ?_))))); by_cases hp7 : v3 < d
        · replace h := h.1 hp7; refine zc hp7 (yak (yag (yam (zs (zq (za (ii 0)) (yaa (yam ?_))))))); obtain ⟨I4, ⟨m0, h0⟩, hr⟩ := h; refine yaL (fun m E ds w' => ∃ v4, I4 m v4 ∧ ds = [] ∧ E 0 = (ii d) ∧ E 4 = (Value.pointer (some (⟨g, 0, none⟩ : Addr))) ∧ E 6 = (Value.slice At lt ct) ∧ E 10 = (ii v3) ∧ E 11 = (ii v4) ∧ Sep w no O w' (rl [Res.box 31 g [(ii 0), (.slice none 0 0)], Res.own cA 22 At lt ct (ows Gt v2), Res.rows 3 Gt v2])) m0 ⟨_, h0, rfl, hE0, hE4, hE6, hE10, rfl, (hS.sel [0, 1, 2] (by decide))⟩ ?_; clear h0 hS; rintro m5 E ds w14 ⟨v4, h, rfl, hE0, hE4, hE6, hE10, hE11, hS⟩ again3; replace h := hr m5 v4 h; clear hr; refine yag (zs (zq (yae hE11) (zq (yae hE0) (zq zL (yaa ?_))))); by_cases hp8 : v4 < d
          · replace h := h.1 hp8; refine zc hp8 (yak (yag (yam (zs (zq (yae hE6) (zq (yae hE10) ?_)))))); obtain ⟨hx7, h⟩ := h; refine zq (zi underlying108 yfx (hS.rowix 2 1 rfl rfl hx7)) (zq (yaw (v := (.slice (rowA Gt v3) ((gx v2 v3.toNat).length) ((gx v2 v3.toNat).length))) rfl underlying22 rfl (hS.rowcell 2 1 rfl rfl hx7)) (zq (yae hE11) ?_)); obtain ⟨hx8, h⟩ := h; refine zq (zi underlying22 yai (yaF (hS.rowfp 2 rfl hx7) hx8)) (zq (yaw (v := (ii (gi (gx v2 v3.toNat) v4.toNat))) rfl underlying3 rfl (rd_1 (f := fI .i64) (hS.rowfp 2 rfl hx7) hx8 (fun q => yar q) rfl)) ?_); refine zq zG (yaa ?_); by_cases hp9 : 50 < (gi (gx v2 v3.toNat) v4.toNat)
            · replace h := h.1 hp9; refine zc hp9 (zs (zn (yax (l := []) (cells := [(ii 0), (.slice none 0 0)]) (places := [(0, 1), (1, 1)]) (bp0) underlying31 yal (by kernel_rfl) rfl ?_))); refine zb (zo (yaj (b := g) (o := 0) (cells := #[(ii 0), (.slice none 0 0)]) hE4 rfl yal rfl rfl (yah (hS.bx 0 rfl) (Nat.le_of_ble_eq_true rfl)) ?_)); intro w15 e1; replace hS := hS.bstn 0 rfl 0 [(ii 0), (.slice none 0 0)] e1; clear e1; refine zb (zq (za (ii 5)) (yaa ?_)); replace hS := hS.nil 3 rfl c3 75; exact yaq rfl (rv_n (vs := [(ii 0), (.slice none 0 0)]) hE4 underlying31 rfl yal ⟨Row.cell (hS.bx 0 rfl) (i := 0) rfl, Row.cell (hS.bx 0 rfl) (i := 1) rfl, trivial⟩) (rv_t rfl) ⟨_, _, _, _, _, _, rfl, (hS.sel [3] (by decide)), h⟩
            · replace h := h.2 hp9; refine zd hp9 (yak (yan (zr (zq (yae hE11) ?_)))); obtain ⟨hi3, h⟩ := h; refine zq (zA hi3) (zq (za (ii (v4 + 1))) (yaa ?_)); obtain ⟨mq, hlt, h⟩ := h; exact again3 mq _ _ _ ⟨_, h, rfl, hE0, hE4, hE6, hE10, rfl, (hS.sel [0, 1, 2] (by decide))⟩ hlt
          · replace h := h.2 hp8; refine zd hp8 (yaJ rfl (yan (zr (zq (yae hE10) ?_)))); obtain ⟨hi4, h⟩ := h; refine zq (zA hi4) (zq (za (ii (v3 + 1))) (yaa ?_)); obtain ⟨mq, hlt, h⟩ := h; exact again2 mq _ _ _ ⟨_, h, rfl, hE0, hE4, hE6, rfl, (hS.sel [0, 1, 2] (by decide))⟩ hlt
        · replace h := h.2 hp7; refine zd hp7 (yaJ rfl (zs (zq (yae hE0) (zq (yae hE6) ?_)))); replace hS := hS.rowfrz 2 1 rfl rfl rfl; refine zn (yap rfl (am2 rfl rfl) enter_94 ((pok_r08_Joined h (yaM _) (hS.rdo 1 rfl)).mono ?_)); rintro _ w16 ⟨r, r2, Ar, lr, cr, rfl, hC, h⟩; replace hS := hS.call1 (hC.widen (ybt (yaB (fP (fI .i64) (fP (fI .i64) (fI .i64))) _ _ _ _ _) ybu) hS.blt) 3 0 rfl; clear hC; refine ⟨_, rfl, ?_⟩; refine zb (zo (yaj (b := g) (o := 0) (cells := #[(ii r), (.slice Ar lr cr)]) hE4 rfl yal rfl rfl (yah (hS.bx 0 rfl) (Nat.le_of_ble_eq_true rfl)) ?_)); intro w17 e1; replace hS := hS.bstn 0 rfl 0 [(ii r), (.slice Ar lr cr)] e1; clear e1; exact zb (zq (za (ii 0)) (yaa (yaq rfl (rv_n (vs := [(ii r), (.slice Ar lr cr)]) hE4 underlying31 rfl yal ⟨Row.cell (hS.bx 0 rfl) (i := 0) rfl, Row.cell (hS.bx 0 rfl) (i := 1) rfl, trivial⟩) (rv_t rfl) ⟨_, _, _, _, _, _, rfl, (hS.sel [3] (by decide)), h⟩)))
  clear hJ; intro j; refine zr (zq (zm (ii d)) (zq zL (zq (zm (.bool (decide (d < 1)))) ?_))); by_cases hp10 : d < 1
  · replace h := h.1 hp10; refine rl_p (yab rfl (yad rfl (congrArg Value.bool (decide_eq_true hp10))) rfl) rfl (rl_p (yab rfl (yad rfl (congrArg Value.bool (decide_eq_true hp10))) rfl) rfl (zq (yau (v := (.bool (true))) (congrArg Value.bool (decide_eq_true hp10)) rfl) (yaa (yaz rfl (zs (zn (yax (l := []) (cells := [(ii 0), (.slice none 0 0)]) (places := [(0, 1), (1, 1)]) (bp0) underlying31 yal (by kernel_rfl) rfl ?_))))))); refine zb (zo (yaj (b := g) (o := 0) (cells := #[(ii 0), (.slice none 0 0)]) rfl rfl yal rfl rfl (yah (hS.bx 1 rfl) (Nat.le_of_ble_eq_true rfl)) ?_)); intro w18 e1; replace hS := hS.bstn 1 rfl 0 [(ii 0), (.slice none 0 0)] e1; clear e1; refine zb (zq (za (ii 2)) (yaa ?_)); replace hS := hS.nil 2 rfl c3 75; exact yaq rfl (rv_n (vs := [(ii 0), (.slice none 0 0)]) rfl underlying31 rfl yal ⟨Row.cell (hS.bx 1 rfl) (i := 0) rfl, Row.cell (hS.bx 1 rfl) (i := 1) rfl, trivial⟩) (rv_t rfl) ⟨_, _, _, _, _, _, rfl, (hS.sel [2] (by decide)), h⟩
  · replace h := h.2 hp10; refine rl_q (yac rfl (yad rfl (congrArg Value.bool (decide_eq_false hp10)))) rfl rfl (zm (ii d)) (rl_q (yac rfl (yad rfl (congrArg Value.bool (decide_eq_false hp10)))) rfl rfl zG (zq (yav (v := (.bool (decide (12 < d)))) (congrArg Value.bool (decide_eq_false hp10)) rfl) (yaa ?_))); by_cases hp11 : 12 < d
    · replace h := h.1 hp11; refine zc hp11 (zs (zn (yax (l := []) (cells := [(ii 0), (.slice none 0 0)]) (places := [(0, 1), (1, 1)]) (bp0) underlying31 yal (by kernel_rfl) rfl ?_))); refine zb (zo (yaj (b := g) (o := 0) (cells := #[(ii 0), (.slice none 0 0)]) rfl rfl yal rfl rfl (yah (hS.bx 1 rfl) (Nat.le_of_ble_eq_true rfl)) ?_)); intro w19 e1; replace hS := hS.bstn 1 rfl 0 [(ii 0), (.slice none 0 0)] e1; clear e1; refine zb (zq (za (ii 2)) (yaa ?_)); replace hS := hS.nil 2 rfl c3 75; exact yaq rfl (rv_n (vs := [(ii 0), (.slice none 0 0)]) rfl underlying31 rfl yal ⟨Row.cell (hS.bx 1 rfl) (i := 0) rfl, Row.cell (hS.bx 1 rfl) (i := 1) rfl, trivial⟩) (rv_t rfl) ⟨_, _, _, _, _, _, rfl, (hS.sel [2] (by decide)), h⟩
    · replace h := h.2 hp11; exact zd hp11 (yak (j _ _ _ ⟨h, rfl, rfl, rfl, rfl, (hS.sel [0, 1] (by decide))⟩))
end Go.Proofs.Ytdbpajnjhgocoaa

/- Pure forms of functions, made by program (pf.py), each with the proof that the code does so. -/
namespace Go.Proofs.Ytdbpajnjhgocoaa
open Go Go.RowKit Go.Shelf Go.Proofs.Try
set_option linter.unusedVariables false
set_option maxRecDepth 100000
set_option maxHeartbeats 8000000
def ydM (kind : Int) (l : List Int) (R : Int → (List E3) → Prop) : Prop :=
yce kind l (fun r =>
yaX kind l (fun r2 =>
ydU r r2 (fun r3 r4 r5 =>
R r3 r4)))
theorem pok_r11_Made {O : Nat → Prop} {w : World} {kind l Al ll cl} {R : Int → (List E3) → Prop} (h : ydM kind l R) (hO : ∀ k, O k → k < w.heap.size) (hA0 : (FP.sl cI Al ll cl l).P O w) :
    Calls Try.prog 35 #[(ii kind), (.slice Al ll cl)] w fun e w' => ∃ r6 r7 Ar3 lr3 cr3, e = .returned (.agg #[(ii r6), (.slice Ar3 lr3 cr3)]) ∧ Sep w no O w' (rl [Res.own c3 75 Ar3 lr3 cr3 r7]) ∧ R r6 r7 := by
  unfold ydM at h; have hS : Sep w no O w (rl [Res.ro (FP.sl cI Al ll cl l)]) := Sep.startl hO [(FP.sl cI Al ll cl l)] ⟨hA0, trivial⟩; refine yay (l := [(ii kind), (.slice Al ll cl)]) func35 rfl ntmps35 (Nat.le_of_ble_eq_true rfl) (zs (zn (yaH yal ?_))); intro g w2 hN; replace hS : Sep w no O w2 (stl _ 1 (Res.box 31 g [(ii 0), (.slice none 0 0)])) := hS.new 1 rfl hN; clear hN; refine zb (yaa (zs (zq (zm (ii kind)) (zq (zm (.slice Al ll cl)) (zn (yap rfl (am2 rfl rfl) enter_41 ((yd3 h (yaM _) (hS.rdr 0 rfl)).mono ?_))))))); rintro _ w3 ⟨r, rfl, hC, h⟩; replace hS := hS.pur hC.pure; clear hC; refine ⟨_, rfl, ?_⟩; refine zb (zq (zm (ii kind)) (zq (zm (.slice Al ll cl)) (zn (yap rfl (am2 rfl rfl) enter_79 ((pok_r11_ends h (yaM _) (hS.rdr 0 rfl)).mono ?_))))); rintro _ w4 ⟨r2, Ar, lr, cr, rfl, hC, h⟩; replace hS := hS.call1 (hC.widen (ybt (yaB (fP (fI .i64) (fI .i64)) _ _ _ _ _) ybu) hS.blt) 2 0 rfl; clear hC; refine ⟨_, rfl, ?_⟩; refine zb (zn (yap rfl (am2 rfl rfl) enter_78 ((pok_r08_Make h (yaM _) (hS.rdo 2 rfl)).mono ?_))); rintro _ w5 ⟨r3, r4, r5, Ar2, lr2, cr2, rfl, hC, h⟩; replace hS := hS.call1 (hC.widen (ybt (yaB (fP (fI .i64) (fP (fI .i64) (fI .i64))) _ _ _ _ _) ybu) hS.blt) 3 0 rfl; clear hC; refine ⟨_, rfl, ?_⟩; refine zb (zq (zm (.tuple #[(.agg #[(ii r3), (.slice Ar2 lr2 cr2)]), (ii r5)])) (zq (zx (.agg #[(ii r3), (.slice Ar2 lr2 cr2)])) (zq (zx (ii r5)) (zn (yaH yal ?_))))); intro g2 w6 hN; replace hS : Sep w no O w6 (stl _ 4 (Res.box 31 g2 [(ii 0), (.slice none 0 0)])) := hS.new 4 rfl hN; clear hN; refine zb (zo (yaj (b := g2) (o := 0) (cells := #[(ii r3), (.slice Ar2 lr2 cr2)]) rfl rfl yal rfl rfl (yah (hS.bx 4 rfl) (Nat.le_of_ble_eq_true rfl)) ?_)); intro w7 e1; replace hS := hS.bstn 4 rfl 0 [(ii r3), (.slice Ar2 lr2 cr2)] e1; clear e1; refine zb (zq (za (ii r5)) (yaa (zs (zq (yaY (vs := [(ii r3), (.slice Ar2 lr2 cr2)]) rfl underlying31 rfl yal ⟨Row.cell (hS.bx 4 rfl) (i := 0) rfl, Row.cell (hS.bx 4 rfl) (i := 1) rfl, trivial⟩) (zo (yaj (b := g) (o := 0) (cells := #[(ii r3), (.slice Ar2 lr2 cr2)]) rfl rfl yal rfl rfl (yah (hS.bx 1 rfl) (Nat.le_of_ble_eq_true rfl)) ?_)))))); intro w8 e1; replace hS := hS.bstn 1 rfl 0 [(ii r3), (.slice Ar2 lr2 cr2)] e1; clear e1; exact zb (yaa (ye1 rfl (rv_n (vs := [(ii r3), (.slice Ar2 lr2 cr2)]) rfl underlying31 rfl yal ⟨Row.cell (hS.bx 1 rfl) (i := 0) rfl, Row.cell (hS.bx 1 rfl) (i := 1) rfl, trivial⟩) ⟨_, _, _, _, _, rfl, (hS.sel [3] (by decide)), h⟩))
def yd0 (kind : Int) (l : List Int) (R : Int → (List E3) → Int → Prop) : Prop :=
ydu kind l (fun r =>
((r = 0 →
ydM kind l (fun r2 r3 =>
R r2 r3 0)) ∧
(¬ (r = 0) →
R 0 ([]) r)))
theorem pok_r11_Make {O : Nat → Prop} {w : World} {kind l Al ll cl} {R : Int → (List E3) → Int → Prop} (h : yd0 kind l R) (hO : ∀ k, O k → k < w.heap.size) (hA0 : (FP.sl cI Al ll cl l).P O w) :
    Calls Try.prog 14 #[(ii kind), (.slice Al ll cl)] w fun e w' => ∃ r4 r5 r6 Ar2 lr2 cr2, e = .returned (.tuple #[(.agg #[(ii r4), (.slice Ar2 lr2 cr2)]), (ii r6)]) ∧ Sep w no O w' (rl [Res.own c3 75 Ar2 lr2 cr2 r5]) ∧ R r4 r5 r6 := by
  unfold yd0 at h; have hS : Sep w no O w (rl [Res.ro (FP.sl cI Al ll cl l)]) := Sep.startl hO [(FP.sl cI Al ll cl l)] ⟨hA0, trivial⟩; refine yay (l := [(ii kind), (.slice Al ll cl)]) func14 rfl ntmps14 (Nat.le_of_ble_eq_true rfl) (zs (zn (yaH yal ?_))); intro g w2 hN; replace hS : Sep w no O w2 (stl _ 1 (Res.box 31 g [(ii 0), (.slice none 0 0)])) := hS.new 1 rfl hN; clear hN; refine zb (zq (za (ii 0)) (yaa (yag (zs (zq (zm (ii kind)) (zq (zm (.slice Al ll cl)) (zn (yap rfl (am2 rfl rfl) enter_23 ((yha h (yaM _) (hS.rdr 0 rfl)).mono ?_))))))))); rintro _ w3 ⟨r, rfl, hC, h⟩; replace hS := hS.pur hC.pure; clear hC; refine ⟨_, rfl, ?_⟩; refine zb (zq (za (ii r)) (yaa (zs (zq (zm (ii r)) (zq zN (yaa ?_)))))); by_cases hp : r = 0
  · replace h := h.1 hp; refine ze hp (yak (zs (zq (zm (ii kind)) (zq (zm (.slice Al ll cl)) (zn (yap rfl (am2 rfl rfl) enter_35 ((pok_r11_Made h (yaM _) (hS.rdr 0 rfl)).mono ?_))))))); rintro _ w4 ⟨r2, r3, Ar, lr, cr, rfl, hC, h⟩; replace hS := hS.call1 (hC.widen (ybt (yaB (fP (fI .i64) (fP (fI .i64) (fI .i64))) _ _ _ _ _) ybu) hS.blt) 2 0 rfl; clear hC; refine ⟨_, rfl, ?_⟩; refine zb (zo (yaj (b := g) (o := 0) (cells := #[(ii r2), (.slice Ar lr cr)]) rfl rfl yal rfl rfl (yah (hS.bx 1 rfl) (Nat.le_of_ble_eq_true rfl)) ?_)); intro w5 e1; replace hS := hS.bstn 1 rfl 0 [(ii r2), (.slice Ar lr cr)] e1; clear e1; exact zb (zq (za (ii 0)) (yaa (yaq rfl (rv_n (vs := [(ii r2), (.slice Ar lr cr)]) rfl underlying31 rfl yal ⟨Row.cell (hS.bx 1 rfl) (i := 0) rfl, Row.cell (hS.bx 1 rfl) (i := 1) rfl, trivial⟩) (rv_t rfl) ⟨_, _, _, _, _, _, rfl, (hS.sel [2] (by decide)), h⟩)))
  · replace h := h.2 hp; refine zf hp (zs (zn (yax (l := []) (cells := [(ii 0), (.slice none 0 0)]) (places := [(0, 1), (1, 1)]) (bp0) underlying31 yal (by kernel_rfl) rfl ?_))); refine zb (zq (zm (ii r)) (zo (yaj (b := g) (o := 0) (cells := #[(ii 0), (.slice none 0 0)]) rfl rfl yal rfl rfl (yah (hS.bx 1 rfl) (Nat.le_of_ble_eq_true rfl)) ?_))); intro w6 e1; replace hS := hS.bstn 1 rfl 0 [(ii 0), (.slice none 0 0)] e1; clear e1; refine zb (zq (za (ii r)) (yaa ?_)); replace hS := hS.nil 2 rfl c3 75; exact yaq rfl (rv_n (vs := [(ii 0), (.slice none 0 0)]) rfl underlying31 rfl yal ⟨Row.cell (hS.bx 1 rfl) (i := 0) rfl, Row.cell (hS.bx 1 rfl) (i := 1) rfl, trivial⟩) (rv_t rfl) ⟨_, _, _, _, _, _, rfl, (hS.sel [2] (by decide)), h⟩
def yc4 (R : Bool → Prop) : Prop :=
ybl 5 ([4]) (fun r r2 r3 =>
ybU 5 ([4]) (fun r4 r5 =>
yba 5 ([4]) (fun r6 r7 =>
ycf 5 ([4]) (fun r8 r9 =>
ybl 8 ([2, 2, 4]) (fun r10 r11 r12 =>
yba 8 ([2, 2, 4]) (fun r13 r14 =>
ybU 6 ([2, 3]) (fun r15 r16 =>
yba 6 ([2, 3]) (fun r17 r18 =>
(∃ J2 : Prop, (J2 → ycV r r2 (fun r19 =>
ycg r19 ([(0, 1), (0, 2), (0, 3), (0, 4), (1, 2), (1, 4), (2, 3), (3, 4)]) (fun r20 =>
((r20 = true →
(∃ J3 : Prop, (J3 → ya8 r6 ([3, 15]) (fun r21 =>
((r21 = true →
ya8 r13 ([2, 10]) (fun r22 =>
((r22 = true →
ya8 r17 ([2, 6]) (fun r23 =>
R r23)) ∧
(¬ (r22 = true) →
R false)))) ∧
(¬ (r21 = true) →
R false)))) ∧
((r10 = 7 →
ycV r10 r11 (fun r24 =>
ycg r24 ([(0, 2), (0, 3), (0, 4), (1, 2), (1, 3), (1, 6), (4, 5), (5, 6)]) (fun r25 =>
((r25 = true →
J3) ∧
(¬ (r25 = true) →
R false))))) ∧
(¬ (r10 = 7) →
R false)))) ∧
(¬ (r20 = true) →
R false))))) ∧
(In64 (r3 + r5) ∧
(In64 ((r3 + r5) + r7) ∧
(In64 (((r3 + r5) + r7) + r9) ∧
(In64 ((((r3 + r5) + r7) + r9) + r12) ∧
(In64 (((((r3 + r5) + r7) + r9) + r12) + r14) ∧
(In64 ((((((r3 + r5) + r7) + r9) + r12) + r14) + r16) ∧
(In64 (((((((r3 + r5) + r7) + r9) + r12) + r14) + r16) + r18) ∧
(((((((((r3 + r5) + r7) + r9) + r12) + r14) + r16) + r18) = 0 →
((r4 = 45 →
((r8 = 4 →
((r15 = 12 →
J2) ∧
(¬ (r15 = 12) →
R false))) ∧
(¬ (r8 = 4) →
R false))) ∧
(¬ (r4 = 45) →
R false))) ∧
(¬ ((((((((r3 + r5) + r7) + r9) + r12) + r14) + r16) + r18) = 0) →
R false))))))))))))))))))
theorem ye3 {O : Nat → Prop} {w : World} {R : Bool → Prop} (h : yc4 R) (hO : ∀ k, O k → k < w.heap.size) :
    Calls Try.prog 10 #[] w fun e w' => ∃ r26, e = .returned (.bool (r26)) ∧ Sep w no O w' (rl []) ∧ R r26 := by
  unfold yc4 at h; have hS : Sep w no O w (rl []) := Sep.start w hO; refine yay (l := []) func10 rfl ntmps10 (Nat.le_of_ble_eq_true rfl) (zs (zq (za (.bool (false))) (yaa (zs (zn (yaD (l := [(0, (ii 4))]) (cells := [(ii 4)]) (bp1 rfl) underlying22 yai rfl rfl ?_)))))); intro g w2 hN; replace hS := hS.litf (n := 1) 0 rfl (fI .i64) hN ([4] : List Int) rfl (by decide) rfl; clear hN; refine zb (zn (yap rfl (am2 rfl rfl) yfZ ((ycH h (yaM _) (hS.rdo 0 rfl)).mono ?_))); rintro _ w3 ⟨r, r2, r3, Ar, lr, cr, rfl, hC, h⟩; replace hS := hS.call1 (hC.widen (ybt (yaB (fP (fI .i64) (fP (fI .i64) (fI .i64))) _ _ _ _ _) ybu) hS.blt) 1 0 rfl; clear hC; refine ⟨_, rfl, ?_⟩; refine zb (zq (zm (.tuple #[(.agg #[(ii r), (.slice Ar lr cr)]), (ii r3)])) (zq (zx (.agg #[(ii r), (.slice Ar lr cr)])) (zq (zx (ii r3)) (zn (yaH yal ?_))))); intro g2 w4 hN; replace hS : Sep w no O w4 (stl _ 2 (Res.box 31 g2 [(ii 0), (.slice none 0 0)])) := hS.new 2 rfl hN; clear hN; refine zb (zo (yaj (b := g2) (o := 0) (cells := #[(ii r), (.slice Ar lr cr)]) rfl rfl yal rfl rfl (yah (hS.bx 2 rfl) (Nat.le_of_ble_eq_true rfl)) ?_)); intro w5 e1; replace hS := hS.bstn 2 rfl 0 [(ii r), (.slice Ar lr cr)] e1; clear e1; refine zb (zq (za (ii r3)) (yaa (zs (zn (yaD (l := [(0, (ii 4))]) (cells := [(ii 4)]) (bp1 rfl) underlying22 yai rfl rfl ?_))))); intro g3 w6 hN; replace hS := hS.litf (n := 1) 3 rfl (fI .i64) hN ([4] : List Int) rfl (by decide) rfl; clear hN; refine zb (zn (yap rfl (am2 rfl rfl) yia ((yd5 h (yaM _) (hS.rdo 3 rfl)).mono ?_))); rintro _ w7 ⟨r4, r5, rfl, hC, h⟩; replace hS := hS.pur hC.pure; clear hC; refine ⟨_, rfl, ?_⟩; refine zb (zq (zm (.tuple #[(ii r4), (ii r5)])) (zq (zx (ii r4)) (zq (zx (ii r5)) (zq (za (ii r4)) (zq (za (ii r5)) (yaa (zs (zn (yaD (l := [(0, (ii 4))]) (cells := [(ii 4)]) (bp1 rfl) underlying22 yai rfl rfl ?_))))))))); intro g4 w8 hN; replace hS := hS.litf (n := 1) 4 rfl (fI .i64) hN ([4] : List Int) rfl (by decide) rfl; clear hN; refine zb (zn (yap rfl (am2 rfl rfl) yfT ((ycn h (yaM _) (hS.rdo 4 rfl)).mono ?_))); rintro _ w9 ⟨r6, r7, Ar2, lr2, cr2, rfl, hC, h⟩; replace hS := hS.call1 (hC.widen (ybt (yaB (fI .i64) _ _ _ _ _) ybu) hS.blt) 5 0 rfl; clear hC; refine ⟨_, rfl, ?_⟩; refine zb (zq (zm (.tuple #[(.slice Ar2 lr2 cr2), (ii r7)])) (zq (zx (.slice Ar2 lr2 cr2)) (zq (zx (ii r7)) (zq (za (.slice Ar2 lr2 cr2)) (zq (za (ii r7)) (yaa (zs (zn (yaD (l := [(0, (ii 4))]) (cells := [(ii 4)]) (bp1 rfl) underlying22 yai rfl rfl ?_))))))))); intro g5 w10 hN; replace hS := hS.litf (n := 1) 6 rfl (fI .i64) hN ([4] : List Int) rfl (by decide) rfl; clear hN; refine zb (zn (yap rfl (am2 rfl rfl) enter_16 ((yfO h (yaM _) (hS.rdo 6 rfl)).mono ?_))); rintro _ w11 ⟨r8, r9, rfl, hC, h⟩; replace hS := hS.pur hC.pure; clear hC; refine ⟨_, rfl, ?_⟩; refine zb (zq (zm (.tuple #[(ii r8), (ii r9)])) (zq (zx (ii r8)) (zq (zx (ii r9)) (zq (za (ii r8)) (zq (za (ii r9)) (yaa (zs (zn (yaD (l := [(0, (ii 2)), (1, (ii 2)), (2, (ii 4))]) (cells := [(ii 2), (ii 2), (ii 4)]) (bp3 rfl rfl rfl) underlying22 yai rfl rfl ?_))))))))); intro g6 w12 hN; replace hS := hS.litf (n := 3) 7 rfl (fI .i64) hN ([2, 2, 4] : List Int) rfl (by decide) rfl; clear hN; refine zb (zn (yap rfl (am2 rfl rfl) yfZ ((ycH h (yaM _) (hS.rdo 7 rfl)).mono ?_))); rintro _ w13 ⟨r10, r11, r12, Ar3, lr3, cr3, rfl, hC, h⟩; replace hS := hS.call1 (hC.widen (ybt (yaB (fP (fI .i64) (fP (fI .i64) (fI .i64))) _ _ _ _ _) ybu) hS.blt) 8 0 rfl; clear hC; refine ⟨_, rfl, ?_⟩; refine zb (zq (zm (.tuple #[(.agg #[(ii r10), (.slice Ar3 lr3 cr3)]), (ii r12)])) (zq (zx (.agg #[(ii r10), (.slice Ar3 lr3 cr3)])) (zq (zx (ii r12)) (zn (yaH yal ?_))))); intro g7 w14 hN; replace hS : Sep w no O w14 (stl _ 9 (Res.box 31 g7 [(ii 0), (.slice none 0 0)])) := hS.new 9 rfl hN; clear hN; refine zb (zo (yaj (b := g7) (o := 0) (cells := #[(ii r10), (.slice Ar3 lr3 cr3)]) rfl rfl yal rfl rfl (yah (hS.bx 9 rfl) (Nat.le_of_ble_eq_true rfl)) ?_)); intro w15 e1; replace hS := hS.bstn 9 rfl 0 [(ii r10), (.slice Ar3 lr3 cr3)] e1; clear e1; refine zb (zq (za (ii r12)) (yaa (zs (zn (yaD (l := [(0, (ii 2)), (1, (ii 2)), (2, (ii 4))]) (cells := [(ii 2), (ii 2), (ii 4)]) (bp3 rfl rfl rfl) underlying22 yai rfl rfl ?_))))); intro g8 w16 hN; replace hS := hS.litf (n := 3) 10 rfl (fI .i64) hN ([2, 2, 4] : List Int) rfl (by decide) rfl; clear hN; refine zb (zn (yap rfl (am2 rfl rfl) yfT ((ycn h (yaM _) (hS.rdo 10 rfl)).mono ?_))); rintro _ w17 ⟨r13, r14, Ar4, lr4, cr4, rfl, hC, h⟩; replace hS := hS.call1 (hC.widen (ybt (yaB (fI .i64) _ _ _ _ _) ybu) hS.blt) 11 0 rfl; clear hC; refine ⟨_, rfl, ?_⟩; refine zb (zq (zm (.tuple #[(.slice Ar4 lr4 cr4), (ii r14)])) (zq (zx (.slice Ar4 lr4 cr4)) (zq (zx (ii r14)) (zq (za (.slice Ar4 lr4 cr4)) (zq (za (ii r14)) (yaa (zs (zn (yaD (l := [(0, (ii 2)), (1, (ii 3))]) (cells := [(ii 2), (ii 3)]) (bp2 rfl rfl) underlying22 yai rfl rfl ?_))))))))); intro g9 w18 hN; replace hS := hS.litf (n := 2) 12 rfl (fI .i64) hN ([2, 3] : List Int) rfl (by decide) rfl; clear hN; refine zb (zn (yap rfl (am2 rfl rfl) yia ((yd5 h (yaM _) (hS.rdo 12 rfl)).mono ?_))); rintro _ w19 ⟨r15, r16, rfl, hC, h⟩; replace hS := hS.pur hC.pure; clear hC; refine ⟨_, rfl, ?_⟩; refine zb (zq (zm (.tuple #[(ii r15), (ii r16)])) (zq (zx (ii r15)) (zq (zx (ii r16)) (zq (za (ii r15)) (zq (za (ii r16)) (yaa (zs (zn (yaD (l := [(0, (ii 2)), (1, (ii 3))]) (cells := [(ii 2), (ii 3)]) (bp2 rfl rfl) underlying22 yai rfl rfl ?_))))))))); intro g10 w20 hN; replace hS := hS.litf (n := 2) 13 rfl (fI .i64) hN ([2, 3] : List Int) rfl (by decide) rfl; clear hN
  refine zb (zn (yap rfl (am2 rfl rfl) yfT ((ycn h (yaM _) (hS.rdo 13 rfl)).mono ?_))); rintro _ w21 ⟨r17, r18, Ar5, lr5, cr5, rfl, hC, h⟩; replace hS := hS.call1 (hC.widen (ybt (yaB (fI .i64) _ _ _ _ _) ybu) hS.blt) 14 0 rfl; clear hC; refine ⟨_, rfl, ?_⟩; refine zb (zq (zm (.tuple #[(.slice Ar5 lr5 cr5), (ii r18)])) (zq (zx (.slice Ar5 lr5 cr5)) (zq (zx (ii r18)) (zq (za (.slice Ar5 lr5 cr5)) (zq (za (ii r18)) (yaa (yag (yag ?_)))))))); obtain ⟨J2, hJ, h⟩ := h; refine ycE (fun E ds w' => J2 ∧ ds = [] ∧ E 1 = (Value.pointer (some (⟨g2, 0, none⟩ : Addr))) ∧ E 5 = (Value.slice Ar2 lr2 cr2) ∧ E 9 = (Value.pointer (some (⟨g7, 0, none⟩ : Addr))) ∧ E 11 = (Value.slice Ar4 lr4 cr4) ∧ E 15 = (Value.slice Ar5 lr5 cr5) ∧ Sep w no O w' (rl [Res.box 31 g2 [(ii r), (.slice Ar lr cr)], Res.own c3 75 Ar lr cr r2, Res.own cI 3 Ar2 lr2 cr2 r6, Res.box 31 g7 [(ii r10), (.slice Ar3 lr3 cr3)], Res.own c3 75 Ar3 lr3 cr3 r11, Res.own cI 3 Ar4 lr4 cr4 r13, Res.own cI 3 Ar5 lr5 cr5 r17])) ?_ ?_
  · clear h hS; rintro E ds w22 ⟨h, rfl, hE1, hE5, hE9, hE11, hE15, hS⟩; replace h := hJ h; refine yag (zs (zq (yaY (vs := [(ii r), (.slice Ar lr cr)]) hE1 underlying31 rfl yal ⟨Row.cell (hS.bx 0 rfl) (i := 0) rfl, Row.cell (hS.bx 0 rfl) (i := 1) rfl, trivial⟩) (zn (yap rfl (am1 rfl) yhQ ((yfF h (yaM _) (hS.rdo 1 rfl)).mono ?_))))); rintro _ w23 ⟨r19, Ar6, lr6, cr6, rfl, hC, h⟩; replace hS := hS.call1 (hC.widen (ybt (yaB (fP (fI .i64) (fI .i64)) _ _ _ _ _) ybu) hS.blt) 7 0 rfl; clear hC; refine ⟨_, rfl, ?_⟩; refine zb (zn (ya2 (l := [(0, (ii 0)), (1, (ii 1))]) (cells := [(ii 0), (ii 1)]) (bp2 rfl rfl) underlying59 yaA yai (by kernel_rfl) ?_)); refine zb (zn (ya2 (l := [(0, (ii 0)), (1, (ii 2))]) (cells := [(ii 0), (ii 2)]) (bp2 rfl rfl) underlying59 yaA yai (by kernel_rfl) ?_)); refine zb (zn (ya2 (l := [(0, (ii 0)), (1, (ii 3))]) (cells := [(ii 0), (ii 3)]) (bp2 rfl rfl) underlying59 yaA yai (by kernel_rfl) ?_)); refine zb (zn (ya2 (l := [(0, (ii 0)), (1, (ii 4))]) (cells := [(ii 0), (ii 4)]) (bp2 rfl rfl) underlying59 yaA yai (by kernel_rfl) ?_)); refine zb (zn (ya2 (l := [(0, (ii 1)), (1, (ii 2))]) (cells := [(ii 1), (ii 2)]) (bp2 rfl rfl) underlying59 yaA yai (by kernel_rfl) ?_)); refine zb (zn (ya2 (l := [(0, (ii 1)), (1, (ii 4))]) (cells := [(ii 1), (ii 4)]) (bp2 rfl rfl) underlying59 yaA yai (by kernel_rfl) ?_)); refine zb (zn (ya2 (l := [(0, (ii 2)), (1, (ii 3))]) (cells := [(ii 2), (ii 3)]) (bp2 rfl rfl) underlying59 yaA yai (by kernel_rfl) ?_)); refine zb (zn (ya2 (l := [(0, (ii 3)), (1, (ii 4))]) (cells := [(ii 3), (ii 4)]) (bp2 rfl rfl) underlying59 yaA yai (by kernel_rfl) ?_)); refine zb (zn (yaD (l := [(0, (.agg #[(ii 0), (ii 1)])), (1, (.agg #[(ii 0), (ii 2)])), (2, (.agg #[(ii 0), (ii 3)])), (3, (.agg #[(ii 0), (ii 4)])), (4, (.agg #[(ii 1), (ii 2)])), (5, (.agg #[(ii 1), (ii 4)])), (6, (.agg #[(ii 2), (ii 3)])), (7, (.agg #[(ii 3), (ii 4)]))]) (cells := [(ii 0), (ii 1), (ii 0), (ii 2), (ii 0), (ii 3), (ii 0), (ii 4), (ii 1), (ii 2), (ii 1), (ii 4), (ii 2), (ii 3), (ii 3), (ii 4)]) (bp8 rfl rfl rfl rfl rfl rfl rfl rfl) underlying57 yaA rfl rfl ?_)); intro g11 w24 hN; replace hS := hS.litf (n := 8) 8 rfl (fP (fI .i64) (fI .i64)) hN ([(0, 1), (0, 2), (0, 3), (0, 4), (1, 2), (1, 4), (2, 3), (3, 4)] : List (Int × Int)) rfl (by decide) rfl; clear hN; refine zb (zn (yap rfl (am2 rfl rfl) enter_30 ((yd1 h (yaM _) (hS.rdo 7 rfl) (hS.rdo 8 rfl)).mono ?_))); rintro _ w25 ⟨r20, rfl, hC, h⟩; replace hS := hS.pur hC.pure; clear hC; refine ⟨_, rfl, ?_⟩; refine zb (zq (yhW rfl) (yaa ?_)); by_cases hp : r20 = true
    · replace h := h.1 hp; refine yaQ (congrArg Value.bool (congrArg Bool.not hp)) (yak (yag (yag ?_))); obtain ⟨J3, hJ, h⟩ := h; refine ycE (fun E ds w' => J3 ∧ ds = [] ∧ E 5 = (Value.slice Ar2 lr2 cr2) ∧ E 11 = (Value.slice Ar4 lr4 cr4) ∧ E 15 = (Value.slice Ar5 lr5 cr5) ∧ Sep w no O w' (rl [Res.own cI 3 Ar2 lr2 cr2 r6, Res.own cI 3 Ar4 lr4 cr4 r13, Res.own cI 3 Ar5 lr5 cr5 r17])) ?_ ?_
      · clear h hS; rintro E ds w26 ⟨h, rfl, hE5, hE11, hE15, hS⟩; replace h := hJ h; refine zs (zq (yae hE5) (zn (yaD (l := [(0, (ii 3)), (1, (ii 15))]) (cells := [(ii 3), (ii 15)]) (bp2 rfl rfl) underlying22 yai rfl rfl ?_))); intro g12 w27 hN; replace hS := hS.litf (n := 2) 3 rfl (fI .i64) hN ([3, 15] : List Int) rfl (by decide) rfl; clear hN; refine zb (zn (yap rfl (am2 rfl rfl) yhk ((ych h (yaM _) (hS.rdo 0 rfl) (hS.rdo 3 rfl)).mono ?_))); rintro _ w28 ⟨r21, rfl, hC, h⟩; replace hS := hS.pur hC.pure; clear hC; refine ⟨_, rfl, ?_⟩; refine zb (zq (zm (.bool (r21))) ?_); by_cases hp2 : r21 = true
        · replace h := h.1 hp2; refine rl_q (yac rfl (yad rfl (congrArg Value.bool hp2))) rfl rfl (yae hE11) (rl_n (yac rfl (yad rfl (congrArg Value.bool hp2))) rfl rfl rfl (yaD (l := [(0, (ii 2)), (1, (ii 10))]) (cells := [(ii 2), (ii 10)]) (bp2 rfl rfl) underlying22 yai rfl rfl ?_)); intro g13 w29 hN; replace hS := hS.litf (n := 2) 4 rfl (fI .i64) hN ([2, 10] : List Int) rfl (by decide) rfl; clear hN; refine zb (rl_n (yac rfl (yad rfl (congrArg Value.bool hp2))) rfl rfl rfl (yap rfl (am2 rfl rfl) yhk ((ych h (yaM _) (hS.rdo 1 rfl) (hS.rdo 4 rfl)).mono ?_))); rintro _ w30 ⟨r22, rfl, hC, h⟩; replace hS := hS.pur hC.pure; clear hC; refine ⟨_, rfl, ?_⟩; refine zb (zq (yau (v := (.bool (r22))) (congrArg Value.bool hp2) rfl) (zq (zm (.bool (r22))) ?_)); by_cases hp3 : r22 = true
          · replace h := h.1 hp3; refine rl_q (yac rfl (yad rfl (congrArg Value.bool hp3))) rfl rfl (yae hE15) (rl_n (yac rfl (yad rfl (congrArg Value.bool hp3))) rfl rfl rfl (yaD (l := [(0, (ii 2)), (1, (ii 6))]) (cells := [(ii 2), (ii 6)]) (bp2 rfl rfl) underlying22 yai rfl rfl ?_)); intro g14 w31 hN; replace hS := hS.litf (n := 2) 5 rfl (fI .i64) hN ([2, 6] : List Int) rfl (by decide) rfl; clear hN; refine zb (rl_n (yac rfl (yad rfl (congrArg Value.bool hp3))) rfl rfl rfl (yap rfl (am2 rfl rfl) yhk ((ych h (yaM _) (hS.rdo 2 rfl) (hS.rdo 5 rfl)).mono ?_))); rintro _ w32 ⟨r23, rfl, hC, h⟩; replace hS := hS.pur hC.pure; clear hC; refine ⟨_, rfl, ?_⟩; exact zb (zq (yau (v := (.bool (r23))) (congrArg Value.bool hp3) rfl) (zq (za (.bool (r23))) (yaa (yas rfl rfl ⟨_, rfl, (hS.sel [] (by decide)), h⟩))))
          · replace h := h.2 hp3; exact rl_p (yab rfl (yad rfl (congrArg Value.bool (Bool.eq_false_iff.2 hp3))) rfl) rfl (rl_p (yab rfl (yad rfl (congrArg Value.bool (Bool.eq_false_iff.2 hp3))) rfl) rfl (rl_p (yab rfl (yad rfl (congrArg Value.bool (Bool.eq_false_iff.2 hp3))) rfl) rfl (zq (yav (v := (.bool (false))) (congrArg Value.bool (Bool.eq_false_iff.2 hp3)) rfl) (zq (za (.bool (false))) (yaa (yas rfl rfl ⟨_, rfl, (hS.sel [] (by decide)), h⟩))))))
        · replace h := h.2 hp2; exact rl_p (yab rfl (yad rfl (congrArg Value.bool (Bool.eq_false_iff.2 hp2))) rfl) rfl (rl_p (yab rfl (yad rfl (congrArg Value.bool (Bool.eq_false_iff.2 hp2))) rfl) rfl (rl_p (yab rfl (yad rfl (congrArg Value.bool (Bool.eq_false_iff.2 hp2))) rfl) rfl (zq (yav (v := (.bool (false))) (congrArg Value.bool (Bool.eq_false_iff.2 hp2)) rfl) (zq (zm (.bool (false))) (rl_p (yab rfl (yad rfl rfl) rfl) rfl (rl_p (yab rfl (yad rfl rfl) rfl) rfl (rl_p (yab rfl (yad rfl rfl) rfl) rfl (zq (yav (v := (.bool (false))) rfl rfl) (zq (za (.bool (false))) (yaa (yas rfl rfl ⟨_, rfl, (hS.sel [] (by decide)), h⟩)))))))))))
      clear hJ; intro j2; refine zr (zq (yao hE9 underlying31 rfl yai) (zq (zl underlying3 (Row.cell (hS.bx 3 rfl) (i := 0) rfl)) (zq zN (zq (zm (.bool (!(decide (r10 = 7))))) ?_)))); by_cases hp4 : r10 = 7
      · replace h := h.1 hp4; refine rl_q (yac rfl (yad rfl (congrArg Value.bool (congrArg Bool.not (decide_eq_true hp4))))) rfl rfl (yaY (vs := [(ii r10), (.slice Ar3 lr3 cr3)]) hE9 underlying31 rfl yal ⟨Row.cell (hS.bx 3 rfl) (i := 0) rfl, Row.cell (hS.bx 3 rfl) (i := 1) rfl, trivial⟩) (rl_n (yac rfl (yad rfl (congrArg Value.bool (congrArg Bool.not (decide_eq_true hp4))))) rfl rfl rfl (yap rfl (am1 rfl) yhQ ((yfF h (yaM _) (hS.rdo 4 rfl)).mono ?_))); rintro _ w33 ⟨r24, Ar7, lr7, cr7, rfl, hC, h⟩; replace hS := hS.call1 (hC.widen (ybt (yaB (fP (fI .i64) (fI .i64)) _ _ _ _ _) ybu) hS.blt) 9 0 rfl; clear hC; refine ⟨_, rfl, ?_⟩; refine zb (rl_n (yac rfl (yad rfl (congrArg Value.bool (congrArg Bool.not (decide_eq_true hp4))))) rfl rfl rfl (ya2 (l := [(0, (ii 0)), (1, (ii 2))]) (cells := [(ii 0), (ii 2)]) (bp2 rfl rfl) underlying59 yaA yai (by kernel_rfl) ?_)); refine zb (rl_n (yac rfl (yad rfl (congrArg Value.bool (congrArg Bool.not (decide_eq_true hp4))))) rfl rfl rfl (ya2 (l := [(0, (ii 0)), (1, (ii 3))]) (cells := [(ii 0), (ii 3)]) (bp2 rfl rfl) underlying59 yaA yai (by kernel_rfl) ?_)); refine zb (rl_n (yac rfl (yad rfl (congrArg Value.bool (congrArg Bool.not (decide_eq_true hp4))))) rfl rfl rfl (ya2 (l := [(0, (ii 0)), (1, (ii 4))]) (cells := [(ii 0), (ii 4)]) (bp2 rfl rfl) underlying59 yaA yai (by kernel_rfl) ?_)); refine zb (rl_n (yac rfl (yad rfl (congrArg Value.bool (congrArg Bool.not (decide_eq_true hp4))))) rfl rfl rfl (ya2 (l := [(0, (ii 1)), (1, (ii 2))]) (cells := [(ii 1), (ii 2)]) (bp2 rfl rfl) underlying59 yaA yai (by kernel_rfl) ?_)); refine zb (rl_n (yac rfl (yad rfl (congrArg Value.bool (congrArg Bool.not (decide_eq_true hp4))))) rfl rfl rfl (ya2 (l := [(0, (ii 1)), (1, (ii 3))]) (cells := [(ii 1), (ii 3)]) (bp2 rfl rfl) underlying59 yaA yai (by kernel_rfl) ?_)); refine zb (rl_n (yac rfl (yad rfl (congrArg Value.bool (congrArg Bool.not (decide_eq_true hp4))))) rfl rfl rfl (ya2 (l := [(0, (ii 1)), (1, (ii 6))]) (cells := [(ii 1), (ii 6)]) (bp2 rfl rfl) underlying59 yaA yai (by kernel_rfl) ?_)); refine zb (rl_n (yac rfl (yad rfl (congrArg Value.bool (congrArg Bool.not (decide_eq_true hp4))))) rfl rfl rfl (ya2 (l := [(0, (ii 4)), (1, (ii 5))]) (cells := [(ii 4), (ii 5)]) (bp2 rfl rfl) underlying59 yaA yai (by kernel_rfl) ?_)); refine zb (rl_n (yac rfl (yad rfl (congrArg Value.bool (congrArg Bool.not (decide_eq_true hp4))))) rfl rfl rfl (ya2 (l := [(0, (ii 5)), (1, (ii 6))]) (cells := [(ii 5), (ii 6)]) (bp2 rfl rfl) underlying59 yaA yai (by kernel_rfl) ?_)); refine zb (rl_n (yac rfl (yad rfl (congrArg Value.bool (congrArg Bool.not (decide_eq_true hp4))))) rfl rfl rfl (yaD (l := [(0, (.agg #[(ii 0), (ii 2)])), (1, (.agg #[(ii 0), (ii 3)])), (2, (.agg #[(ii 0), (ii 4)])), (3, (.agg #[(ii 1), (ii 2)])), (4, (.agg #[(ii 1), (ii 3)])), (5, (.agg #[(ii 1), (ii 6)])), (6, (.agg #[(ii 4), (ii 5)])), (7, (.agg #[(ii 5), (ii 6)]))]) (cells := [(ii 0), (ii 2), (ii 0), (ii 3), (ii 0), (ii 4), (ii 1), (ii 2), (ii 1), (ii 3), (ii 1), (ii 6), (ii 4), (ii 5), (ii 5), (ii 6)]) (bp8 rfl rfl rfl rfl rfl rfl rfl rfl) underlying57 yaA rfl rfl ?_)); intro g15 w34 hN; replace hS := hS.litf (n := 8) 10 rfl (fP (fI .i64) (fI .i64)) hN ([(0, 2), (0, 3), (0, 4), (1, 2), (1, 3), (1, 6), (4, 5), (5, 6)] : List (Int × Int)) rfl (by decide) rfl; clear hN; refine zb (rl_n (yac rfl (yad rfl (congrArg Value.bool (congrArg Bool.not (decide_eq_true hp4))))) rfl rfl rfl (yap rfl (am2 rfl rfl) enter_30 ((yd1 h (yaM _) (hS.rdo 9 rfl) (hS.rdo 10 rfl)).mono ?_))); rintro _ w35 ⟨r25, rfl, hC, h⟩; replace hS := hS.pur hC.pure; clear hC; refine ⟨_, rfl, ?_⟩; refine zb (rl_q (yac rfl (yad rfl (congrArg Value.bool (congrArg Bool.not (decide_eq_true hp4))))) rfl rfl (yhW rfl) (zq (yav (v := (.bool (!(r25)))) (congrArg Value.bool (congrArg Bool.not (decide_eq_true hp4))) rfl) (yaa ?_))); by_cases hp5 : r25 = true
        · replace h := h.1 hp5; exact yaQ (congrArg Value.bool (congrArg Bool.not hp5)) (yak (j2 _ _ _ ⟨h, rfl, hE5, hE11, hE15, (hS.sel [2, 5, 6] (by decide))⟩))
        · replace h := h.2 hp5; exact yaz (congrArg Value.bool (congrArg Bool.not (Bool.eq_false_iff.2 hp5))) (zs (zq (za (.bool (false))) (yaa (yas rfl rfl ⟨_, rfl, (hS.sel [] (by decide)), h⟩))))
      · replace h := h.2 hp4; exact rl_p (yab rfl (yad rfl (congrArg Value.bool (congrArg Bool.not (decide_eq_false hp4)))) rfl) rfl (rl_p (yab rfl (yad rfl (congrArg Value.bool (congrArg Bool.not (decide_eq_false hp4)))) rfl) rfl (rl_p (yab rfl (yad rfl (congrArg Value.bool (congrArg Bool.not (decide_eq_false hp4)))) rfl) rfl (rl_p (yab rfl (yad rfl (congrArg Value.bool (congrArg Bool.not (decide_eq_false hp4)))) rfl) rfl (rl_p (yab rfl (yad rfl (congrArg Value.bool (congrArg Bool.not (decide_eq_false hp4)))) rfl) rfl (rl_p (yab rfl (yad rfl (congrArg Value.bool (congrArg Bool.not (decide_eq_false hp4)))) rfl) rfl (rl_p (yab rfl (yad rfl (congrArg Value.bool (congrArg Bool.not (decide_eq_false hp4)))) rfl) rfl (rl_p (yab rfl (yad rfl (congrArg Value.bool (congrArg Bool.not (decide_eq_false hp4)))) rfl) rfl (rl_p (yab rfl (yad rfl (congrArg Value.bool (congrArg Bool.not (decide_eq_false hp4)))) rfl) rfl (rl_p (yab rfl (yad rfl (congrArg Value.bool (congrArg Bool.not (decide_eq_false hp4)))) rfl) rfl (rl_p (yab rfl (yad rfl (congrArg Value.bool (congrArg Bool.not (decide_eq_false hp4)))) rfl) rfl (rl_p (yab rfl (yad rfl (congrArg Value.bool (congrArg Bool.not (decide_eq_false hp4)))) rfl) rfl (rl_p (yab rfl (yad rfl (congrArg Value.bool (congrArg Bool.not (decide_eq_false hp4)))) rfl) rfl (zq (yau (v := (.bool (true))) (congrArg Value.bool (congrArg Bool.not (decide_eq_false hp4))) rfl) (yaa (yaz rfl (zs (zq (za (.bool (false))) (yaa (yas rfl rfl ⟨_, rfl, (hS.sel [] (by decide)), h⟩)))))))))))))))))))
    · replace h := h.2 hp; exact yaz (congrArg Value.bool (congrArg Bool.not (Bool.eq_false_iff.2 hp))) (zs (zq (za (.bool (false))) (yaa (yas rfl rfl ⟨_, rfl, (hS.sel [] (by decide)), h⟩))))
  clear hJ; intro j; refine zr (zq (zm (ii r3)) (zq (zm (ii r5)) ?_)); obtain ⟨hi, h⟩ := h; refine zq (zA hi) (zq (zm (ii r7)) ?_); obtain ⟨hi2, h⟩ := h; refine zq (zA hi2) (zq (zm (ii r9)) ?_); obtain ⟨hi3, h⟩ := h; refine zq (zA hi3) (zq (zm (ii r12)) ?_); obtain ⟨hi4, h⟩ := h; refine zq (zA hi4) (zq (zm (ii r14)) ?_); obtain ⟨hi5, h⟩ := h; refine zq (zA hi5) (zq (zm (ii r16)) ?_); obtain ⟨hi6, h⟩ := h; refine zq (zA hi6) (zq (zm (ii r18)) ?_); obtain ⟨hi7, h⟩ := h; refine zq (zA hi7) (zq zN (zq (zm (.bool (!(decide ((((((((r3 + r5) + r7) + r9) + r12) + r14) + r16) + r18) = 0))))) ?_)); by_cases hp6 : (((((((r3 + r5) + r7) + r9) + r12) + r14) + r16) + r18) = 0
  · replace h := h.1 hp6; refine rl_q (yac rfl (yad rfl (congrArg Value.bool (congrArg Bool.not (decide_eq_true hp6))))) rfl rfl (zm (ii r4)) (rl_q (yac rfl (yad rfl (congrArg Value.bool (congrArg Bool.not (decide_eq_true hp6))))) rfl rfl zN (zq (yav (v := (.bool (!(decide (r4 = 45))))) (congrArg Value.bool (congrArg Bool.not (decide_eq_true hp6))) rfl) (zq (zm (.bool (!(decide (r4 = 45))))) ?_))); by_cases hp7 : r4 = 45
    · replace h := h.1 hp7; refine rl_q (yac rfl (yad rfl (congrArg Value.bool (congrArg Bool.not (decide_eq_true hp7))))) rfl rfl (zm (ii r8)) (rl_q (yac rfl (yad rfl (congrArg Value.bool (congrArg Bool.not (decide_eq_true hp7))))) rfl rfl zN (zq (yav (v := (.bool (!(decide (r8 = 4))))) (congrArg Value.bool (congrArg Bool.not (decide_eq_true hp7))) rfl) (zq (zm (.bool (!(decide (r8 = 4))))) ?_))); by_cases hp8 : r8 = 4
      · replace h := h.1 hp8; refine rl_q (yac rfl (yad rfl (congrArg Value.bool (congrArg Bool.not (decide_eq_true hp8))))) rfl rfl (zm (ii r15)) (rl_q (yac rfl (yad rfl (congrArg Value.bool (congrArg Bool.not (decide_eq_true hp8))))) rfl rfl zN (zq (yav (v := (.bool (!(decide (r15 = 12))))) (congrArg Value.bool (congrArg Bool.not (decide_eq_true hp8))) rfl) (yaa ?_))); by_cases hp9 : r15 = 12
        · replace h := h.1 hp9; exact ze hp9 (yak (j _ _ _ ⟨h, rfl, rfl, rfl, rfl, rfl, rfl, (hS.sel [2, 1, 5, 9, 8, 11, 14] (by decide))⟩))
        · replace h := h.2 hp9; exact zf hp9 (zs (zq (za (.bool (false))) (yaa (yas rfl rfl ⟨_, rfl, (hS.sel [] (by decide)), h⟩))))
      · replace h := h.2 hp8; exact rl_p (yab rfl (yad rfl (congrArg Value.bool (congrArg Bool.not (decide_eq_false hp8)))) rfl) rfl (rl_p (yab rfl (yad rfl (congrArg Value.bool (congrArg Bool.not (decide_eq_false hp8)))) rfl) rfl (zq (yau (v := (.bool (true))) (congrArg Value.bool (congrArg Bool.not (decide_eq_false hp8))) rfl) (yaa (yaz rfl (zs (zq (za (.bool (false))) (yaa (yas rfl rfl ⟨_, rfl, (hS.sel [] (by decide)), h⟩))))))))
    · replace h := h.2 hp7; exact rl_p (yab rfl (yad rfl (congrArg Value.bool (congrArg Bool.not (decide_eq_false hp7)))) rfl) rfl (rl_p (yab rfl (yad rfl (congrArg Value.bool (congrArg Bool.not (decide_eq_false hp7)))) rfl) rfl (zq (yau (v := (.bool (true))) (congrArg Value.bool (congrArg Bool.not (decide_eq_false hp7))) rfl) (zq (zm (.bool (true))) (rl_p (yab rfl (yad rfl rfl) rfl) rfl (rl_p (yab rfl (yad rfl rfl) rfl) rfl (zq (yau (v := (.bool (true))) rfl rfl) (yaa (yaz rfl (zs (zq (za (.bool (false))) (yaa (yas rfl rfl ⟨_, rfl, (hS.sel [] (by decide)), h⟩))))))))))))
  · replace h := h.2 hp6; exact rl_p (yab rfl (yad rfl (congrArg Value.bool (congrArg Bool.not (decide_eq_false hp6)))) rfl) rfl (rl_p (yab rfl (yad rfl (congrArg Value.bool (congrArg Bool.not (decide_eq_false hp6)))) rfl) rfl (zq (yau (v := (.bool (true))) (congrArg Value.bool (congrArg Bool.not (decide_eq_false hp6))) rfl) (zq (zm (.bool (true))) (rl_p (yab rfl (yad rfl rfl) rfl) rfl (rl_p (yab rfl (yad rfl rfl) rfl) rfl (zq (yau (v := (.bool (true))) rfl rfl) (zq (zm (.bool (true))) (rl_p (yab rfl (yad rfl rfl) rfl) rfl (rl_p (yab rfl (yad rfl rfl) rfl) rfl (zq (yau (v := (.bool (true))) rfl rfl) (yaa (yaz rfl (zs (zq (za (.bool (false))) (yaa (yas rfl rfl ⟨_, rfl, (hS.sel [] (by decide)), h⟩))))))))))))))))
def ycJ (kind : Int) (sizes : List Int) (R : Bool → Prop) : Prop :=
((40 < ((sizes.length : Nat) : Int) →
yc4 (fun r =>
R r)) ∧
(¬ (40 < ((sizes.length : Nat) : Int)) →
ycj kind (fun r2 r3 =>
yc5 kind (fun r4 r5 =>
ybl kind sizes (fun r6 r7 r8 =>
yd0 kind sizes (fun r9 r10 r11 =>
yc4 (fun r12 =>
((r12 = true →
((r2 = r4 →
((r3 = r5 →
ydL r6 r7 r9 r10 (fun r13 =>
((r13 = true →
R (decide (r8 = r11))) ∧
(¬ (r13 = true) →
R false)))) ∧
(¬ (r3 = r5) →
R false))) ∧
(¬ (r2 = r4) →
R false))) ∧
(¬ (r12 = true) →
R false)))))))))
theorem pok_l11_FamilyMakes {O : Nat → Prop} {w : World} {kind sizes Asizes lsizes csizes} {R : Bool → Prop} (h : ycJ kind sizes R) (hO : ∀ k, O k → k < w.heap.size) (hA0 : (FP.sl cI Asizes lsizes csizes sizes).P O w) :
    Calls Try.prog 3 #[(ii kind), (.slice Asizes lsizes csizes)] w fun e w' => ∃ r14, e = .returned (.bool (r14)) ∧ Sep w no O w' (rl []) ∧ R r14 := by
  unfold ycJ at h; have hS : Sep w no O w (rl [Res.ro (FP.sl cI Asizes lsizes csizes sizes)]) := Sep.startl hO [(FP.sl cI Asizes lsizes csizes sizes)] ⟨hA0, trivial⟩; refine yay (l := [(ii kind), (.slice Asizes lsizes csizes)]) func3 rfl ntmps3 (Nat.le_of_ble_eq_true rfl) (zs (zq (za (.bool (false))) (yaa (yag (zs (zq (zm (.slice Asizes lsizes csizes)) (zq (ybp (n := sizes.length) rfl underlying22 (ybi (hS.rdr 0 rfl))) (zq zG (yaa ?_))))))))); by_cases hp : 40 < ((sizes.length : Nat) : Int)
  · replace h := h.1 hp; refine zc hp (zs (zn (yap rfl (am0) yhG ((ye3 h (yaM _)).mono ?_)))); rintro _ w2 ⟨r, rfl, hC, h⟩; replace hS := hS.pur hC.pure; clear hC; refine ⟨_, rfl, ?_⟩; exact zb (zq (za (.bool (r))) (yaa (yas rfl rfl ⟨_, rfl, (hS.sel [] (by decide)), h⟩)))
  · replace h := h.2 hp; refine zd hp (yak (zs (zq (zm (ii kind)) (zn (yap rfl (am1 rfl) enter_11 ((yd4 h (yaM _)).mono ?_)))))); rintro _ w3 ⟨r2, r3, rfl, hC, h⟩; replace hS := hS.pur hC.pure; clear hC; refine ⟨_, rfl, ?_⟩; refine zb (zq (zm (.tuple #[(ii r2), (ii r3)])) (zq (zx (ii r2)) (zq (zx (ii r3)) (zq (za (ii r2)) (zq (za (ii r3)) (yaa (zs (zq (zm (ii kind)) (zn (yap rfl (am1 rfl) enter_12 ((ye0 h (yaM _)).mono ?_))))))))))); rintro _ w4 ⟨r4, r5, rfl, hC, h⟩; replace hS := hS.pur hC.pure; clear hC; refine ⟨_, rfl, ?_⟩; refine zb (zq (zm (.tuple #[(ii r4), (ii r5)])) (zq (zx (ii r4)) (zq (zx (ii r5)) (zq (za (ii r4)) (zq (za (ii r5)) (yaa (zs (zq (zm (ii kind)) (zq (zm (.slice Asizes lsizes csizes)) (zn (yap rfl (am2 rfl rfl) yfZ ((ycH h (yaM _) (hS.rdr 0 rfl)).mono ?_)))))))))))); rintro _ w5 ⟨r6, r7, r8, Ar, lr, cr, rfl, hC, h⟩; replace hS := hS.call1 (hC.widen (ybt (yaB (fP (fI .i64) (fP (fI .i64) (fI .i64))) _ _ _ _ _) ybu) hS.blt) 1 0 rfl; clear hC; refine ⟨_, rfl, ?_⟩; refine zb (zq (zm (.tuple #[(.agg #[(ii r6), (.slice Ar lr cr)]), (ii r8)])) (zq (zx (.agg #[(ii r6), (.slice Ar lr cr)])) (zq (zx (ii r8)) (zn (yaH yal ?_))))); intro g w6 hN; replace hS : Sep w no O w6 (stl _ 2 (Res.box 31 g [(ii 0), (.slice none 0 0)])) := hS.new 2 rfl hN; clear hN; refine zb (zo (yaj (b := g) (o := 0) (cells := #[(ii r6), (.slice Ar lr cr)]) rfl rfl yal rfl rfl (yah (hS.bx 2 rfl) (Nat.le_of_ble_eq_true rfl)) ?_)); intro w7 e1; replace hS := hS.bstn 2 rfl 0 [(ii r6), (.slice Ar lr cr)] e1; clear e1; refine zb (zq (za (ii r8)) (yaa (zs (zq (zm (ii kind)) (zq (zm (.slice Asizes lsizes csizes)) (zn (yap rfl (am2 rfl rfl) enter_14 ((pok_r11_Make h (yaM _) (hS.rdr 0 rfl)).mono ?_)))))))); rintro _ w8 ⟨r9, r10, r11, Ar2, lr2, cr2, rfl, hC, h⟩; replace hS := hS.call1 (hC.widen (ybt (yaB (fP (fI .i64) (fP (fI .i64) (fI .i64))) _ _ _ _ _) ybu) hS.blt) 3 0 rfl; clear hC; refine ⟨_, rfl, ?_⟩; refine zb (zq (zm (.tuple #[(.agg #[(ii r9), (.slice Ar2 lr2 cr2)]), (ii r11)])) (zq (zx (.agg #[(ii r9), (.slice Ar2 lr2 cr2)])) (zq (zx (ii r11)) (zn (yaH yal ?_))))); intro g2 w9 hN; replace hS : Sep w no O w9 (stl _ 4 (Res.box 31 g2 [(ii 0), (.slice none 0 0)])) := hS.new 4 rfl hN; clear hN; refine zb (zo (yaj (b := g2) (o := 0) (cells := #[(ii r9), (.slice Ar2 lr2 cr2)]) rfl rfl yal rfl rfl (yah (hS.bx 4 rfl) (Nat.le_of_ble_eq_true rfl)) ?_)); intro w10 e1; replace hS := hS.bstn 4 rfl 0 [(ii r9), (.slice Ar2 lr2 cr2)] e1; clear e1; refine zb (zq (za (ii r11)) (yaa (zs (zn (yap rfl (am0) yhG ((ye3 h (yaM _)).mono ?_)))))); rintro _ w11 ⟨r12, rfl, hC, h⟩; replace hS := hS.pur hC.pure; clear hC; refine ⟨_, rfl, ?_⟩; refine zb (zq (zm (.bool (r12))) ?_); by_cases hp2 : r12 = true
    · replace h := h.1 hp2; refine rl_q (yac rfl (yad rfl (congrArg Value.bool hp2))) rfl rfl (zm (ii r2)) (rl_q (yac rfl (yad rfl (congrArg Value.bool hp2))) rfl rfl (zm (ii r4)) (rl_q (yac rfl (yad rfl (congrArg Value.bool hp2))) rfl rfl zE (zq (yau (v := (.bool (decide (r2 = r4)))) (congrArg Value.bool hp2) rfl) (zq (zm (.bool (decide (r2 = r4)))) ?_)))); by_cases hp3 : r2 = r4
      · replace h := h.1 hp3; refine rl_q (yac rfl (yad rfl (congrArg Value.bool (decide_eq_true hp3)))) rfl rfl (zm (ii r3)) (rl_q (yac rfl (yad rfl (congrArg Value.bool (decide_eq_true hp3)))) rfl rfl (zm (ii r5)) (rl_q (yac rfl (yad rfl (congrArg Value.bool (decide_eq_true hp3)))) rfl rfl zE (zq (yau (v := (.bool (decide (r3 = r5)))) (congrArg Value.bool (decide_eq_true hp3)) rfl) (zq (zm (.bool (decide (r3 = r5)))) ?_)))); by_cases hp4 : r3 = r5
        · replace h := h.1 hp4; refine rl_q (yac rfl (yad rfl (congrArg Value.bool (decide_eq_true hp4)))) rfl rfl (yaY (vs := [(ii r6), (.slice Ar lr cr)]) rfl underlying31 rfl yal ⟨Row.cell (hS.bx 2 rfl) (i := 0) rfl, Row.cell (hS.bx 2 rfl) (i := 1) rfl, trivial⟩) (rl_q (yac rfl (yad rfl (congrArg Value.bool (decide_eq_true hp4)))) rfl rfl (yaY (vs := [(ii r9), (.slice Ar2 lr2 cr2)]) rfl underlying31 rfl yal ⟨Row.cell (hS.bx 4 rfl) (i := 0) rfl, Row.cell (hS.bx 4 rfl) (i := 1) rfl, trivial⟩) (rl_n (yac rfl (yad rfl (congrArg Value.bool (decide_eq_true hp4)))) rfl rfl rfl (yap rfl (am2 rfl rfl) enter_15 ((yh3 h (yaM _) (hS.rdo 1 rfl) (hS.rdo 3 rfl)).mono ?_)))); rintro _ w12 ⟨r13, rfl, hC, h⟩; replace hS := hS.pur hC.pure; clear hC; refine ⟨_, rfl, ?_⟩; refine zb (zq (yau (v := (.bool (r13))) (congrArg Value.bool (decide_eq_true hp4)) rfl) (zq (zm (.bool (r13))) ?_)); by_cases hp5 : r13 = true
          · replace h := h.1 hp5; exact rl_q (yac rfl (yad rfl (congrArg Value.bool hp5))) rfl rfl (zm (ii r8)) (rl_q (yac rfl (yad rfl (congrArg Value.bool hp5))) rfl rfl (zm (ii r11)) (rl_q (yac rfl (yad rfl (congrArg Value.bool hp5))) rfl rfl zE (zq (yau (v := (.bool (decide (r8 = r11)))) (congrArg Value.bool hp5) rfl) (zq (za (.bool (decide (r8 = r11)))) (yaa (yas rfl rfl ⟨_, rfl, (hS.sel [] (by decide)), h⟩))))))
          · replace h := h.2 hp5; exact rl_p (yab rfl (yad rfl (congrArg Value.bool (Bool.eq_false_iff.2 hp5))) rfl) rfl (rl_p (yab rfl (yad rfl (congrArg Value.bool (Bool.eq_false_iff.2 hp5))) rfl) rfl (rl_p (yab rfl (yad rfl (congrArg Value.bool (Bool.eq_false_iff.2 hp5))) rfl) rfl (zq (yav (v := (.bool (false))) (congrArg Value.bool (Bool.eq_false_iff.2 hp5)) rfl) (zq (za (.bool (false))) (yaa (yas rfl rfl ⟨_, rfl, (hS.sel [] (by decide)), h⟩))))))
        · replace h := h.2 hp4; exact rl_p (yab rfl (yad rfl (congrArg Value.bool (decide_eq_false hp4))) rfl) rfl (rl_p (yab rfl (yad rfl (congrArg Value.bool (decide_eq_false hp4))) rfl) rfl (rl_p (yab rfl (yad rfl (congrArg Value.bool (decide_eq_false hp4))) rfl) rfl (zq (yav (v := (.bool (false))) (congrArg Value.bool (decide_eq_false hp4)) rfl) (zq (zm (.bool (false))) (rl_p (yab rfl (yad rfl rfl) rfl) rfl (rl_p (yab rfl (yad rfl rfl) rfl) rfl (rl_p (yab rfl (yad rfl rfl) rfl) rfl (zq (yav (v := (.bool (false))) rfl rfl) (zq (za (.bool (false))) (yaa (yas rfl rfl ⟨_, rfl, (hS.sel [] (by decide)), h⟩)))))))))))
      · replace h := h.2 hp3; exact rl_p (yab rfl (yad rfl (congrArg Value.bool (decide_eq_false hp3))) rfl) rfl (rl_p (yab rfl (yad rfl (congrArg Value.bool (decide_eq_false hp3))) rfl) rfl (rl_p (yab rfl (yad rfl (congrArg Value.bool (decide_eq_false hp3))) rfl) rfl (zq (yav (v := (.bool (false))) (congrArg Value.bool (decide_eq_false hp3)) rfl) (zq (zm (.bool (false))) (rl_p (yab rfl (yad rfl rfl) rfl) rfl (rl_p (yab rfl (yad rfl rfl) rfl) rfl (rl_p (yab rfl (yad rfl rfl) rfl) rfl (zq (yav (v := (.bool (false))) rfl rfl) (zq (zm (.bool (false))) (rl_p (yab rfl (yad rfl rfl) rfl) rfl (rl_p (yab rfl (yad rfl rfl) rfl) rfl (rl_p (yab rfl (yad rfl rfl) rfl) rfl (zq (yav (v := (.bool (false))) rfl rfl) (zq (za (.bool (false))) (yaa (yas rfl rfl ⟨_, rfl, (hS.sel [] (by decide)), h⟩))))))))))))))))
    · replace h := h.2 hp2; exact rl_p (yab rfl (yad rfl (congrArg Value.bool (Bool.eq_false_iff.2 hp2))) rfl) rfl (rl_p (yab rfl (yad rfl (congrArg Value.bool (Bool.eq_false_iff.2 hp2))) rfl) rfl (rl_p (yab rfl (yad rfl (congrArg Value.bool (Bool.eq_false_iff.2 hp2))) rfl) rfl (zq (yav (v := (.bool (false))) (congrArg Value.bool (Bool.eq_false_iff.2 hp2)) rfl) (zq (zm (.bool (false))) (rl_p (yab rfl (yad rfl rfl) rfl) rfl (rl_p (yab rfl (yad rfl rfl) rfl) rfl (rl_p (yab rfl (yad rfl rfl) rfl) rfl (zq (yav (v := (.bool (false))) rfl rfl) (zq (zm (.bool (false))) (rl_p (yab rfl (yad rfl rfl) rfl) rfl (rl_p (yab rfl (yad rfl rfl) rfl) rfl (rl_p (yab rfl (yad rfl rfl) rfl) rfl (zq (yav (v := (.bool (false))) rfl rfl) (zq (zm (.bool (false))) (rl_p (yab rfl (yad rfl rfl) rfl) rfl (rl_p (yab rfl (yad rfl rfl) rfl) rfl (rl_p (yab rfl (yad rfl rfl) rfl) rfl (zq (yav (v := (.bool (false))) rfl rfl) (zq (za (.bool (false))) (yaa (yas rfl rfl ⟨_, rfl, (hS.sel [] (by decide)), h⟩)))))))))))))))))))))
end Go.Proofs.Ytdbpajnjhgocoaa

/- The graph with some single edges: the reference and the program. -/
namespace Go.Proofs.Ytdbpajnjhgocoaa
open Go Go.RowKit Go.Shelf Go.Proofs.Try
set_option linter.unusedVariables false
set_option linter.unusedSimpArgs false
def yfP (T : List (List Int)) (k j : Nat) : Option E3 := if 0 < gi (gx T k) (k + j) then some ((k : Int), ((k + j : Nat) : Int), gi (gx T k) (k + j)) else none
def rowJ (d : Nat) (T : List (List Int)) (k : Nat) : List E3 := (List.range (d - k)).filterMap (yfP T k)
def yed (d : Nat) (T : List (List Int)) : List E3 := (List.range d).flatMap (rowJ d T)
theorem p_r08_Joined {d : Nat} (hd : d ≤ 12) {T : List (List Int)} (hT : T.length = d) (hr : ∀ a, a < d → (gx T a).length = d) {R : Int → List E3 → Prop} (h : R d (yed d T)) : ydf d T R := by
  refine ⟨fun m a g => ∃ k : Nat, a = k ∧ k + m = d ∧ g = (List.range k).flatMap (rowJ d T) ∧ g.length ≤ k * 12, ⟨d, 0, rfl, by omega, rfl, by simp⟩, ?_⟩
  rintro m a g ⟨k, rfl, hk, rfl, hl⟩
  refine ⟨fun hlt => ?_, fun hge => ?_⟩
  · refine ⟨fun m b g4 => ∃ j : Nat, b = ((k + j : Nat) : Int) ∧ k + j + m = d ∧ g4 = (List.range k).flatMap (rowJ d T) ++ (List.range j).filterMap (yfP T k) ∧ g4.length ≤ k * 12 + j, ⟨d - k, 0, by simp, by omega, by simp, by simpa using hl⟩, ?_⟩
    rintro m' b g4 ⟨j, rfl, hj, rfl, hl4⟩
    refine ⟨fun hb => ?_, fun hb => ?_⟩
    · have hrow := hr k (by omega)
      refine ⟨⟨by omega, by omega⟩, ⟨by omega, by rw [Int.toNat_natCast, hrow]; omega⟩, ?_⟩
      rw [Int.toNat_natCast, Int.toNat_natCast]
      refine ⟨fun hp => ⟨by omega, ⟨by omega, by omega⟩, m' - 1, by omega, j + 1, by omega, by omega, ?_, ?_⟩, fun hp => ⟨⟨by omega, by omega⟩, m' - 1, by omega, j + 1, by omega, by omega, ?_, by omega⟩⟩
      · rw [List.range_succ, List.filterMap_append, List.append_assoc]
        simp [yfP, hp]
      · rw [List.length_append, List.length_singleton]; omega
      · rw [List.range_succ, List.filterMap_append]
        simp [yfP, hp]
    · have hj2 : j = d - k := by omega
      subst hj2
      refine ⟨⟨by omega, by omega⟩, m - 1, by omega, k + 1, by omega, by omega, ?_, by omega⟩
      rw [List.range_succ, List.flatMap_append]
      simp [rowJ]
  · have : k = d := by omega
    subst this
    exact h
def isE (a b : Int) (e : Int × Int) : Bool := decide (mnF e.1 e.2 = a ∧ mxF e.1 e.2 = b)
def cntE (l : List (Int × Int)) (a b : Int) : Int := (l.countP (isE a b) : Int)
def rowT (d : Nat) (l : List (Int × Int)) (a : Nat) : List Int := (List.range d).map fun (b : Nat) => cntE l (a : Int) (b : Int)
def tabE (d : Nat) (l : List (Int × Int)) : List (List Int) := (List.range d).map (rowT d l)
theorem yeL (d : Nat) (l : List (Int × Int)) (a : Nat) : (rowT d l a).length = d := by simp [rowT]
theorem yfk (d : Nat) (l : List (Int × Int)) : (tabE d l).length = d := by simp [tabE]
theorem ydY {d : Nat} {l : List (Int × Int)} {a : Nat} (h : a < d) : gx (tabE d l) a = rowT d l a := by
  rw [yeG (by rw [yfk]; exact h)]; simp [tabE]
theorem yeh {d : Nat} {l : List (Int × Int)} {a b : Nat} (h : b < d) : gi (rowT d l a) b = cntE l a b := by
  rw [ybz (by rw [yeL]; exact h)]; simp [rowT]
theorem ydq (l : List (Int × Int)) (e : Int × Int) (a b : Int) : cntE (l ++ [e]) a b = cntE l a b + if mnF e.1 e.2 = a ∧ mxF e.1 e.2 = b then 1 else 0 := by
  unfold cntE
  rw [List.countP_append]
  by_cases h : mnF e.1 e.2 = a ∧ mxF e.1 e.2 = b
  · simp [List.countP_cons, isE, h]
  · simp [List.countP_cons, isE, h]
theorem tabE_nil (d : Nat) : tabE d [] = List.replicate d (List.replicate d 0) := by
  apply List.ext_getElem?
  intro k
  by_cases h : k < d
  · simp only [tabE, List.getElem?_map, List.getElem?_range h, Option.map_some, List.getElem?_replicate, h, if_true]
    congr 1
    apply List.ext_getElem?
    intro j
    by_cases h2 : j < d
    · simp [rowT, List.getElem?_replicate, h2, cntE]
    · simp [rowT, h2]
  · simp [tabE, h]
theorem tabE_set {d : Nat} {l : List (Int × Int)} {e : Int × Int} {a b : Nat} (ha : a < d) (hb : b < d) (h1 : mnF e.1 e.2 = a) (h2 : mxF e.1 e.2 = b) : (tabE d l).set a ((gx (tabE d l) a).set b (gi (gx (tabE d l) a) b + 1)) = tabE d (l ++ [e]) := by
  rw [ydY ha, yeh hb]
  apply List.ext_getElem?
  intro k
  rw [List.getElem?_set, yfk]
  by_cases hk : a = k
  · subst hk
    rw [if_pos rfl, if_pos ha]
    simp only [tabE, List.getElem?_map, List.getElem?_range ha, Option.map_some]
    congr 1
    apply List.ext_getElem?
    intro j
    rw [List.getElem?_set, yeL]
    by_cases hj : b = j
    · subst hj
      rw [if_pos rfl, if_pos hb]
      simp [rowT, hb, ydq, h1, h2]
    · rw [if_neg hj]
      by_cases hjd : j < d
      · have : ¬ ((b : Int) = (j : Int)) := fun q => hj (by omega)
        simp [rowT, hjd, ydq, h1, h2, this]
      · simp [rowT, hjd]
  · rw [if_neg hk]
    by_cases hkd : k < d
    · have : ¬ ((a : Int) = (k : Int)) := fun q => hk (by omega)
      simp only [tabE, List.getElem?_map, List.getElem?_range hkd, Option.map_some]
      congr 1
      unfold rowT
      refine List.map_congr_left fun j _ => ?_
      simp [ydq, h1, this]
    · simp [tabE, hkd]
theorem ygz (l : List (Int × Int)) (a b : Int) : 0 ≤ cntE l a b := Int.natCast_nonneg _
theorem cntE_le (l : List (Int × Int)) (a b : Int) : cntE l a b ≤ l.length := Int.ofNat_le.2 List.countP_le_length
theorem p_r08_Make {d : Nat} (h1 : 1 ≤ d) (hd : d ≤ 12) {l : List (Int × Int)} (hl : ∀ e ∈ l, (0 ≤ e.1 ∧ e.1 < d) ∧ 0 ≤ e.2 ∧ e.2 < d) (hn : l.length ≤ 4096) (hm : ∀ a b, cntE l a b ≤ 50) {R : Int → List E3 → Int → Prop} (h : R d (yed d (tabE d l)) 0) : ydU d l R := by
  refine ⟨True, fun _ => ⟨fun q => by omega, fun _ => ⟨by omega, ?_⟩⟩, fun q => by omega, fun _ => ⟨fun q => by omega, fun _ => trivial⟩⟩
  refine ⟨fun m v T => ∃ k : Nat, v = k ∧ k + m = l.length ∧ T = tabE d (l.take k), ⟨l.length, 0, rfl, by omega, by simp [tabE_nil]⟩, ?_⟩
  rintro m v T ⟨k, rfl, hk, rfl⟩
  refine ⟨fun hlt => ?_, fun hge => ?_⟩
  · have hkl : k < l.length := by omega
    rw [Int.toNat_natCast]
    have hx := hl (gx l k) (by rw [yeG hkl]; exact List.getElem_mem hkl)
    have htk : l.take (k + 1) = l.take k ++ [gx l k] := by rw [List.take_add_one, List.getElem?_eq_getElem hkl, yeG hkl]; rfl
    generalize gx l k = e at hx htk ⊢
    obtain ⟨a, ha⟩ : ∃ a : Nat, mnF e.1 e.2 = a := ⟨(mnF e.1 e.2).toNat, by unfold mnF; split <;> omega⟩
    obtain ⟨b, hb⟩ : ∃ b : Nat, mxF e.1 e.2 = b := ⟨(mxF e.1 e.2).toNat, by unfold mxF; split <;> omega⟩
    have had : a < d := by unfold mnF at ha; split at ha <;> omega
    have hbd : b < d := by unfold mxF at hb; split at hb <;> omega
    refine ⟨by omega, by decide, by decide, True, fun _ => ?_, fun q => by omega, fun _ => ⟨fun q => by omega, fun _ => ⟨fun q => by omega, fun _ => ⟨fun q => by omega, fun _ => trivial⟩⟩⟩⟩
    rw [ha, hb, Int.toNat_natCast, Int.toNat_natCast, yfk, ydY had, yeL, yeh hbd]
    have hc1 := ygz (l.take k) a b
    have hc2 := cntE_le (l.take k) a b
    have hc3 : (l.take k).length ≤ 4096 := by rw [List.length_take]; omega
    refine ⟨⟨by omega, by omega⟩, ⟨by omega, by omega⟩, ⟨by omega, by omega⟩, ⟨by omega, by omega⟩, m - 1, by omega, k + 1, by omega, by omega, ?_⟩
    have := tabE_set (l := l.take k) had hbd ha hb
    rw [ydY had, yeh hbd] at this
    rw [htk]
    exact this
  · have hk2 : l.take k = l := List.take_of_length_le (by omega)
    rw [hk2]
    refine ⟨fun m v => ∃ k : Nat, v = k ∧ k + m = d, ⟨d, 0, rfl, by omega⟩, ?_⟩
    rintro m v ⟨a, rfl, ha⟩
    refine ⟨fun hlt => ?_, fun _ => p_r08_Joined hd (yfk d l) (fun a ha => by rw [ydY ha, yeL]) h⟩
    refine ⟨fun m v => ∃ k : Nat, v = k ∧ k + m = d, ⟨d, 0, rfl, by omega⟩, ?_⟩
    rintro m' v ⟨b, rfl, hb⟩
    refine ⟨fun hlt2 => ?_, fun _ => ⟨⟨by omega, by omega⟩, m - 1, by omega, a + 1, by omega, by omega⟩⟩
    rw [Int.toNat_natCast, Int.toNat_natCast, yfk, ydY (by omega), yeL, yeh (by omega)]
    have := hm a b
    exact ⟨⟨by omega, by omega⟩, ⟨by omega, by omega⟩, fun q => by omega, fun _ => ⟨⟨by omega, by omega⟩, m' - 1, by omega, b + 1, by omega, by omega⟩⟩
structure BagOk (d : Nat) (l : List (Int × Int)) (M : List (List Int × Int)) : Prop where
  key : KOk 2 M
  at_ : ∀ p ∈ M, ∃ a b : Nat, a ≤ b ∧ b < d ∧ p.1 = [(a : Int), (b : Int)] ∧ p.2 = cntE l a b ∧ 0 < p.2
  get : ∀ a b : Int, (mget M [a, b]).getD 0 = cntE l a b
  len : M.length ≤ l.length
theorem BagOk.nil (d : Nat) : BagOk d [] [] := ⟨KOk.nil 2, fun p h => by simp at h, fun a b => by simp [mget, cntE], Nat.le_refl _⟩
theorem keyOk2 {d a b : Nat} (hd : d ≤ 12) (h1 : a ≤ b) (h2 : b < d) : yf5 2 [(a : Int), (b : Int)] := by
  refine ⟨rfl, fun x hx => ?_⟩
  simp only [List.mem_cons, List.not_mem_nil, or_false] at hx
  rcases hx with rfl | rfl <;> exact ⟨by omega, by omega⟩
theorem BagOk.put {d : Nat} {l : List (Int × Int)} {M : List (List Int × Int)} (h : BagOk d l M) (hd : d ≤ 12) {e : Int × Int} {a b : Nat} (h1 : a ≤ b) (h2 : b < d) (ha : mnF e.1 e.2 = a) (hb : mxF e.1 e.2 = b) : BagOk d (l ++ [e]) (mput M [(a : Int), (b : Int)] (cntE l a b + 1)) := by
  have hk := h.key.put (keyOk2 hd h1 h2) (cntE l a b + 1)
  refine ⟨hk, fun p hp => ?_, fun x y => ?_, by have := h.len; rw [mput_length, List.length_append, List.length_singleton]; split <;> omega⟩
  · obtain ⟨j, hj⟩ := List.getElem?_of_mem hp
    have hg := mget_at hk.1 (k := p.1) (v := p.2) hj
    rw [yfV] at hg
    by_cases q : [(a : Int), (b : Int)] = p.1
    · rw [if_pos q] at hg
      refine ⟨a, b, h1, h2, q.symm, ?_, ?_⟩
      · rw [ydq, if_pos ⟨ha, hb⟩]; exact (Option.some.inj hg).symm
      · rw [← Option.some.inj hg]; have := ygz l a b; omega
    · rw [if_neg q] at hg
      obtain ⟨x, y, h3, h4, h5, h6, h7⟩ := h.at_ _ (mget_mem hg)
      refine ⟨x, y, h3, h4, h5, ?_, h7⟩
      rw [ydq, if_neg, Int.add_zero]
      · exact h6
      · rintro ⟨q1, q2⟩
        rw [ha] at q1; rw [hb] at q2
        have h5 : p.1 = [(x : Int), (y : Int)] := h5
        exact q (by rw [h5, q1, q2])
  · rw [yfV, ydq, ha, hb, ← h.get x y]
    by_cases q : (a : Int) = x ∧ (b : Int) = y
    · rw [if_pos (by rw [q.1, q.2]), if_pos q, h.get x y, ← q.1, ← q.2]; rfl
    · rw [if_neg (fun z => q (by simpa using z)), if_neg q, Int.add_zero]
def eM (p : List Int × Int) : E3 := (gi p.1 0, gi p.1 1, p.2)
theorem nodupN_le : ∀ {l K : List Nat}, l.Nodup → (∀ x ∈ l, x ∈ K) → l.length ≤ K.length
  | [], K, _, _ => Nat.zero_le _
  | a :: t, K, hn, hs => by
    rw [List.nodup_cons] at hn
    have ha : a ∈ K := hs a (by simp)
    have h2 := nodupN_le (l := t) (K := K.erase a) hn.2 fun x hx => (List.mem_erase_of_ne (by rintro rfl; exact hn.1 hx)).2 (hs x (by simp [hx]))
    rw [List.length_erase_of_mem ha] at h2
    have : 0 < K.length := List.length_pos_of_mem ha
    rw [List.length_cons]; omega
theorem seen_lt {n j : Nat} {seen : List Nat} (hn : seen.Nodup) (hs : ∀ x ∈ seen, x < n) (hj : j < n) (hnj : j ∉ seen) : seen.length < n := by
  have := nodupN_le (l := j :: seen) (K := List.range n) (List.nodup_cons.2 ⟨hnj, hn⟩) fun x hx => by
    rcases List.mem_cons.1 hx with rfl | hx
    · exact List.mem_range.2 hj
    · exact List.mem_range.2 (hs x hx)
  simp at this; omega
theorem yen {d : Nat} {l : List (Int × Int)} {x : E3} : x ∈ yed d (tabE d l) ↔ ∃ a b : Nat, a ≤ b ∧ b < d ∧ 0 < cntE l a b ∧ x = ((a : Int), (b : Int), cntE l a b) := by
  unfold yed
  simp only [List.mem_flatMap, List.mem_range, rowJ, List.mem_filterMap]
  constructor
  · rintro ⟨a, ha, j, hj, hx⟩
    unfold yfP at hx
    rw [ydY ha, yeh (by omega)] at hx
    split at hx
    · rename_i hp
      exact ⟨a, a + j, by omega, by omega, hp, (Option.some.inj hx).symm⟩
    · cases hx
  · rintro ⟨a, b, h1, h2, h3, rfl⟩
    refine ⟨a, by omega, b - a, by omega, ?_⟩
    unfold yfP
    rw [ydY (by omega), yeh (by omega), show a + (b - a) = b by omega, if_pos h3]
def ltE (x y : E3) : Prop := x.1 < y.1 ∨ x.1 = y.1 ∧ x.2.1 < y.2.1
theorem yes {d : Nat} {T : List (List Int)} : (yed d T).Pairwise ltE := by
  unfold yed
  rw [List.pairwise_flatMap]
  refine ⟨fun a _ => ?_, ?_⟩
  · unfold rowJ
    refine List.Pairwise.filterMap (R := fun a b => a < b) (S := ltE) (yfP T a) ?_ List.pairwise_lt_range
    intro x y hxy u hu v hv
    unfold yfP at hu hv
    split at hu
    · split at hv
      · cases hu; cases hv
        refine .inr ⟨rfl, ?_⟩
        show ((a + x : Nat) : Int) < ((a + y : Nat) : Int)
        omega
      · cases hv
    · cases hu
  · refine List.pairwise_lt_range.imp ?_
    intro a b hab u hu v hv
    simp only [rowJ, List.mem_filterMap] at hu hv
    obtain ⟨x, _, hu⟩ := hu
    obtain ⟨y, _, hv⟩ := hv
    unfold yfP at hu hv
    split at hu
    · split at hv
      · cases hu; cases hv
        refine .inl ?_
        show (a : Int) < (b : Int)
        omega
      · cases hv
    · cases hu
theorem BagOk.mem {d : Nat} {l : List (Int × Int)} {M : List (List Int × Int)} (h : BagOk d l M) (x : E3) : x ∈ M.map eM ↔ x ∈ yed d (tabE d l) := by
  rw [yen, List.mem_map]
  constructor
  · rintro ⟨p, hp, rfl⟩
    obtain ⟨a, b, h1, h2, h3, h4, h5⟩ := h.at_ p hp
    exact ⟨a, b, h1, h2, by rw [← h4]; exact h5, by unfold eM; rw [h3, h4]; rfl⟩
  · rintro ⟨a, b, h1, h2, h3, rfl⟩
    have hg := h.get a b
    cases hq : mget M [(a : Int), (b : Int)] with
    | none => rw [hq] at hg; simp at hg; omega
    | some v =>
      rw [hq] at hg
      have hg : v = cntE l a b := hg
      exact ⟨_, mget_mem hq, by unfold eM; rw [hg]; rfl⟩
theorem BagOk.nodup {d : Nat} {l : List (Int × Int)} {M : List (List Int × Int)} (h : BagOk d l M) : (M.map eM).Nodup := by
  unfold List.Nodup
  rw [List.pairwise_map]
  refine h.key.1.imp_of_mem ?_
  intro p q hp hq hne he
  obtain ⟨a, b, _, _, h3, _, _⟩ := h.at_ p hp
  obtain ⟨a', b', _, _, h3', _, _⟩ := h.at_ q hq
  apply hne
  unfold eM at he
  rw [h3, h3'] at he ⊢
  have e1 : (a : Int) = a' := congrArg Prod.fst he
  have e2 : (b : Int) = b' := congrArg (fun z : E3 => z.2.1) he
  rw [e1, e2]
theorem sorted_unique {d : Nat} {T : List (List Int)} {zs : List E3} (hp : zs.Perm (yed d T)) (hs : zs.Pairwise (fun a b => ¬ ydP b.1 b.2.1 a.1 a.2.1 < 0)) : zs = yed d T := by
  have hsd := yes (d := d) (T := T)
  have hJ : (yed d T).Pairwise (fun a b : E3 => ¬ ydP b.1 b.2.1 a.1 a.2.1 < 0) := hsd.imp fun {a b} h => by
    rw [ydO]
    unfold ltE at h
    omega
  refine List.Perm.eq_of_pairwise (le := fun a b : E3 => ¬ ydP b.1 b.2.1 a.1 a.2.1 < 0) (fun a b ha hb h1 h2 => ?_) hs hJ hp
  rw [ydO] at h1 h2
  have ha := hp.subset ha
  have e : a.1 = b.1 ∧ a.2.1 = b.2.1 := by omega
  rcases Classical.em (a = b) with q | q
  · exact q
  · exfalso
    have key : ∀ x y : E3, x ∈ yed d T → y ∈ yed d T → x ≠ y → x.1 = y.1 ∧ x.2.1 = y.2.1 → False := by
      intro x y hx hy hne he
      have p1 : (yed d T).Pairwise (fun x y : E3 => x ≠ y → ¬ (x.1 = y.1 ∧ x.2.1 = y.2.1)) := hsd.imp fun {a b} h _ he => by unfold ltE at h; omega
      have p2 : (yed d T).Pairwise (flip fun x y : E3 => x ≠ y → ¬ (x.1 = y.1 ∧ x.2.1 = y.2.1)) := hsd.imp fun {a b} h => by
        show b ≠ a → ¬ (b.1 = a.1 ∧ b.2.1 = a.2.1)
        intro _ he; unfold ltE at h; omega
      have := List.Pairwise.forall_of_forall_of_flip (R := fun x y : E3 => x ≠ y → ¬ (x.1 = y.1 ∧ x.2.1 = y.2.1)) (fun z _ h => absurd rfl h) p1 p2
      exact this hx hy hne he
    exact key a b ha hb q e
theorem p_bag_graph {d : Nat} {l : List (Int × Int)} {M : List (List Int × Int)} (h : BagOk d l M) (hn : l.length ≤ 4096) {R : Int → List E3 → Prop} (hR : R d (yed d (tabE d l))) : yb8 M d R := by
  have hML := h.len
  refine ⟨fun m g seen => seen.Nodup ∧ (∀ j ∈ seen, j < M.length) ∧ g = seen.map (fun j => eM (M.getD j default)) ∧ m + seen.length = M.length, ⟨M.length, List.nodup_nil, by simp, rfl, by simp⟩, ?_⟩
  rintro m g seen ⟨h1, h2, rfl, h3⟩
  refine ⟨h.key, fun j ka kb kv hj hns => ?_, fun hall => ?_⟩
  · have hjl : j < M.length := (List.getElem?_eq_some_iff.1 hj).1
    have hlt := seen_lt h1 h2 hjl hns
    refine ⟨by rw [List.length_map]; omega, m - 1, by omega, ?_, ?_, ?_, ?_⟩
    · rw [List.nodup_append]
      exact ⟨h1, by simp, fun a ha b hb => by rw [List.mem_singleton] at hb; subst hb; exact fun q => hns (q ▸ ha)⟩
    · intro x hx
      rcases List.mem_append.1 hx with hx | hx
      · exact h2 x hx
      · rw [List.mem_singleton] at hx; subst hx; exact hjl
    · rw [List.map_append]
      simp [List.getD_eq_getElem?_getD, hj, eM, gi]
    · rw [List.length_append, List.length_singleton]; omega
  · have hp : seen.Perm (List.range M.length) := (List.perm_ext_iff_of_nodup h1 List.nodup_range).2 fun a => ⟨fun q => List.mem_range.2 (h2 a q), fun q => hall a (List.mem_range.1 q)⟩
    have he : (List.range M.length).map (fun j => eM (M.getD j default)) = M.map eM := by
      apply List.ext_getElem?
      intro k
      by_cases hk : k < M.length
      · simp [hk, List.getD_eq_getElem?_getD]
      · simp [hk]
    have hp2 : (seen.map fun j => eM (M.getD j default)).Perm (yed d (tabE d l)) := by
      refine (hp.map _).trans ?_
      rw [he]
      exact (List.perm_ext_iff_of_nodup h.nodup (yes.imp fun {a b} q => by rintro rfl; unfold ltE at q; omega)).2 h.mem
    refine ⟨by rw [List.length_map]; have := seen.length; omega, fun zs hz hs => ?_⟩
    rw [sorted_unique (hz.trans hp2) hs]
    exact hR
theorem p_graph_Make {d : Nat} (h1 : 1 ≤ d) (hd : d ≤ 12) {l : List (Int × Int)} (hl : ∀ e ∈ l, (0 ≤ e.1 ∧ e.1 < d) ∧ 0 ≤ e.2 ∧ e.2 < d) (hn : l.length ≤ 4096) (hm : ∀ a b, cntE l a b ≤ 50) {R : Int → List E3 → Int → Prop} (h : R d (yed d (tabE d l)) 0) : ya3 d l R := by
  refine ⟨True, fun _ => ⟨fun q => by omega, fun _ => ?_⟩, fun q => by omega, fun _ => ⟨fun q => by omega, fun _ => trivial⟩⟩
  refine ⟨fun m v M => ∃ k : Nat, v = k ∧ k + m = l.length ∧ BagOk d (l.take k) M, ⟨l.length, 0, rfl, by omega, BagOk.nil d⟩, ?_⟩
  rintro m v M ⟨k, rfl, hk, hM⟩
  refine ⟨fun hlt => ?_, fun hge => ?_⟩
  · have hkl : k < l.length := by omega
    rw [Int.toNat_natCast]
    have hx := hl (gx l k) (by rw [yeG hkl]; exact List.getElem_mem hkl)
    have htk : l.take (k + 1) = l.take k ++ [gx l k] := by rw [List.take_add_one, List.getElem?_eq_getElem hkl, yeG hkl]; rfl
    generalize gx l k = e at hx htk ⊢
    obtain ⟨a, ha⟩ : ∃ a : Nat, mnF e.1 e.2 = a := ⟨(mnF e.1 e.2).toNat, by unfold mnF; split <;> omega⟩
    obtain ⟨b, hb⟩ : ∃ b : Nat, mxF e.1 e.2 = b := ⟨(mxF e.1 e.2).toNat, by unfold mxF; split <;> omega⟩
    have hab : a ≤ b := by unfold mnF at ha; unfold mxF at hb; split at ha <;> split at hb <;> omega
    have hbd : b < d := by unfold mxF at hb; split at hb <;> omega
    have hg : (mget M [(a : Int), (b : Int)]).getD 0 = cntE (l.take k) a b := hM.get a b
    have hput := hM.put hd hab hbd ha hb
    have hc1 := ygz (l.take k) a b
    have hc2 := cntE_le (l.take k) a b
    have hc3 : (l.take k).length ≤ 4096 := by rw [List.length_take]; omega
    have hK := keyOk2 hd hab hbd
    have hin : In64 (cntE (l.take k) a b + 1) := ⟨by omega, by omega⟩
    refine ⟨by omega, True, fun _ => ?_, by decide, ?_⟩
    · refine ⟨fun M' => M' = mput M [(a : Int), (b : Int)] (cntE (l.take k) a b + 1), fun M' hM' => ?_, by decide, by decide, ?_⟩
      · subst hM'
        exact ⟨⟨by omega, by omega⟩, m - 1, by omega, k + 1, by omega, by omega, by rw [htk]; exact hput⟩
      · unfold ycG
        rw [ha, hb]
        refine ⟨⟨hM.key, hK, by rw [hg]; exact hin, by rw [hg]⟩, hM.key, hK, hM.key.put hK _, ?_, ?_⟩
        · rw [yfV, if_pos rfl, Option.getD_some, hg]; exact hin
        · show _ = _
          rw [yfV, if_pos rfl, Option.getD_some, hg]
    · unfold ybe
      obtain ⟨⟨x1, x2⟩, x3, x4⟩ := hx
      exact ⟨fun _ => ⟨fun _ => ⟨by decide, fun _ => ⟨fun _ => trivial, fun q => absurd (decide_eq_true x4) q⟩, fun q => absurd x3 q⟩, fun q => absurd (decide_eq_true x2) q⟩, fun q => absurd x1 q⟩
  · have hk2 : l.take k = l := List.take_of_length_le (by omega)
    rw [hk2] at hM
    refine ⟨fun m seen => seen.Nodup ∧ (∀ j ∈ seen, j < M.length) ∧ m + seen.length = M.length, ⟨M.length, List.nodup_nil, by simp, by simp⟩, ?_⟩
    rintro m seen ⟨q1, q2, q3⟩
    refine ⟨hM.key, fun j ka kb kv hj hns => ?_, fun _ => p_bag_graph hM hn h⟩
    have hjl : j < M.length := (List.getElem?_eq_some_iff.1 hj).1
    have hlt := seen_lt q1 q2 hjl hns
    have h50 : kv ≤ 50 := by
      obtain ⟨a, b, _, _, _, h6, _⟩ := hM.at_ _ (List.mem_of_getElem? hj)
      have h6 : kv = cntE l a b := h6
      rw [h6]; exact hm a b
    refine ⟨fun q => by omega, fun _ => ⟨m - 1, by omega, ?_, ?_, ?_⟩⟩
    · rw [List.nodup_append]
      exact ⟨q1, by simp, fun a ha b hb => by rw [List.mem_singleton] at hb; subst hb; exact fun q => hns (q ▸ ha)⟩
    · intro x hx
      rcases List.mem_append.1 hx with hx | hx
      · exact q2 x hx
      · rw [List.mem_singleton] at hx; subst hx; exact hjl
    · rw [List.length_append, List.length_singleton]; omega
end Go.Proofs.Ytdbpajnjhgocoaa

/- The ends of the edges of each kind: program and reference. -/
namespace Go.Proofs.Ytdbpajnjhgocoaa
open Go Go.RowKit Go.Shelf Go.Proofs.Try
set_option linter.unusedVariables false
set_option linter.unusedSimpArgs false
def cntL (a n : Nat) : List Int := (List.range n).map fun (i : Nat) => ((a + i : Nat) : Int)
theorem yaZ (a n : Nat) : (cntL a n).length = n := by simp [cntL]
theorem ycv (a n : Nat) : cntL a (n + 1) = cntL a n ++ [((a + n : Nat) : Int)] := by simp [cntL, List.range_succ]
theorem ybv {a n : Nat} (ha : a ≤ 10000) (hn : n ≤ 10000) {R : List Int → Prop} (h : R (cntL a n)) : ya5 a n R := by
  refine ⟨⟨by omega, by omega⟩, fun m v out => ∃ k : Nat, v = k ∧ k + m = n ∧ out = cntL a k ++ List.replicate m 0, ⟨n, 0, rfl, by omega, by simp [cntL]⟩, ?_⟩
  rintro m v out ⟨k, rfl, hk, rfl⟩
  rw [List.length_replicate, Int.toNat_natCast]
  refine ⟨fun hlt => ⟨⟨by omega, by omega⟩, ⟨by omega, by rw [List.length_append, yaZ, List.length_replicate]; omega⟩, ⟨by omega, by omega⟩, m - 1, by omega, k + 1, by omega, by omega, ?_⟩, fun hge => ?_⟩
  · obtain ⟨m', rfl⟩ : ∃ m', m = m' + 1 := ⟨m - 1, by omega⟩
    rw [Int.toNat_natCast, List.set_append_right _ _ (by rw [yaZ]; exact Nat.le_refl _), yaZ, Nat.sub_self, List.replicate_succ, List.set_cons_zero, ycv, List.append_assoc]
    simp
  · have : m = 0 := by omega
    subst this
    have : k = n := by omega
    subst this
    simpa using h
theorem ybT {x : Int} {n : Nat} (hn : n ≤ 10000) {t : Int} (ht : t.toNat = n) {R : List Int → Prop} (h : R (List.replicate n x)) : ya9 x t R := by
  refine ⟨fun m out v => ∃ k : Nat, v = k ∧ k + m = n ∧ out = List.replicate k x, ⟨n, 0, rfl, by omega, rfl⟩, ?_⟩
  rintro m out v ⟨k, rfl, hk, rfl⟩
  refine ⟨fun hlt => ⟨by rw [List.length_replicate]; omega, ⟨by omega, by omega⟩, m - 1, by omega, k + 1, by omega, by omega, by rw [List.replicate_succ']⟩, fun hge => ?_⟩
  have : k = n := by omega
  subst this
  exact h
theorem ybK {s : Int} {s2 : List (Int × Int)} {a : Int} {o : List Int} (hl : s2.length + o.length ≤ 100000) {R : List (Int × Int) → Prop} (h : R (s2 ++ o.map fun b => (a, b))) : yaI s s2 a o R := by
  refine ⟨fun m v s3 => ∃ k : Nat, v = k ∧ k + m = o.length ∧ s3 = s2 ++ (o.take k).map fun b => (a, b), ⟨o.length, 0, rfl, by omega, by simp⟩, ?_⟩
  rintro m v s3 ⟨k, rfl, hk, rfl⟩
  refine ⟨fun hlt => ?_, fun hge => ?_⟩
  · have hko : k < o.length := by omega
    refine ⟨⟨by omega, by omega⟩, by rw [List.length_append, List.length_map, List.length_take]; omega, ⟨by omega, by omega⟩, m - 1, by omega, k + 1, by omega, by omega, ?_⟩
    rw [Int.toNat_natCast, ybz hko, List.take_add_one, List.getElem?_eq_getElem hko, List.map_append]
    simp
  · rw [List.take_of_length_le (by omega)]; exact h
def wayL : List Int → List (Int × Int)
  | a :: b :: t => (a, b) :: wayL (b :: t)
  | _ => []
theorem yem : ∀ (l : List Int) (a b : Int), wayL (l ++ [a] ++ [b]) = wayL (l ++ [a]) ++ [(a, b)]
  | [], a, b => rfl
  | [x], a, b => rfl
  | x :: y :: t, a, b => by
    have := yem (y :: t) a b
    simp only [List.cons_append, wayL] at this ⊢
    rw [this]
theorem yfS : ∀ (l : List Int), (wayL l).length ≤ l.length
  | [] => Nat.le_refl _
  | [_] => Nat.zero_le _
  | a :: b :: t => by have := yfS (b :: t); simp only [wayL, List.length_cons] at this ⊢; omega
theorem ydv {s : Int} {s2 : List (Int × Int)} {l : List Int} (hl : s2.length + l.length ≤ 50000) {R : List (Int × Int) → Prop} (h : R (s2 ++ wayL l)) : ya7 s s2 l R := by
  refine ⟨fun m i s3 => ∃ k : Nat, i = ((k + 1 : Nat) : Int) ∧ (k + 1 ≤ l.length → k + 1 + m = l.length) ∧ s3 = s2 ++ wayL (l.take (k + 1)), ⟨l.length - 1, 0, rfl, by omega, ?_⟩, ?_⟩
  · cases l with
    | nil => simp [wayL]
    | cons x t => simp [wayL]
  · rintro m i s3 ⟨k, rfl, hk, rfl⟩
    refine ⟨fun hlt => ?_, fun hge => ?_⟩
    · have h1 : k + 1 < l.length := by omega
      have e1 : (((k + 1 : Nat) : Int) - 1) = (k : Int) := by omega
      rw [e1, Int.toNat_natCast, Int.toNat_natCast]
      refine ⟨⟨by omega, by omega⟩, ⟨by omega, by omega⟩, ⟨by omega, by omega⟩, ?_⟩
      have hw := yfS (l.take (k + 1))
      rw [List.length_take] at hw
      refine ybK (by rw [List.length_append, List.length_singleton]; omega) ⟨⟨by omega, by omega⟩, m - 1, by omega, k + 1, by omega, by omega, ?_⟩
      have t1 : l.take (k + 1) = l.take k ++ [gi l k] := by rw [List.take_add_one, List.getElem?_eq_getElem (by omega), ybz (by omega)]; rfl
      have t2 : l.take (k + 1 + 1) = l.take (k + 1) ++ [gi l (k + 1)] := by rw [List.take_add_one, List.getElem?_eq_getElem h1, ybz h1]; rfl
      rw [t2, t1, yem, List.append_assoc]; rfl
    · rcases Nat.lt_or_ge (k + 1) l.length with q | q
      · omega
      · rw [List.take_of_length_le q]; exact h
def ycl (a n : Nat) : List (Int × Int) := (List.range n).map fun (i : Nat) => (((a + i : Nat) : Int), ((a + i : Nat) : Int) + 1)
theorem lineL_snoc (a n : Nat) : ycl a (n + 1) = ycl a n ++ [(((a + n : Nat) : Int), ((a + n : Nat) : Int) + 1)] := by simp [ycl, List.range_succ]
theorem ygm (a : Nat) : ∀ n : Nat, wayL (cntL a (n + 1)) = ycl a n
  | 0 => by simp [cntL, wayL, ycl]
  | n + 1 => by
    rw [ycv a (n + 1), ycv a n, yem, ← ycv a n, ygm a n, lineL_snoc]
    simp; omega
theorem wayL_close (a n : Nat) (z : Int) : wayL (cntL a (n + 1) ++ [z]) = ycl a n ++ [(((a + n : Nat) : Int), z)] := by
  rw [ycv, yem, ← ycv, ygm]
theorem yfu {a n : Nat} (ha : a ≤ 1000) (hn : n ≤ 1000) {x y : Int} (hx : x = a) (hy : y = ((a + n : Nat) : Int)) {R : List (Int × Int) → Prop} (h : R (ycl a n)) : ycS x y R := by
  subst hx; subst hy
  refine ⟨fun m out v => ∃ k : Nat, v = ((a + k : Nat) : Int) ∧ k + m = n ∧ out = ycl a k, ⟨n, 0, rfl, by omega, rfl⟩, ?_⟩
  rintro m out v ⟨k, rfl, hk, rfl⟩
  refine ⟨fun hlt => ⟨⟨by omega, by omega⟩, by simp [ycl]; omega, m - 1, by omega, k + 1, by omega, by omega, by rw [lineL_snoc]⟩, fun hge => ?_⟩
  have : k = n := by omega
  subst this
  exact h
def ycc (m n : Nat) : List (Int × Int) := (List.range m).flatMap fun (i : Nat) => (cntL m n).map fun b => ((i : Int), b)
theorem yfW {α : Type} (f : Nat → List α) (c : Nat) (h : ∀ i, (f i).length = c) : ∀ k, ((List.range k).flatMap f).length = k * c
  | 0 => by simp
  | k + 1 => by rw [List.range_succ, List.flatMap_append, List.length_append, yfW f c h k]; simp [h, Nat.add_mul]
theorem ydQ {m n : Nat} (hm : m ≤ 100) (hn : n ≤ 100) {R : List (Int × Int) → Prop} (h : R (ycc m n)) : yb6 m n R := by
  refine ⟨fun q out i => ∃ k : Nat, i = k ∧ k + q = m ∧ out = (List.range k).flatMap fun (i : Nat) => (cntL m n).map fun b => ((i : Int), b), ⟨m, 0, rfl, by omega, rfl⟩, ?_⟩
  rintro q out i ⟨k, rfl, hk, rfl⟩
  refine ⟨fun hlt => ?_, fun hge => ?_⟩
  · refine ⟨fun q2 out2 j => ∃ k2 : Nat, j = k2 ∧ k2 + q2 = n ∧ out2 = ((List.range k).flatMap fun (i : Nat) => (cntL m n).map fun b => ((i : Int), b)) ++ (cntL m k2).map fun b => ((k : Int), b), ⟨n, 0, rfl, by omega, by simp [cntL]⟩, ?_⟩
    rintro q2 out2 j ⟨k2, rfl, hk2, rfl⟩
    have hl := yfW (fun (i : Nat) => (cntL m n).map fun b => ((i : Int), b)) n (fun i => by simp [yaZ]) k
    have hb : k * n ≤ 100 * 100 := Nat.mul_le_mul (by omega) hn
    refine ⟨fun hlt2 => ⟨⟨by omega, by omega⟩, by rw [List.length_append, hl, List.length_map, yaZ]; omega, ⟨by omega, by omega⟩, q2 - 1, by omega, k2 + 1, by omega, by omega, ?_⟩, fun hge2 => ⟨⟨by omega, by omega⟩, q - 1, by omega, k + 1, by omega, by omega, ?_⟩⟩
    · rw [ycv, List.map_append, List.append_assoc]; rfl
    · have : k2 = n := by omega
      subst this
      rw [List.range_succ, List.flatMap_append]; simp
  · have : k = m := by omega
    subst this
    exact h
def compL (n : Nat) : List (Int × Int) := (List.range n).flatMap fun (v : Nat) => (cntL (v + 1) (n - v - 1)).map fun b => ((v : Int), b)
theorem yeH (n : Nat) : ycc 1 n = (cntL 1 n).map fun b => ((0 : Int), b) := by simp [ycc, List.range_succ]
section
variable {s : Int} {n : Nat} {R : List (Int × Int) → Prop}
theorem p_fam_path (h1 : 1 ≤ n) (h2 : n ≤ 1000) (h : R (ycl 0 (n - 1))) : ybQ s [] [(n : Int)] R := by
  refine ⟨by simp, ybv (a := 0) (n := n) (by omega) (by omega) (ydv (by rw [yaZ]; simp; omega) ?_)⟩
  obtain ⟨k, rfl⟩ : ∃ k, n = k + 1 := ⟨n - 1, by omega⟩
  rw [ygm]; exact h
theorem p_fam_cycle (h1 : 1 ≤ n) (h2 : n ≤ 1000) (h : R (ycl 0 (n - 1) ++ [((n : Int) - 1, 0)])) : ybO s [] [(n : Int)] R := by
  refine ⟨by simp, ybv (a := 0) (n := n) (by omega) (by omega) ⟨by rw [yaZ]; omega, ydv (by rw [List.length_append, yaZ]; simp; omega) ?_⟩⟩
  obtain ⟨k, rfl⟩ : ∃ k, n = k + 1 := ⟨n - 1, by omega⟩
  rw [wayL_close]
  have e : (((k + 1 : Nat) : Int) - 1) = ((0 + k : Nat) : Int) := by omega
  rw [e] at h
  exact h
theorem p_fam_star (h2 : n ≤ 1000) (h : R (ycc 1 n)) : ybM s [] [(n : Int)] R := by
  refine ⟨by simp, ybv (a := 1) (n := n) (by omega) (by omega) (ybK (by rw [yaZ]; simp; omega) ?_)⟩
  rw [yeH] at h; exact h
theorem p_fam_banana (h2 : n ≤ 1000) (h : R (List.replicate n (0, 1))) : ybR s [] [(n : Int)] R := by
  refine ⟨by simp, ybT (n := n) (by omega) (by exact Int.toNat_natCast n) (ybK (by rw [List.length_replicate]; simp; omega) ?_)⟩
  simpa using h
theorem p_fam_wheel (h1 : 1 ≤ n) (h2 : n ≤ 1000) (h : R ((ycc 1 n ++ ycl 1 (n - 1)) ++ [((n : Int), 1)])) : ybN s [] [(n : Int)] R := by
  refine ⟨by simp, ybv (a := 1) (n := n) (by omega) (by omega) (ybK (by rw [yaZ]; simp; omega) ?_)⟩
  refine ybv (a := 1) (n := n) (by omega) (by omega) ⟨by rw [yaZ]; omega, ydv (by rw [List.length_append, List.length_append, List.length_map, yaZ]; simp; omega) ?_⟩
  obtain ⟨k, rfl⟩ : ∃ k, n = k + 1 := ⟨n - 1, by omega⟩
  rw [wayL_close]
  have e : (((k + 1 : Nat) : Int)) = ((1 + k : Nat) : Int) := by omega
  rw [yeH, List.append_assoc, e] at h
  exact h
theorem p_fam_complete (h1 : 1 ≤ n) (h2 : n ≤ 12) (h : R (compL n)) : ybS s [] [(n : Int)] R := by
  refine ⟨by simp, fun m v s3 => ∃ k : Nat, v = k ∧ k + m = n ∧ s3 = ((List.range k).flatMap fun (v : Nat) => (cntL (v + 1) (n - v - 1)).map fun b => ((v : Int), b)) ∧ s3.length ≤ k * 12, ⟨n, 0, rfl, by omega, rfl, by simp⟩, ?_⟩
  rintro m v s3 ⟨k, rfl, hk, rfl, hl⟩
  have hg : gi [(n : Int)] (Int.toNat 0) = n := rfl
  rw [hg]
  refine ⟨fun hlt => ⟨⟨by omega, by omega⟩, ⟨by omega, by omega⟩, ⟨by omega, by omega⟩, ?_⟩, fun hge => ?_⟩
  · have e1 : ((k : Int) + 1) = ((k + 1 : Nat) : Int) := by omega
    have e2 : ((n : Int) - k - 1) = ((n - k - 1 : Nat) : Int) := by omega
    rw [e1, e2]
    refine ybv (by omega) (by omega) (ybK (by rw [yaZ]; omega) ⟨m - 1, by omega, k + 1, rfl, by omega, ?_, ?_⟩)
    · rw [List.range_succ, List.flatMap_append]; simp
    · rw [List.length_append, List.length_map, yaZ]; omega
  · have : k = n := by omega
    subst this
    exact h
theorem yf8 {m : Nat} (h1 : m ≤ 12) (h2 : n ≤ 12) (h : R (ycc m n)) : ybI s [] [(m : Int), (n : Int)] R := by
  refine ⟨by simp, fun q v s3 => ∃ k : Nat, v = k ∧ k + q = m ∧ s3 = ((List.range k).flatMap fun (i : Nat) => (cntL m n).map fun b => ((i : Int), b)), ⟨m, 0, rfl, by omega, rfl⟩, ?_⟩
  rintro q v s3 ⟨k, rfl, hk, rfl⟩
  have hg : gi [(m : Int), (n : Int)] (Int.toNat 0) = m := rfl
  have hg1 : gi [(m : Int), (n : Int)] (Int.toNat 1) = n := rfl
  rw [hg, hg1]
  have hl := yfW (fun (i : Nat) => (cntL m n).map fun b => ((i : Int), b)) n (fun i => by simp [yaZ]) k
  have hb : k * n ≤ 12 * 12 := Nat.mul_le_mul (by omega) h2
  refine ⟨fun hlt => ⟨by simp, ybv (by omega) (by omega) (ybK (by rw [hl, yaZ]; omega) ⟨⟨by omega, by omega⟩, q - 1, by omega, k + 1, rfl, by omega, ?_⟩)⟩, fun hge => ?_⟩
  · rw [List.range_succ, List.flatMap_append]; simp
  · have : k = m := by omega
    subst this
    exact h
end
section
variable {n : Nat} {R : List (Int × Int) → Prop}
theorem p_ends_path (h1 : 1 ≤ n) (h2 : n ≤ 12) (h : R (ycl 0 (n - 1))) : yaX 0 [(n : Int)] R := by
  have hg : gi [(n : Int)] (Int.toNat 0) = n := rfl
  unfold yaX
  rw [hg]
  exact ⟨by simp, fun _ => ⟨⟨by omega, by omega⟩, yfu (a := 0) (n := n - 1) (by omega) (by omega) rfl (by omega) h⟩, fun q => absurd rfl q⟩
theorem p_ends_cycle (h1 : 1 ≤ n) (h2 : n ≤ 12) (h : R (ycl 0 (n - 1) ++ [((n : Int) - 1, 0)])) : yaX 1 [(n : Int)] R := by
  have hg : gi [(n : Int)] (Int.toNat 0) = n := rfl
  unfold yaX
  rw [hg]
  exact ⟨by simp, fun q => absurd q (by decide), fun _ => ⟨fun _ => ⟨⟨by omega, by omega⟩, yfu (a := 0) (n := n - 1) (by omega) (by omega) rfl (by omega) ⟨by simp [ycl]; omega, h⟩⟩, fun q => absurd rfl q⟩⟩
theorem p_ends_star (h2 : n ≤ 12) (h : R (ycc 1 n)) : yaX 2 [(n : Int)] R := by
  have hg : gi [(n : Int)] (Int.toNat 0) = n := rfl
  unfold yaX
  rw [hg]
  exact ⟨by simp, fun q => absurd q (by decide), fun _ => ⟨fun q => absurd q (by decide), fun _ => ⟨fun _ => ydQ (m := 1) (by omega) (by omega) h, fun q => absurd rfl q⟩⟩⟩
theorem p_ends_banana (h2 : n ≤ 1000) (h : R (List.replicate n (0, 1))) : yaX 4 [(n : Int)] R := by
  have hg : gi [(n : Int)] (Int.toNat 0) = n := rfl
  unfold yaX
  rw [hg]
  refine ⟨by simp, fun q => absurd q (by decide), fun _ => ⟨fun q => absurd q (by decide), fun _ => ⟨fun q => absurd q (by decide), fun _ => ⟨fun _ => ?_, fun q => absurd rfl q⟩⟩⟩⟩
  refine ⟨fun m v v2 => ∃ k : Nat, v2 = k ∧ k + m = n ∧ v = List.replicate k (0, 1), ⟨n, 0, rfl, by omega, rfl⟩, ?_⟩
  rintro m v v2 ⟨k, rfl, hk, rfl⟩
  refine ⟨fun hlt => ⟨by rw [List.length_replicate]; omega, ⟨by omega, by omega⟩, m - 1, by omega, k + 1, by omega, by omega, by rw [List.replicate_succ']⟩, fun hge => ?_⟩
  have : k = n := by omega
  subst this
  exact h
theorem p_ends_wheel (h1 : 1 ≤ n) (h2 : n ≤ 12) (h : R ((ycc 1 n ++ ycl 1 (n - 1)) ++ [((n : Int), 1)])) : yaX 5 [(n : Int)] R := by
  have hg : gi [(n : Int)] (Int.toNat 0) = n := rfl
  unfold yaX
  rw [hg]
  refine ⟨by simp, fun q => absurd q (by decide), fun _ => ⟨fun q => absurd q (by decide), fun _ => ⟨fun q => absurd q (by decide), fun _ => ⟨fun q => absurd q (by decide), fun _ => ⟨fun _ => ?_, fun q => absurd rfl q⟩⟩⟩⟩⟩
  have hc : (ycc 1 n).length = n := by rw [yeH, List.length_map, yaZ]
  exact ydQ (m := 1) (by omega) (by omega) (yfu (a := 1) (n := n - 1) (by omega) (by omega) rfl (by omega) ⟨by rw [hc]; simp [ycl]; omega, by rw [List.length_append, hc]; simp [ycl]; omega, h⟩)
theorem yfR {m : Nat} (h1 : m ≤ 12) (h2 : n ≤ 12) (h : R (ycc m n)) : yaX 6 [(m : Int), (n : Int)] R := by
  have hg : gi [(m : Int), (n : Int)] (Int.toNat 0) = m := rfl
  have hg1 : gi [(m : Int), (n : Int)] (Int.toNat 1) = n := rfl
  unfold yaX
  rw [hg, hg1]
  exact ⟨by simp, fun q => absurd q (by decide), fun _ => ⟨fun q => absurd q (by decide), fun _ => ⟨fun q => absurd q (by decide), fun _ => ⟨fun q => absurd q (by decide), fun _ => ⟨fun q => absurd q (by decide), fun _ => ⟨fun _ => ⟨by simp, ydQ (by omega) (by omega) h⟩, fun q => absurd rfl q⟩⟩⟩⟩⟩⟩
theorem ygd (h1 : 1 ≤ n) (h2 : n ≤ 12) (h : R (compL n)) : yaX 3 [(n : Int)] R := by
  have hg : gi [(n : Int)] (Int.toNat 0) = n := rfl
  unfold yaX
  rw [hg]
  refine ⟨by simp, fun q => absurd q (by decide), fun _ => ⟨fun q => absurd q (by decide), fun _ => ⟨fun q => absurd q (by decide), fun _ => ⟨fun q => absurd q (by decide), fun _ => ⟨fun q => absurd q (by decide), fun _ => ⟨fun q => absurd q (by decide), fun _ => ⟨fun q => absurd q (by decide), fun _ => ⟨fun q => absurd q (by decide), fun _ => ?_⟩⟩⟩⟩⟩⟩⟩⟩
  refine ⟨fun m v3 v => ∃ k : Nat, v = k ∧ k + m = n ∧ v3 = ((List.range k).flatMap fun (v : Nat) => (cntL (v + 1) (n - v - 1)).map fun b => ((v : Int), b)) ∧ v3.length ≤ k * 12, ⟨n, 0, rfl, by omega, rfl, by simp⟩, ?_⟩
  rintro m v3 v ⟨k, rfl, hk, rfl, hl⟩
  refine ⟨fun hlt => ⟨⟨by omega, by omega⟩, ?_⟩, fun hge => ?_⟩
  · refine ⟨fun m2 v5 v6 => ∃ j : Nat, v6 = ((k + 1 + j : Nat) : Int) ∧ k + 1 + j + m2 = n ∧ v5 = ((List.range k).flatMap fun (v : Nat) => (cntL (v + 1) (n - v - 1)).map fun b => ((v : Int), b)) ++ (cntL (k + 1) j).map fun b => ((k : Int), b), ⟨n - k - 1, 0, by simp, by omega, by simp [cntL]⟩, ?_⟩
    rintro m2 v5 v6 ⟨j, rfl, hj, rfl⟩
    refine ⟨fun hlt2 => ⟨by rw [List.length_append, List.length_map, yaZ]; omega, ⟨by omega, by omega⟩, m2 - 1, by omega, j + 1, by omega, by omega, ?_⟩, fun hge2 => ⟨m - 1, by omega, k + 1, by omega, by omega, ?_, ?_⟩⟩
    · rw [ycv, List.map_append, List.append_assoc]; rfl
    · have : j = n - k - 1 := by omega
      subst this
      rw [List.range_succ, List.flatMap_append]; simp
    · rw [List.length_append, List.length_map, yaZ]; omega
  · have : k = n := by omega
    subst this
    exact h
end
def atV (a j : Nat) : Int := if j = 0 then 0 else ((a + j - 1 : Nat) : Int)
def segL (a j : Nat) : List Int := [0] ++ cntL a j
theorem segL_end (a : Nat) : ∀ j, ∃ pre, segL a j = pre ++ [atV a j]
  | 0 => ⟨[], rfl⟩
  | j + 1 => ⟨[0] ++ cntL a j, by simp [segL, ycv, atV]⟩
theorem yfv (a j : Nat) (x : Int) : wayL (segL a j ++ [x]) = wayL (segL a j) ++ [(atV a j, x)] := by
  obtain ⟨pre, h⟩ := segL_end a j
  rw [h, yem]
theorem segL_snoc (a j : Nat) : segL a (j + 1) = segL a j ++ [((a + j : Nat) : Int)] := by simp [segL, ycv]
def nxt (l : Nat → Nat) : Nat → Nat
  | 0 => 2
  | k + 1 => nxt l k + (l k - 1)
def thL (l : Nat → Nat) : Nat → List (Int × Int)
  | 0 => []
  | k + 1 => thL l k ++ wayL (segL (nxt l k) (l k - 1) ++ [1])
theorem nxt_le {l : Nat → Nat} (h : ∀ k, l k ≤ 20) : ∀ k, nxt l k ≤ 2 + 20 * k
  | 0 => Nat.le_refl _
  | k + 1 => by have := nxt_le h k; have := h k; simp only [nxt]; omega
theorem thL_len {l : Nat → Nat} (h : ∀ k, l k ≤ 20) : ∀ k, (thL l k).length ≤ 25 * k
  | 0 => Nat.le_refl _
  | k + 1 => by
    have := thL_len h k; have := h k
    have h2 := yfS (segL (nxt l k) (l k - 1) ++ [1])
    simp only [segL, List.length_append, List.length_singleton, yaZ] at h2
    simp only [thL, segL, List.length_append] at h2 ⊢; omega
section
variable {s : Int} {l : Nat → Nat} {R : List (Int × Int) → Prop}
theorem gi3 {l : Nat → Nat} {k : Nat} (h : k < 3) : gi [((l 0 : Nat) : Int), ((l 1 : Nat) : Int), ((l 2 : Nat) : Int)] k = l k := by
  rcases (show k = 0 ∨ k = 1 ∨ k = 2 by omega) with rfl | rfl | rfl <;> rfl
theorem p_fam_theta (h1 : ∀ k, 1 ≤ l k) (h2 : ∀ k, l k ≤ 20) (h : R (thL l 3)) : ybD s [] [((l 0 : Nat) : Int), ((l 1 : Nat) : Int), ((l 2 : Nat) : Int)] R := by
  refine ⟨fun m next v s3 => ∃ k : Nat, v = k ∧ k + m = 3 ∧ next = nxt l k ∧ s3 = thL l k, ⟨3, 0, rfl, rfl, rfl, rfl⟩, ?_⟩
  rintro m next v s3 ⟨k, rfl, hk, rfl, rfl⟩
  have hlen : [((l 0 : Nat) : Int), ((l 1 : Nat) : Int), ((l 2 : Nat) : Int)].length = 3 := rfl
  rw [hlen]
  have a1 := h1 k; have a2 := h2 k; have a3 := nxt_le h2 k; have a4 := thL_len h2 k
  refine ⟨fun hlt => ?_, fun hge => ?_⟩
  · rw [Int.toNat_natCast, gi3 (by omega)]
    have e : ((l k : Nat) : Int) - 1 = ((l k - 1 : Nat) : Int) := by omega
    rw [e]
    refine ⟨⟨by omega, by omega⟩, ⟨by omega, by omega⟩, ybv (by omega) (by omega) ⟨by rw [yaZ]; simp; omega, by rw [List.length_append, yaZ]; simp; omega, ?_⟩⟩
    refine ydv (by rw [List.length_append, List.length_append, yaZ]; simp; omega) ⟨⟨by omega, by omega⟩, ⟨by omega, by omega⟩, m - 1, by omega, k + 1, by omega, by omega, ?_, ?_⟩
    · simp only [nxt]; omega
    · rfl
  · have : k = 3 := by omega
    subst this
    exact h
theorem p_theta_ends (h1 : ∀ k, 1 ≤ l k) (h2 : ∀ k, l k ≤ 20) (h : R (thL l 3)) : ycy [((l 0 : Nat) : Int), ((l 1 : Nat) : Int), ((l 2 : Nat) : Int)] R := by
  refine ⟨fun m out next v => ∃ k : Nat, v = k ∧ k + m = 3 ∧ next = nxt l k ∧ out = thL l k, ⟨3, 0, rfl, rfl, rfl, rfl⟩, ?_⟩
  rintro m out next v ⟨k, rfl, hk, rfl, rfl⟩
  have a1 := h1 k; have a2 := h2 k; have a3 := nxt_le h2 k; have a4 := thL_len h2 k
  refine ⟨fun hlt => ?_, fun hge => ?_⟩
  · refine ⟨fun m3 out2 next2 at2 q => ∃ j : Nat, q = ((j + 1 : Nat) : Int) ∧ j + 1 + m3 = l k ∧ out2 = thL l k ++ wayL (segL (nxt l k) j) ∧ next2 = ((nxt l k + j : Nat) : Int) ∧ at2 = atV (nxt l k) j, ⟨l k - 1, 0, rfl, by omega, by simp [segL, cntL, wayL], rfl, rfl⟩, ?_⟩
    rintro m3 out2 next2 at2 q ⟨j, rfl, hj, rfl, rfl, rfl⟩
    have hw := yfS (segL (nxt l k) j)
    have hsl : (segL (nxt l k) j).length = j + 1 := by simp [segL, yaZ]
    refine ⟨⟨by omega, by show (k : Int) < 3; omega⟩, ?_⟩
    rw [Int.toNat_natCast, gi3 (by omega)]
    refine ⟨fun hlt2 => ⟨by rw [List.length_append]; omega, ⟨by omega, by omega⟩, ⟨by omega, by omega⟩, m3 - 1, by omega, j + 1, by omega, by omega, ?_, by omega, ?_⟩, fun hge2 => ⟨by rw [List.length_append]; omega, ⟨by omega, by omega⟩, m - 1, by omega, k + 1, by omega, by omega, ?_, ?_⟩⟩
    · rw [segL_snoc, yfv, List.append_assoc]
    · simp [atV]
    · have : j = l k - 1 := by omega
      subst this
      simp only [nxt]
    · have : j = l k - 1 := by omega
      subst this
      simp only [thL]
      rw [yfv, List.append_assoc]
  · have : k = 3 := by omega
    subst this
    exact h
end
def yds (m n i j : Nat) : List (Int × Int) := (if j + 1 < n then [(((i * n + j : Nat) : Int), ((i * n + j + 1 : Nat) : Int))] else []) ++ (if i + 1 < m then [(((i * n + j : Nat) : Int), ((i * n + n + j : Nat) : Int))] else [])
def gridL (m n : Nat) : List (Int × Int) := (List.range m).flatMap fun i => (List.range n).flatMap fun j => yds m n i j
theorem yfg (m n i j : Nat) : (yds m n i j).length ≤ 2 := by unfold yds; split <;> split <;> simp
theorem yeS {α : Type} (f : Nat → List α) (c : Nat) (h : ∀ i, (f i).length ≤ c) : ∀ k, ((List.range k).flatMap f).length ≤ k * c
  | 0 => by simp
  | k + 1 => by
              have := yeS f c h k
              have h2 := h k
              have e : ((List.range (k + 1)).flatMap f).length = ((List.range k).flatMap f).length + (f k).length := by rw [List.range_succ, List.flatMap_append, List.length_append]; simp
              rw [e, Nat.add_mul]; omega
theorem p_r11_gridEnds {m n : Nat} (h1 : m ≤ 12) (h2 : n ≤ 12) {R : List (Int × Int) → Prop} (h : R (gridL m n)) : ycI m n R := by
  refine ⟨fun q out i => ∃ k : Nat, i = k ∧ k + q = m ∧ out = (List.range k).flatMap fun i => (List.range n).flatMap fun j => yds m n i j, ⟨m, 0, rfl, by omega, rfl⟩, ?_⟩
  rintro q out i ⟨k, rfl, hk, rfl⟩
  have hL := yeS (fun i => (List.range n).flatMap fun j => yds m n i j) 24 (fun i => Nat.le_trans (yeS (yds m n i) 2 (yfg m n i) n) (by omega)) k
  refine ⟨fun hlt => ?_, fun hge => ?_⟩
  · refine ⟨fun q2 out2 j => ∃ k2 : Nat, j = k2 ∧ k2 + q2 = n ∧ out2 = ((List.range k).flatMap fun i => (List.range n).flatMap fun j => yds m n i j) ++ (List.range k2).flatMap fun j => yds m n k j, ⟨n, 0, rfl, by omega, by simp⟩, ?_⟩
    rintro q2 out2 j ⟨k2, rfl, hk2, rfl⟩
    have hL2 := yeS (fun j => yds m n k j) 2 (yfg m n k) k2
    have hkn : k * n ≤ 12 * 12 := Nat.mul_le_mul (by omega) h2
    have hc : ((k : Int) * (n : Int)) = ((k * n : Nat) : Int) := by simp
    refine ⟨fun hlt2 => ⟨⟨by omega, by omega⟩, ?_⟩, fun hge2 => ⟨⟨by omega, by omega⟩, q - 1, by omega, k + 1, by omega, by omega, ?_⟩⟩
    · rw [hc]
      refine ⟨fun out3 => out3 = (((List.range k).flatMap fun i => (List.range n).flatMap fun j => yds m n i j) ++ (List.range k2).flatMap fun j => yds m n k j) ++ (if k2 + 1 < n then [(((k * n + k2 : Nat) : Int), ((k * n + k2 + 1 : Nat) : Int))] else []), ?_, ?_⟩
      · rintro out3 rfl
        refine ⟨⟨by omega, by omega⟩, fun hi => ⟨⟨by omega, by omega⟩, ⟨by omega, by omega⟩, ⟨by omega, by omega⟩, ⟨by omega, by omega⟩, ?_, q2 - 1, by omega, k2 + 1, by omega, by omega, ?_⟩, fun hi => ⟨q2 - 1, by omega, k2 + 1, by omega, by omega, ?_⟩⟩
        · rw [List.length_append, List.length_append]; split <;> simp only [List.length_singleton, List.length_nil] <;> omega
        · rw [List.range_succ, List.flatMap_append]
          have : k + 1 < m := by omega
          simp [yds, this]
        · rw [List.range_succ, List.flatMap_append]
          have : ¬ k + 1 < m := by omega
          simp [yds, this]
      · refine ⟨fun hj => ⟨⟨by omega, by omega⟩, ⟨by omega, by omega⟩, ⟨by omega, by omega⟩, by rw [List.length_append]; omega, ?_⟩, fun hj => ?_⟩
        · rw [if_pos (by omega)]; rfl
        · rw [if_neg (by omega)]; simp
    · have : k2 = n := by omega
      subst this
      rw [List.range_succ, List.flatMap_append]; simp
  · have : k = m := by omega
    subst this
    exact h
def gcell (m n v : Nat) : List (Int × Int) := yds m n (v / n) (v % n)
theorem gridL_flat (m : Nat) {n : Nat} (hn : 1 ≤ n) : (List.range (m * n)).flatMap (gcell m n) = gridL m n := by
  have key : ∀ k, (List.range (k * n)).flatMap (gcell m n) = (List.range k).flatMap fun i => (List.range n).flatMap fun j => yds m n i j := by
    intro k
    induction k with
    | zero => simp
    | succ k ih =>
      rw [Nat.add_mul, Nat.one_mul, List.range_add, List.flatMap_append, ih, List.range_succ, List.flatMap_append, List.flatMap_map]
      congr 1
      simp only [List.flatMap_cons, List.flatMap_nil, List.append_nil]
      have : ∀ L : List Nat, (∀ j ∈ L, j < n) → L.flatMap (fun a => gcell m n (k * n + a)) = L.flatMap fun j => yds m n k j := by
        intro L hL
        induction L with
        | nil => rfl
        | cons a L ih2 =>
          have ha := hL a (by simp)
          have e1 : (k * n + a) / n = k := by rw [Nat.mul_comm, Nat.mul_add_div (by omega), Nat.div_eq_of_lt ha, Nat.add_zero]
          have e2 : (k * n + a) % n = a := by rw [Nat.mul_comm, Nat.mul_add_mod, Nat.mod_eq_of_lt ha]
          simp only [List.flatMap_cons]
          rw [ih2 fun j hj => hL j (by simp [hj])]
          simp only [gcell, e1, e2]
      exact this _ fun j hj => List.mem_range.1 hj
  exact key m
theorem p_fam_grid {s : Int} {m n : Nat} (h1 : m ≤ 12) (hn : 1 ≤ n) (h2 : n ≤ 12) {R : List (Int × Int) → Prop} (h : R (gridL m n)) : ybq s [] [(m : Int), (n : Int)] R := by
  have hg : gi [(m : Int), (n : Int)] (Int.toNat 0) = m := rfl
  have hg1 : gi [(m : Int), (n : Int)] (Int.toNat 1) = n := rfl
  unfold ybq
  rw [hg, hg1]
  have hmn : m * n ≤ 12 * 12 := Nat.mul_le_mul h1 h2
  have hc : ((m : Int) * (n : Int)) = ((m * n : Nat) : Int) := by simp
  rw [hc]
  refine ⟨by simp, by simp, ⟨by omega, by omega⟩, fun q v s3 => ∃ k : Nat, v = k ∧ k + q = m * n ∧ s3 = (List.range k).flatMap (gcell m n), ⟨m * n, 0, rfl, by omega, rfl⟩, ?_⟩
  rintro q v s3 ⟨k, rfl, hk, rfl⟩
  refine ⟨fun hlt => ?_, fun hge => ?_⟩
  · have hL := yeS (gcell m n) 2 (fun i => yfg m n _ _) k
    have hkv : k = (k / n) * n + k % n := by rw [Nat.mul_comm]; exact (Nat.div_add_mod k n).symm
    have hmod : k % n < n := Nat.mod_lt k (by omega)
    have hd : k / n < m := Nat.div_lt_of_lt_mul (by rw [Nat.mul_comm]; omega)
    have c1 : ((k : Int) + 1).tmod n = 0 ↔ ¬ (k % n + 1 < n) := by
      have e : ((k : Int) + 1).tmod n = (((k + 1) % n : Nat) : Int) := by
        rw [Int.tmod_eq_emod_of_nonneg (by omega), Int.natCast_emod]; rfl
      rw [e]
      have e2 : (k + 1) % n = if k % n + 1 < n then k % n + 1 else 0 := by
        rw [Nat.add_mod]
        by_cases q : n = 1
        · subst q; simp [Nat.mod_one]
        · rw [Nat.mod_eq_of_lt (show 1 < n by omega)]
          split
          · rename_i q2; exact Nat.mod_eq_of_lt q2
          · have : k % n + 1 = n := by omega
            rw [this, Nat.mod_self]
      rw [e2]
      by_cases q2 : k % n + 1 < n
      · rw [if_pos q2]; exact ⟨fun z => by omega, fun z => absurd q2 z⟩
      · rw [if_neg q2]; exact ⟨fun _ => q2, fun _ => rfl⟩
    have c2 : (k : Int) + n < ((m * n : Nat) : Int) ↔ k / n + 1 < m := by
      constructor
      · intro q
        have q : k + n < m * n := by omega
        have := Nat.div_lt_of_lt_mul (show k + n < n * m by rw [Nat.mul_comm]; exact q)
        rw [Nat.add_div_right _ (by omega)] at this
        exact this
      · intro q
        have : (k / n + 1 + 1) * n ≤ m * n := Nat.mul_le_mul_right n q
        rw [Nat.add_mul, Nat.add_mul] at this
        omega
    have hcell : gcell m n k = (if k % n + 1 < n then [((k : Int), (k : Int) + 1)] else []) ++ (if k / n + 1 < m then [((k : Int), (k : Int) + n)] else []) := by
      unfold gcell yds
      have e1 : k / n * n + n + k % n = k + n := by omega
      rw [← hkv, e1]
      rfl
    refine ⟨⟨by omega, by omega⟩, by omega, fun s4 => s4 = (List.range k).flatMap (gcell m n) ++ (if k % n + 1 < n then [((k : Int), (k : Int) + 1)] else []), ?_, ?_⟩
    · rintro s4 rfl
      refine ⟨⟨by omega, by omega⟩, fun q2 => ybK ?_ ⟨q - 1, by omega, k + 1, by omega, by omega, ?_⟩, fun q2 => ⟨q - 1, by omega, k + 1, by omega, by omega, ?_⟩⟩
      · rw [List.length_append]; split <;> simp only [List.length_singleton, List.length_nil] <;> omega
      · rw [List.range_succ, List.flatMap_append]
        simp only [List.flatMap_cons, List.flatMap_nil, List.append_nil]
        rw [hcell, if_pos (c2.1 q2), List.append_assoc]; rfl
      · rw [List.range_succ, List.flatMap_append]
        simp only [List.flatMap_cons, List.flatMap_nil, List.append_nil]
        rw [hcell, if_neg (fun z => q2 (c2.2 z))]; simp
    · refine ⟨fun q2 => ?_, fun q2 => ybK (by rw [List.length_singleton]; omega) ?_⟩
      · rw [if_neg (c1.1 q2)]; simp
      · rw [if_pos (Classical.byContradiction fun z => q2 (c1.2 z))]; rfl
  · have : k = m * n := by omega
    subst this
    rw [gridL_flat m hn] 
    exact h
end Go.Proofs.Ytdbpajnjhgocoaa

/- The facts of a graph that is made of ends: in normal form, its size, its genus, its degrees. -/
namespace Go.Proofs.Ytdbpajnjhgocoaa
open Go Go.RowKit Go.Shelf Go.Proofs.Try
set_option linter.unusedVariables false
set_option linter.unusedSimpArgs false
def sF : List E3 → List E3
  | [] => []
  | x :: t => List.replicate x.2.2.toNat (x.1, x.2.1, 1) ++ sF t
theorem yf9 : ∀ (a b : List E3), sF (a ++ b) = sF a ++ sF b
  | [], b => rfl
  | x :: t, b => by rw [List.cons_append, sF, sF, yf9 t b, List.append_assoc]
theorem sF_take {es : List E3} {k : Nat} (hk : k < es.length) : sF (es.take (k + 1)) = sF (es.take k) ++ List.replicate (ge es k).2.2.toNat ((ge es k).1, (ge es k).2.1, 1) := by
  rw [List.take_add_one, List.getElem?_eq_getElem hk, ← yfj hk, yf9]
  simp [sF]
theorem sF_pre {es : List E3} {k : Nat} (hk : k < es.length) {j : Nat} (hj : j ≤ (ge es k).2.2.toNat) : sF (es.take k) ++ List.replicate j ((ge es k).1, (ge es k).2.1, 1) <+: sF es := by
  have h1 : es = es.take (k + 1) ++ es.drop (k + 1) := (List.take_append_drop _ _).symm
  have h2 : sF es = sF (es.take k) ++ List.replicate (ge es k).2.2.toNat ((ge es k).1, (ge es k).2.1, 1) ++ sF (es.drop (k + 1)) := by
    conv => lhs; rw [h1]
    rw [yf9, sF_take hk]
  obtain ⟨i, hi⟩ : ∃ i, (ge es k).2.2.toNat = j + i := ⟨(ge es k).2.2.toNat - j, by omega⟩
  rw [h2, hi, ← List.replicate_append_replicate]
  exact ⟨List.replicate i ((ge es k).1, (ge es k).2.1, 1) ++ sF (es.drop (k + 1)), by simp only [List.append_assoc]⟩
theorem sF_ok {n : Nat} : ∀ {es : List E3}, EOk n es → EOk n (sF es)
  | [], _ => fun x hx => by simp [sF] at hx
  | y :: t, h => fun x hx => by
    rw [sF, List.mem_append] at hx
    rcases hx with q | q
    · have := h y (by simp)
      have e := (List.mem_replicate.1 q).2
      subst e
      simp only
      omega
    · exact sF_ok (fun z hz => h z (by simp [hz])) x q
theorem W_rep (a b : Int) (l : List E3) (v u : Nat) : ∀ k : Nat, W (List.replicate k (a, b, 1) ++ l) v u = (k : Int) * w1 (a, b, 1) v u + W l v u
  | 0 => by simp
  | k + 1 => by
    rw [List.replicate_succ, List.cons_append, yfA, W_rep a b l v u k, Int.natCast_add, Int.add_mul]
    omega
theorem W_sF {n : Nat} (v u : Nat) : ∀ {es : List E3}, EOk n es → W (sF es) v u = W es v u
  | [], _ => rfl
  | x :: t, h => by
    have hx := h x (by simp)
    rw [sF, W_rep, yfA, W_sF v u (fun z hz => h z (by simp [hz]))]
    have : ((x.2.2.toNat : Nat) : Int) * w1 (x.1, x.2.1, 1) v u = w1 x v u := by
      unfold w1
      simp only
      split
      · omega
      · omega
    omega
theorem sF_len {n : Nat} : ∀ {es : List E3}, EOk n es → ((sF es).length : Int) = (es.map (·.2.2)).sum
  | [], _ => rfl
  | x :: t, h => by
    have hx := h x (by simp)
    have := sF_len (es := t) fun z hz => h z (by simp [hz])
    rw [sF, List.length_append, List.length_replicate, List.map_cons, List.sum_cons, ← this]
    omega
theorem sF_few {n : Nat} : ∀ {es : List E3}, EOk n es → (sF es).length ≤ 50 * es.length
  | [], _ => Nat.le_refl _
  | x :: t, h => by
    have hx := h x (by simp)
    have := sF_few (es := t) fun z hz => h z (by simp [hz])
    rw [sF, List.length_append, List.length_replicate, List.length_cons]
    omega
def gmap (y : Int × Int × Int) : E3 := (y.2.1, y.2.2, 1)
theorem yfq {n : Nat} {es : List E3} (hE : EOk n es) (hl : es.length ≤ 1000) : ybF (n : Int) es (fun l => l.map gmap <+: sF es) (fun l => l.map gmap = sF es) := by
  unfold ybF
  refine ⟨fun m pre e2 v => Cnt es.length (fun k => pre.map gmap = sF (es.take k) ∧ 0 ≤ e2 ∧ e2 ≤ 50 * k) m v, Cnt.start ⟨rfl, by omega, by omega⟩, ?_⟩
  rintro m pre e2 _ ⟨k, rfl, rfl, hk, hpre, he0, he1⟩
  simp only [Int.toNat_natCast]
  refine ⟨fun hlt => ⟨by omega, ?_⟩, fun hge => ?_⟩
  · have hkl : k < es.length := by omega
    have hx := hE _ (List.mem_of_getElem? (yev hkl))
    refine ⟨fun m pre e3 v => Cnt (ge es k).2.2.toNat (fun j => pre.map gmap = sF (es.take k) ++ List.replicate j ((ge es k).1, (ge es k).2.1, 1) ∧ 0 ≤ e3 ∧ e3 ≤ 50 * k + j) m v, Cnt.start ⟨by simpa using hpre, he0, by omega⟩, ?_⟩
    rintro m3 pre3 e3 _ ⟨j, rfl, rfl, hj, hp3, h30, h31⟩
    have hstep : ∀ e : Int, (pre3 ++ [(e, (ge es k).1, (ge es k).2.1)]).map gmap = sF (es.take k) ++ List.replicate (j + 1) ((ge es k).1, (ge es k).2.1, 1) := fun e => by
      rw [List.map_append, hp3, List.replicate_succ', List.append_assoc]; rfl
    refine ⟨fun h1 => ⟨?_, ⟨i64 (by omega), Cnt.next (by omega) (by omega) ⟨hstep e3, by omega, by omega⟩⟩, trivial⟩, fun h1 => Cnt.next (by omega) (by omega) ⟨?_, by omega, by omega⟩⟩
    · show (pre3 ++ [(e3, (ge es k).1, (ge es k).2.1)]).map gmap <+: sF es
      rw [hstep]; exact sF_pre hkl (by omega)
    · have e : j = (ge es k).2.2.toNat := by omega
      rw [sF_take hkl, hp3, e]
  · have e : k = es.length := by omega
    rw [e, List.take_length] at hpre
    exact hpre
def castF (F : List Nat) : List Int := F.map fun v : Nat => (v : Int)
theorem gi_castF {F : List Nat} {v : Nat} (hv : v < F.length) : gi (castF F) v = (gn F v : Int) := by
  unfold castF
  rw [ybz (by simpa using hv), ye8 hv]; simp
theorem yfn {F : List Nat} (hF : ycK F) {v : Nat} (hv : v < 12) {R : Int → Prop} (h : R (root F v)) : ybf (castF F) (v : Int) R := by
  unfold ybf
  refine ⟨fun m x => ∃ u : Nat, x = u ∧ m = u ∧ u < 12 ∧ root F u = root F v, ⟨v, v, rfl, rfl, hv, rfl⟩, ?_⟩
  rintro m _ ⟨u, rfl, hm, hu, hr⟩
  have hg : gi (castF F) u = (gn F u : Int) := gi_castF (by rw [hF.1]; exact hu)
  have hle := hF.2 u hu
  simp only [Int.toNat_natCast, hg]
  refine ⟨by omega, fun e => ?_, fun e => ⟨gn F u, by omega, gn F u, rfl, rfl, by omega, ?_⟩⟩
  · rw [yct (F := F) (v := u) (by omega)] at hr
    rw [hr]; exact h
  · rw [← yeu hF hu (by omega)]; exact hr
theorem ygf {F : List Nat} (hF : ycK F) {a b : Nat} (ha : a < 12) (hb : b < 12) (hne : root F a ≠ root F b) : ∀ k, k ≤ 12 → ybY (yc3 F a b) k + (if max (root F a) (root F b) < k then 1 else 0) = ybY F k
  | 0, _ => by simp [ybY]
  | k + 1, hk => by
    have ih := ygf hF ha hb hne k (by omega)
    have hj := yeF hF ha hb k (by omega)
    have ra := yge hF ha
    have rb := yge hF hb
    rw [ybY, ybY]
    have hM : root F (max (root F a) (root F b)) = max (root F a) (root F b) := by
      rcases Nat.le_total (root F a) (root F b) with q | q
      · rw [Nat.max_eq_right q]; exact rb
      · rw [Nat.max_eq_left q]; exact ra
    have hm : root F (min (root F a) (root F b)) = min (root F a) (root F b) := by
      rcases Nat.le_total (root F a) (root F b) with q | q
      · rw [Nat.min_eq_left q]; exact ra
      · rw [Nat.min_eq_right q]; exact rb
    by_cases e1 : k = max (root F a) (root F b)
    · have h1 : root F k = k := by rw [e1]; exact hM
      rw [if_pos (h1.trans e1)] at hj
      rw [if_neg (by omega : ¬ root (yc3 F a b) k = k), if_pos h1, if_pos (by omega)]
      rw [if_neg (by omega)] at ih
      omega
    · have h2 : root (yc3 F a b) k = k ↔ root F k = k := by
        rw [hj]
        split
        · rename_i e2
          constructor
          · intro e3; rw [← e3] at e2; rw [hm] at e2; omega
          · intro e3; omega
        · exact Iff.rfl
      by_cases e3 : root F k = k
      · rw [if_pos (h2.2 e3), if_pos e3]
        by_cases e4 : max (root F a) (root F b) < k
        · rw [if_pos e4] at ih; rw [if_pos (by omega)]; omega
        · rw [if_neg e4] at ih; rw [if_neg (by omega)]; omega
      · rw [if_neg (fun q => e3 (h2.1 q)), if_neg e3]
        by_cases e4 : max (root F a) (root F b) < k
        · rw [if_pos e4] at ih; rw [if_pos (by omega)]; omega
        · rw [if_neg e4] at ih; rw [if_neg (by omega)]; omega
theorem ygj {F : List Nat} (hF : ycK F) {a b : Nat} (ha : a < 12) (hb : b < 12) (he : root F a = root F b) : ∀ k, k ≤ 12 → ybY (yc3 F a b) k = ybY F k
  | 0, _ => rfl
  | k + 1, hk => by
    have ih := ygj hF ha hb he k (by omega)
    have hj := yeF hF ha hb k (by omega)
    rw [ybY, ybY, ih, hj, he]
    simp only [Nat.max_self, Nat.min_self]
    congr 2
    split
    · rename_i e; rw [e]
    · rfl
theorem yfC : ∀ k, k ≤ 12 → ybY ydp k = k
  | 0, _ => rfl
  | k + 1, hk => by
    rw [ybY, yfC k (by omega), if_pos]
    exact yct (by rw [ye8 (by simpa [ydp] using (by omega : k < 12))]; simp [ydp])
theorem joinedF_snoc (l : List E3) (x : E3) : ya1 (l ++ [x]) = yc3 (ya1 l) x.1.toNat x.2.1.toNat := by
  unfold ya1; rw [List.foldl_append]; rfl
theorem castF_join {F : List Nat} {a b : Nat} : (castF F).set (mxF (root F a) (root F b)).toNat (mnF (root F a) (root F b)) = castF (yc3 F a b) := by
  unfold castF yc3
  rw [List.map_set, mxF_eq, mnF_eq]
  congr 1
  · omega
  · omega
theorem p_graph_Genus {n : Nat} {es : List E3} {R : Int → Int → Prop} (hl : es.length ≤ 1000) (hg : ycO n es = 0) (hc : ∀ q, q < n → Conn n es q) (h : R ((es.map (·.2.2)).sum + 1 - n) 0) : ycu n es R := by
  obtain ⟨hE, hn1, hn12⟩ := ygo hg
  unfold ycu
  refine p_graph_Check (by omega) ⟨fun _ => ?_, fun q => absurd hg q⟩
  refine ⟨fun m v f => Cnt 12 (fun k => f.length = 12 ∧ ∀ i, i < k → gi f i = (i : Int)) m v, Cnt.start ⟨by simp, fun i hi => absurd hi (by omega)⟩, ?_⟩
  rintro m _ f ⟨k, rfl, rfl, hk, hfl, hf⟩
  simp only [Int.toNat_natCast]
  refine ⟨fun hlt => ⟨by omega, Cnt.next (by omega) (by omega) ⟨by simpa using hfl, fun i hi => ?_⟩⟩, fun hge => ?_⟩
  · rw [yic (by omega)]
    split
    · omega
    · exact hf i (by omega)
  have e12 : k = 12 := by omega
  subst e12
  have hf0 : f = castF ydp := gi_ext (by rw [hfl]; rfl) fun i hi => by
    rw [hf i (by omega), gi_castF (by show i < (List.range 12).length; simpa using (by omega : i < 12)), ye8 (by simpa [ydp] using (by omega : i < 12))]
    simp [ydp]
  show ∃ Pr Rr : List (Int × Int × Int) → Prop, _
  refine ⟨_, _, yfq hE hl, fun pre f2 genus => pre.map gmap <+: sF es ∧ f2 = castF (ya1 (pre.map gmap)) ∧ genus + n - (ybY (ya1 (pre.map gmap)) n : Int) = pre.length ∧ 0 ≤ genus ∧ genus ≤ pre.length, ⟨List.nil_prefix, hf0, ?_, by omega, by simp⟩, ?_, ?_⟩
  · show (0 : Int) + n - (ybY ydp n : Int) = 0
    rw [yfC n hn12]; omega
  · rintro pre e a b f2 genus ⟨hp, rfl, hcount, h0, h1⟩ hPr
    have hPr : (pre ++ [(e, a, b)]).map gmap <+: sF es := hPr
    have hE2 := sF_ok hE
    have hmem : (a, b, 1) ∈ sF es := hPr.subset (by simp [gmap])
    have hx := hE2 _ hmem
    simp only at hx
    obtain ⟨a, rfl⟩ : ∃ k : Nat, a = (k : Int) := ⟨a.toNat, by omega⟩
    obtain ⟨b, rfl⟩ : ∃ k : Nat, b = (k : Int) := ⟨b.toNat, by omega⟩
    have hF : ycK (ya1 (pre.map gmap)) := ydF _ fun x hx => by
      have := hE2 x (hp.subset hx)
      omega
    have hplen : pre.length ≤ 50 * es.length := by
      have h2 := hp.length_le
      have h3 := sF_few hE
      rw [List.length_map] at h2
      omega
    have hsn : (pre ++ [(e, (a : Int), (b : Int))]).map gmap = pre.map gmap ++ [((a : Int), (b : Int), 1)] := by rw [List.map_append]; rfl
    have hjs : ya1 ((pre ++ [(e, (a : Int), (b : Int))]).map gmap) = yc3 (ya1 (pre.map gmap)) a b := by rw [hsn, joinedF_snoc]; simp
    have ra := ydD hF a (by omega)
    have rb := ydD hF b (by omega)
    have hrl : ∀ v, v < n → root (ya1 (pre.map gmap)) v < n := fun v hv => by have := (ydD hF v (by omega)).1; omega
    have hra := hrl a (by omega)
    have hrb := hrl b (by omega)
    refine yfn hF (by omega) (yfn hF (by omega) ?_)
    have hmx : 0 ≤ mxF (root (ya1 (pre.map gmap)) a : Int) (root (ya1 (pre.map gmap)) b) ∧ mxF (root (ya1 (pre.map gmap)) a : Int) (root (ya1 (pre.map gmap)) b) < 12 := by rw [mxF_eq]; omega
    refine ⟨fun g2 => g2 = genus + if root (ya1 (pre.map gmap)) a = root (ya1 (pre.map gmap)) b then 1 else 0, fun g2 hg2 => ⟨hmx, hPr, by rw [hjs]; exact castF_join, ?_, ?_, ?_⟩, fun q => ⟨i64 (by omega), by rw [if_pos (by omega)]⟩, fun q => by rw [if_neg (by omega)]; omega⟩
    · rw [hjs, hg2, List.length_append, List.length_singleton]
      by_cases q : root (ya1 (pre.map gmap)) a = root (ya1 (pre.map gmap)) b
      · rw [if_pos q, ygj hF (by omega) (by omega) q n hn12]; omega
      · have := ygf hF (by omega) (by omega) q n hn12
        rw [if_pos (by omega)] at this
        rw [if_neg q]; omega
    · rw [hg2]; split <;> omega
    · rw [hg2, List.length_append, List.length_singleton]; split <;> omega
  · rintro ys f2 genus ⟨hp, rfl, hcount, h0, h1⟩ hR
    have hR : ys.map gmap = sF es := hR
    have hE2 := sF_ok hE
    have hc2 : yhE n (sF es) = true := (yhl hE2 hn1 hn12 (q := 0) (by omega)).2 fun S h0 h1 => by
      obtain ⟨v, u, a, b, c, d, e⟩ := hc 0 (by omega) S h0 h1
      exact ⟨v, u, a, b, c, d, by rw [W_sF v u hE]; exact e⟩
    unfold yhE at hc2
    rw [beq_iff_eq, Int.toNat_natCast] at hc2
    rw [hR, hc2] at hcount
    have hlen := sF_len hE
    rw [← hR, List.length_map] at hlen
    have e : genus = (es.map (·.2.2)).sum + 1 - n := by omega
    rw [e]; exact h
def yhT (d : Nat) (l : List (Int × Int)) : Prop := ∀ e ∈ l, (0 ≤ e.1 ∧ e.1 < d) ∧ 0 ≤ e.2 ∧ e.2 < d
def made (d : Nat) (l : List (Int × Int)) : List E3 := yed d (tabE d l)
theorem gchk_zero {n : Int} : ∀ (es : List E3) (a b : Int), (∀ x ∈ es, (0 ≤ x.1 ∧ x.1 < n) ∧ (0 ≤ x.2.1 ∧ x.2.1 < n) ∧ 1 ≤ x.2.2 ∧ x.2.2 ≤ 50 ∧ x.1 ≤ x.2.1) → es.Pairwise ltE → (∀ x ∈ es, ydP a b x.1 x.2.1 < 0) → gchk n a b es = 0
  | [], _, _, _, _, _ => rfl
  | x :: t, a, b, h, hp, h0 => by
    have hx := h x (by simp)
    rw [gchk, if_pos ⟨hx.1, hx.2.1, hx.2.2.1, hx.2.2.2.1⟩, if_pos ⟨hx.2.2.2.2, h0 x (by simp)⟩]
    rw [List.pairwise_cons] at hp
    exact gchk_zero t _ _ (fun y hy => h y (by simp [hy])) hp.2 fun y hy => ydO.2 (by have := hp.1 y hy; unfold ltE at this; exact this)
theorem yhR {d : Nat} (h1 : 1 ≤ d) (hd : d ≤ 12) {l : List (Int × Int)} (hm : ∀ a b, cntE l a b ≤ 50) : ycO d (made d l) = 0 := by
  unfold ycO
  rw [if_pos (by omega)]
  refine gchk_zero _ _ _ (fun x hx => ?_) yes fun x hx => ?_
  · obtain ⟨a, b, h2, h3, h4, rfl⟩ := yen.1 hx
    have := hm a b
    simp only
    omega
  · obtain ⟨a, b, h2, h3, h4, rfl⟩ := yen.1 hx
    exact ydO.2 (.inl (by simp only; omega))
theorem ye7 (T : List (List Int)) (k : Nat) (hT : ∀ j, 0 ≤ gi (gx T k) j) : ∀ n, (((List.range n).filterMap (yfP T k)).map (·.2.2)).sum = sm n fun j => gi (gx T k) (k + j)
  | 0 => rfl
  | n + 1 => by
    rw [List.range_succ, List.filterMap_append, List.map_append, List.sum_append, ye7 T k hT n, sm]
    congr 1
    have := hT (k + n)
    by_cases q : 0 < gi (gx T k) (k + n)
    · simp [yfP, q]
    · simp [yfP, q]; omega
theorem sum_joinE {d : Nat} (l : List (Int × Int)) : ((made d l).map (·.2.2)).sum = sm d fun a => sm (d - a) fun j => cntE l (a : Int) ((a + j : Nat) : Int) := by
  have key : ∀ k, k ≤ d → (((List.range k).flatMap (rowJ d (tabE d l))).map (·.2.2)).sum = sm k fun a => sm (d - a) fun j => cntE l (a : Int) ((a + j : Nat) : Int) := by
    intro k hk
    induction k with
    | zero => rfl
    | succ k ih =>
      rw [List.range_succ, List.flatMap_append, List.map_append, List.sum_append, ih (by omega), sm]
      congr 1
      simp only [List.flatMap_cons, List.flatMap_nil, List.append_nil]
      unfold rowJ
      rw [ye7 _ _ (fun j => ?_)]
      · exact yaR fun j hj => by rw [ydY (by omega), yeh (by omega)]
      · rw [ydY (by omega)]
        by_cases q : j < d
        · rw [yeh q]; exact ygz _ _ _
        · unfold gi; rw [List.getD_eq_getElem?_getD, List.getElem?_eq_none (by rw [yeL]; omega)]; exact Int.le_refl 0
  exact key d (Nat.le_refl d)
theorem mn_nat {d : Nat} {e : Int × Int} (h : (0 ≤ e.1 ∧ e.1 < d) ∧ 0 ≤ e.2 ∧ e.2 < d) : ∃ a b : Nat, mnF e.1 e.2 = a ∧ mxF e.1 e.2 = b ∧ a ≤ b ∧ b < d := by
  refine ⟨(mnF e.1 e.2).toNat, (mxF e.1 e.2).toNat, ?_, ?_, ?_, ?_⟩ <;> simp only [mnF, mxF] <;> (try split) <;> (try split) <;> omega
theorem snoc_ind {α : Type} {P : List α → Prop} (h0 : P []) (h : ∀ l x, P l → P (l ++ [x])) (l : List α) : P l := by
  have : ∀ k, k ≤ l.length → P (l.take k) := by
    intro k
    induction k with
    | zero => intro _; exact h0
    | succ k ih =>
      intro hk
      rw [List.take_add_one, List.getElem?_eq_getElem (by omega)]
      exact h _ _ (ih (by omega))
  have := this l.length (Nat.le_refl _)
  rwa [List.take_length] at this
theorem sum_made {d : Nat} (l : List (Int × Int)) : yhT d l → ((made d l).map (·.2.2)).sum = l.length := by
  rw [sum_joinE]
  refine snoc_ind (P := fun l => yhT d l → (sm d fun a => sm (d - a) fun j => cntE l (a : Int) ((a + j : Nat) : Int)) = l.length) (fun _ => ?_) (fun l x ih hl => ?_) l
  · simp only [cntE, List.countP_nil, Int.natCast_zero, List.length_nil]
    rw [yaR (g := fun _ => 0) fun i _ => ycP _, ycP]
  · have ih := ih fun e he => hl e (by simp [he])
    obtain ⟨a, b, ha, hb, hab, hbd⟩ := mn_nat (hl x (by simp))
    have e1 : ∀ i, (sm (d - i) fun j => cntE (l ++ [x]) (i : Int) ((i + j : Nat) : Int)) = (sm (d - i) fun j => cntE l (i : Int) ((i + j : Nat) : Int)) + if i = a then 1 else 0 := by
      intro i
      rw [← (show (sm (d - i) fun j => if a = i ∧ b = i + j then (1 : Int) else 0) = if i = a then 1 else 0 from ?_), ← ydB]
      · refine yaR fun j _ => ?_
        rw [ydq, ha, hb]
        congr 1
        by_cases q : a = i ∧ b = i + j
        · rw [if_pos q, if_pos (by omega)]
        · rw [if_neg q, if_neg (by omega)]
      · by_cases q : i = a
        · subst q
          rw [if_pos rfl]
          refine Eq.trans (yaR fun j _ => ?_) (ygl (1 : Int) (show b - i < d - i by omega))
          by_cases q2 : j = b - i
          · rw [if_pos q2, if_pos (by omega)]
          · rw [if_neg q2, if_neg (by omega)]
        · rw [if_neg q]
          exact Eq.trans (yaR fun j _ => by rw [if_neg (by omega)]) (ycP (d - i))
    rw [yaR fun i _ => e1 i, ydB, ih, ygl (1 : Int) (show a < d by omega), List.length_append, List.length_singleton]
    omega
def Joins (l : List (Int × Int)) (v u : Nat) : Prop := ((v : Int), (u : Int)) ∈ l ∨ ((u : Int), (v : Int)) ∈ l
theorem W_made {d : Nat} {l : List (Int × Int)} (h1 : 1 ≤ d) (hd : d ≤ 12) (hm : ∀ a b, cntE l a b ≤ 50) {v u : Nat} (hv : v < d) (hu : u < d) (hne : v ≠ u) : W (made d l) v u = cntE l (mnF v u) (mxF v u) := by
  have hg := yhR h1 hd hm
  rw [← yhm v u hne _ (-1) (-1) (yhq hg)]
  obtain ⟨a, b, ha, hb, hab, hbd⟩ := mn_nat (d := d) (e := ((v : Int), (u : Int))) ⟨⟨by omega, by simp only; omega⟩, by omega, by simp only; omega⟩
  simp only at ha hb
  rw [ha, hb]
  cases hf : (made d l).find? fun x => decide (x.1 = (a : Int) ∧ x.2.1 = (b : Int)) with
  | none =>
    have h0 := ygz l a b
    rcases Classical.em (0 < cntE l a b) with q | q
    · have := List.find?_eq_none.1 hf _ (yen.2 ⟨a, b, hab, hbd, q, rfl⟩)
      simp at this
    · simp; omega
  | some x =>
    have hx := List.mem_of_find?_eq_some hf
    have hp := List.find?_some hf
    simp only [decide_eq_true_eq] at hp
    obtain ⟨a', b', _, _, _, rfl⟩ := yen.1 hx
    simp only at hp
    simp [hp.1, hp.2]
theorem cntE_pos {l : List (Int × Int)} {v u : Nat} (h : Joins l v u) : 0 < cntE l (mnF v u) (mxF v u) := by
  unfold cntE
  have : 0 < l.countP (isE (mnF v u) (mxF v u)) := by
    rw [List.countP_pos_iff]
    rcases h with h | h
    · exact ⟨_, h, by simp [isE]⟩
    · refine ⟨_, h, ?_⟩
      unfold isE mnF mxF
      simp only [decide_eq_true_eq]
      constructor <;> split <;> split <;> omega
  omega
theorem conn_made {d : Nat} {l : List (Int × Int)} (h1 : 1 ≤ d) (hd : d ≤ 12) (hm : ∀ a b, cntE l a b ≤ 50) (r : Nat → Nat) (hr : ∀ v, v < d → v ≠ 0 → ∃ u, u < d ∧ r u < r v ∧ Joins l v u) : ∀ q, q < d → Conn d (made d l) q := by
  have hg := yhR h1 hd hm
  have key : Conn d (made d l) 0 := by
    rintro S h0 ⟨v, hv, hS⟩
    have : ∀ k, ∀ v, v < d → S v = true → r v ≤ k → ∃ v u, v < d ∧ u < d ∧ S v = true ∧ S u = false ∧ 0 < W (made d l) v u := by
      intro k
      induction k with
      | zero =>
        intro v hv hS hk
        obtain ⟨u, _, h3, _⟩ := hr v hv (by rintro rfl; rw [h0] at hS; cases hS)
        omega
      | succ k ih =>
        intro v hv hS hk
        obtain ⟨u, h2, h3, h4⟩ := hr v hv (by rintro rfl; rw [h0] at hS; cases hS)
        cases hu : S u with
        | true => exact ih u h2 hu (by omega)
        | false => exact ⟨v, u, hv, h2, hS, hu, by rw [W_made h1 hd hm hv h2 (by rintro rfl; omega)]; exact cntE_pos h4⟩
    exact this (r v) v hv hS (Nat.le_refl _)
  obtain ⟨hE, _, _⟩ := ygo hg
  have hc : yhE d (made d l) = true := (yhl hE h1 hd (q := 0) (by omega)).2 key
  exact fun q hq => (yhl hE h1 hd hq).1 hc
end Go.Proofs.Ytdbpajnjhgocoaa

/- The kinds, their sizes and their graphs: program and reference. -/
namespace Go.Proofs.Ytdbpajnjhgocoaa
open Go Go.RowKit Go.Shelf Go.Proofs.Try
set_option linter.unusedVariables false
set_option linter.unusedSimpArgs false
def nszF (kind : Int) : Nat := if kind = 8 then 3 else if 6 ≤ kind then 2 else 1
def vrtK (kind : Int) (l : List Int) : Int :=
  if kind = 4 then (if 50 < gi l 0 then 13 else 2)
  else if kind = 2 ∨ kind = 5 then gi l 0 + 1
  else if kind = 6 then gi l 0 + gi l 1
  else if kind = 7 then gi l 0 * gi l 1
  else if kind = 8 then gi l 0 + gi l 1 + gi l 2 - 1
  else gi l 0
def errK (kind : Int) (l : List Int) : Int :=
  if kind < 0 ∨ 8 < kind then 1 else if l.length ≠ nszF kind then 8 else if ∃ x ∈ l, x < 1 then 2 else if 12 < vrtK kind l then 5 else 0
theorem len1 {l : List Int} (h : l.length = 1) : l = [gi l 0] := by
  match l, h with
  | [x], _ => rfl
theorem len2 {l : List Int} (h : l.length = 2) : l = [gi l 0, gi l 1] := by
  match l, h with
  | [x, y], _ => rfl
theorem len3 {l : List Int} (h : l.length = 3) : l = [gi l 0, gi l 1, gi l 2] := by
  match l, h with
  | [x, y, z], _ => rfl
theorem yeP {kind : Int} {R : Int → Int → Prop} (h : R (if kind < 0 ∨ 8 < kind then 0 else (nszF kind : Int)) (if kind < 0 ∨ 8 < kind then 1 else 0)) : ycj kind R := by
  refine ⟨¬ (kind < 0 ∨ 8 < kind), fun q => ?_, fun q => ?_, fun q => ⟨fun q2 => ?_, fun q2 => by omega⟩⟩
  · rw [if_neg q, if_neg q] at h
    refine ⟨⟨by omega, by omega⟩, ?_⟩
    unfold nszF at h
    refine ⟨fun e => ?_, fun e => ?_, fun e => ?_, fun e => ?_, fun e => ?_, fun e => ?_, fun e => ?_, fun e => ?_, fun e => ?_⟩ <;> (subst e; exact h)
  · rw [if_pos (.inl q), if_pos (.inl q)] at h; exact h
  · rw [if_pos (.inr q2), if_pos (.inr q2)] at h; exact h
theorem ygi {kind : Int} {R : Int → Int → Prop} (h : R (if kind < 0 ∨ 8 < kind then 0 else (nszF kind : Int)) (if kind < 0 ∨ 8 < kind then 1 else 0)) : yc5 kind R := by
  refine ⟨¬ (kind < 0 ∨ 8 < kind), fun q => ?_, fun q => ?_, fun q => ⟨fun q2 => ?_, fun q2 => by omega⟩⟩
  · rw [if_neg q, if_neg q] at h
    unfold nszF at h
    refine ⟨fun e => ?_, fun e => ⟨fun e2 => ?_, fun e2 => ?_⟩⟩
    · subst e; exact h
    · rw [if_neg e, if_pos e2] at h; exact h
    · rw [if_neg e, if_neg e2] at h; exact h
  · rw [if_pos (.inl q), if_pos (.inl q)] at h; exact h
  · rw [if_pos (.inr q2), if_pos (.inr q2)] at h; exact h
theorem ydJ {l : List Int} {k : Nat} (h : k < l.length) : gi l k ∈ l := by rw [ybz h]; exact List.getElem_mem h
theorem yeR {kind : Int} {l : List Int} {R : Int → Prop} (hk : ¬ (kind < 0 ∨ 8 < kind)) (hl : l.length = nszF kind) (h1 : ∀ x ∈ l, 1 ≤ x) (h : ∀ v, (12 < v ↔ 12 < vrtK kind l) → (v ≤ 12 → v = vrtK kind l) → R v) : yce kind l R := by
  by_cases k4 : kind = 4
  · subst k4
    refine ⟨fun _ => ⟨⟨by omega, by show (0 : Int) < (l.length : Nat); rw [hl]; decide⟩, fun q => ?_, fun q => ?_⟩, fun q => absurd rfl q⟩
    · have q : 50 < gi l 0 := q
      exact h 13 (by unfold vrtK; rw [if_pos rfl, if_pos q]) (fun q2 => by omega)
    · have q : ¬ 50 < gi l 0 := q
      exact h 2 (by unfold vrtK; rw [if_pos rfl, if_neg q]) (fun _ => by unfold vrtK; rw [if_pos rfl, if_neg q])
  have hn1 : 1 ≤ nszF kind ∧ nszF kind ≤ 3 := by unfold nszF; split <;> (try split) <;> omega
  have hlen : 1 ≤ l.length ∧ l.length ≤ 3 := by omega
  refine ⟨fun q => absurd q k4, fun _ => ⟨fun m v => Cnt l.length (fun k => ∀ i, i < k → gi l i ≤ 13) m v, Cnt.start fun i hi => absurd hi (by omega), ?_⟩⟩
  rintro m _ ⟨k, rfl, rfl, hk2, hI⟩
  simp only [Int.toNat_natCast]
  refine ⟨fun hlt => ⟨⟨by omega, by omega⟩, fun q => ?_, fun q => Cnt.next (by omega) (by omega) fun i hi => ?_⟩, fun hge => ?_⟩
  · -- a size above 13
    have hbig : 12 < vrtK kind l := by
      unfold vrtK
      rw [if_neg k4]
      have hx := h1 _ (ydJ (l := l) (k := 0) (by omega))
      have hkk : k < l.length := by omega
      by_cases c2 : kind = 2 ∨ kind = 5
      · rw [if_pos c2]
        have : nszF kind = 1 := by unfold nszF; rw [if_neg (by omega), if_neg (by omega)]
        have : k = 0 := by omega
        subst this; omega
      · rw [if_neg c2]
        by_cases c6 : kind = 6
        · rw [if_pos c6]
          have : nszF kind = 2 := by subst c6; rfl
          have hy := h1 _ (ydJ (l := l) (k := 1) (by omega))
          rcases (show k = 0 ∨ k = 1 by omega) with rfl | rfl <;> omega
        · rw [if_neg c6]
          by_cases c7 : kind = 7
          · rw [if_pos c7]
            have : nszF kind = 2 := by subst c7; rfl
            have hy := h1 _ (ydJ (l := l) (k := 1) (by omega))
            rcases (show k = 0 ∨ k = 1 by omega) with rfl | rfl
            · have := Int.mul_le_mul_of_nonneg_left hy (show 0 ≤ gi l 0 by omega)
              rw [Int.mul_one] at this
              omega
            · have := Int.mul_le_mul_of_nonneg_right hx (show 0 ≤ gi l 1 by omega)
              rw [Int.one_mul] at this
              omega
          · rw [if_neg c7]
            by_cases c8 : kind = 8
            · rw [if_pos c8]
              have : nszF kind = 3 := by subst c8; rfl
              have hy := h1 _ (ydJ (l := l) (k := 1) (by omega))
              have hz := h1 _ (ydJ (l := l) (k := 2) (by omega))
              rcases (show k = 0 ∨ k = 1 ∨ k = 2 by omega) with rfl | rfl | rfl <;> omega
            · rw [if_neg c8]
              have : nszF kind = 1 := by unfold nszF; rw [if_neg c8, if_neg (by omega)]
              have : k = 0 := by omega
              subst this; omega
    exact h 13 ⟨fun _ => hbig, fun _ => by omega⟩ (fun q2 => by omega)
  · rcases (show i < k ∨ i = k by omega) with q2 | rfl
    · exact hI i q2
    · omega
  · have hx := h1 _ (ydJ (l := l) (k := 0) (by omega))
    have hx2 := hI 0 (by omega)
    have t0 : (0 : Int).toNat = 0 := rfl
    have t1 : (1 : Int).toNat = 1 := rfl
    have t2 : (2 : Int).toNat = 2 := rfl
    simp only [t0, t1, t2]
    refine ⟨fun v2 => v2 = decide (kind = 2 ∨ kind = 5), fun v2 hv2 => ⟨fun q => ?_, fun q => ?_⟩, fun q => by simp [q], fun q => by simp [q]⟩
    · have c2 : kind = 2 ∨ kind = 5 := by rw [hv2] at q; exact of_decide_eq_true q
      refine ⟨⟨by omega, by omega⟩, ⟨by omega, by omega⟩, h _ ?_ ?_⟩ <;> (unfold vrtK; rw [if_neg k4, if_pos c2]; try simp)
    · have c2 : ¬ (kind = 2 ∨ kind = 5) := by rw [hv2] at q; simpa using q
      have hv : vrtK kind l = if kind = 6 then gi l 0 + gi l 1 else if kind = 7 then gi l 0 * gi l 1 else if kind = 8 then gi l 0 + gi l 1 + gi l 2 - 1 else gi l 0 := by
        unfold vrtK; rw [if_neg k4, if_neg c2]
      rw [hv] at h
      refine ⟨fun c6 => ?_, fun c6 => ⟨fun c7 => ?_, fun c7 => ⟨fun c8 => ?_, fun c8 => ?_⟩⟩⟩
      · have : nszF kind = 2 := by subst c6; rfl
        have hy := h1 _ (ydJ (l := l) (k := 1) (by omega))
        have hy2 := hI 1 (by omega)
        rw [if_pos c6] at h
        exact ⟨⟨by omega, by omega⟩, ⟨by omega, by omega⟩, ⟨by omega, by omega⟩, h _ Iff.rfl fun _ => rfl⟩
      · have : nszF kind = 2 := by subst c7; rfl
        have hy := h1 _ (ydJ (l := l) (k := 1) (by omega))
        have hy2 := hI 1 (by omega)
        rw [if_neg c6, if_pos c7] at h
        have m1 := Int.mul_le_mul hx2 hy2 (by omega) (by omega)
        have m2 := Int.mul_nonneg (show 0 ≤ gi l 0 by omega) (show 0 ≤ gi l 1 by omega)
        exact ⟨⟨by omega, by omega⟩, ⟨by omega, by omega⟩, ⟨by omega, by omega⟩, h _ Iff.rfl fun _ => rfl⟩
      · have : nszF kind = 3 := by subst c8; rfl
        have hy := h1 _ (ydJ (l := l) (k := 1) (by omega))
        have hy2 := hI 1 (by omega)
        have hz := h1 _ (ydJ (l := l) (k := 2) (by omega))
        have hz2 := hI 2 (by omega)
        rw [if_neg c6, if_neg c7, if_pos c8] at h
        exact ⟨⟨by omega, by omega⟩, ⟨by omega, by omega⟩, ⟨by omega, by omega⟩, ⟨by omega, by omega⟩, ⟨by omega, by omega⟩, ⟨by omega, by omega⟩, h _ Iff.rfl fun _ => rfl⟩
      · rw [if_neg c6, if_neg c7, if_neg c8] at h
        exact ⟨⟨by omega, by omega⟩, h _ Iff.rfl fun _ => rfl⟩
theorem yho {kind : Int} {l : List Int} {R : Int → Prop} (h : R (errK kind l)) : ydu kind l R := by
  refine ygi ⟨fun q => ?_, fun q => ?_⟩
  · have hk : ¬ (kind < 0 ∨ 8 < kind) := fun q2 => by rw [if_pos q2] at q; cases q
    rw [if_neg hk]
    refine ⟨fun hl => ?_, fun hl => ?_⟩
    · have hl : l.length = nszF kind := by omega
      have hn1 : 1 ≤ nszF kind ∧ nszF kind ≤ 3 := by unfold nszF; split <;> (try split) <;> omega
      refine ⟨fun m v => Cnt (nszF kind) (fun k => ∀ i, i < k → 1 ≤ gi l i) m v, Cnt.start fun i hi => absurd hi (by omega), ?_⟩
      rintro m _ ⟨k, rfl, rfl, hk2, hI⟩
      simp only [Int.toNat_natCast]
      refine ⟨fun hlt => ⟨⟨by omega, by omega⟩, fun q => ?_, fun q => Cnt.next (by omega) (by omega) fun i hi => ?_⟩, fun hge => ?_⟩
      · have : errK kind l = 2 := by
          unfold errK; rw [if_neg hk, if_neg (by omega), if_pos ⟨_, ydJ (l := l) (k := k) (by omega), q⟩]
        rw [this] at h; exact h
      · rcases (show i < k ∨ i = k by omega) with q2 | rfl
        · exact hI i q2
        · omega
      · have h1 : ∀ x ∈ l, 1 ≤ x := fun x hx => by
          obtain ⟨i, hi, rfl⟩ := List.mem_iff_getElem.1 hx
          have := hI i (by omega)
          rwa [ybz hi] at this
        have he : errK kind l = if 12 < vrtK kind l then 5 else 0 := by
          unfold errK; rw [if_neg hk, if_neg (by omega), if_neg]
          rintro ⟨x, hx, q⟩
          have := h1 x hx; omega
        rw [he] at h
        refine yeR hk hl h1 fun v hv _ => ⟨fun q => ?_, fun q => ?_⟩
        · rw [if_pos (hv.1 q)] at h; exact h
        · rw [if_neg fun q2 => q (hv.2 q2)] at h; exact h
    · have : errK kind l = 8 := by unfold errK; rw [if_neg hk, if_pos (by omega)]
      rw [this] at h; exact h
  · have hk : kind < 0 ∨ 8 < kind := Classical.byContradiction fun q2 => by rw [if_neg q2] at q; exact q rfl
    have : errK kind l = 1 := by unfold errK; rw [if_pos hk]
    rw [this] at h
    rw [if_pos hk]; exact h
theorem errK_zero {kind : Int} {l : List Int} (h : errK kind l = 0) : (0 ≤ kind ∧ kind ≤ 8) ∧ l.length = nszF kind ∧ (∀ x ∈ l, 1 ≤ x) ∧ vrtK kind l ≤ 12 := by
  unfold errK at h
  split at h
  · cases h
  · split at h
    · cases h
    · split at h
      · cases h
      · split at h
        · cases h
        · rename_i a b c d
          exact ⟨by omega, by omega, fun x hx => Classical.byContradiction fun q => c ⟨x, hx, by omega⟩, by omega⟩
end Go.Proofs.Ytdbpajnjhgocoaa

/- The graphs of the kinds: program and reference make the same ones. -/
namespace Go.Proofs.Ytdbpajnjhgocoaa
open Go Go.RowKit Go.Shelf Go.Proofs.Try
set_option linter.unusedVariables false
set_option linter.unusedSimpArgs false
def szF (l : List Int) (k : Nat) : Nat := (gi l k).toNat
def yfQ (kind : Int) (l : List Int) : List (Int × Int) :=
  if kind = 0 then ycl 0 (szF l 0 - 1)
  else if kind = 1 then ycl 0 (szF l 0 - 1) ++ [((szF l 0 : Int) - 1, 0)]
  else if kind = 2 then ycc 1 (szF l 0)
  else if kind = 3 then compL (szF l 0)
  else if kind = 4 then List.replicate (szF l 0) (0, 1)
  else if kind = 5 then (ycc 1 (szF l 0) ++ ycl 1 (szF l 0 - 1)) ++ [((szF l 0 : Int), 1)]
  else if kind = 6 then ycc (szF l 0) (szF l 1)
  else if kind = 7 then gridL (szF l 0) (szF l 1)
  else thL (fun k => szF l k) 3
structure Right (kind : Int) (l : List Int) : Prop where
  k : 0 ≤ kind ∧ kind ≤ 8
  len : l.length = nszF kind
  one : ∀ i, i < nszF kind → 1 ≤ szF l i ∧ gi l i = szF l i ∧ (kind ≠ 4 → szF l i ≤ 12)
  b50 : kind = 4 → szF l 0 ≤ 50
  vrt : vrtK kind l ≤ 12
theorem ye2 {kind : Int} {l : List Int} (h : errK kind l = 0) : Right kind l := by
  obtain ⟨h1, h2, h3, h4⟩ := errK_zero h
  have hn1 : 1 ≤ nszF kind ∧ nszF kind ≤ 3 := by unfold nszF; split <;> (try split) <;> omega
  have hpos : ∀ i, i < nszF kind → 1 ≤ gi l i := fun i hi => h3 _ (ydJ (by omega))
  refine ⟨h1, h2, fun i hi => ?_, fun q => ?_, h4⟩
  · have hp := hpos i hi
    refine ⟨by unfold szF; omega, by unfold szF; omega, fun k4 => ?_⟩
    have : gi l i ≤ 12 := by
      have h0 := hpos 0 (by omega)
      unfold vrtK at h4
      rw [if_neg k4] at h4
      by_cases c2 : kind = 2 ∨ kind = 5
      · rw [if_pos c2] at h4
        have : nszF kind = 1 := by unfold nszF; rw [if_neg (by omega), if_neg (by omega)]
        have : i = 0 := by omega
        subst this; omega
      rw [if_neg c2] at h4
      by_cases c6 : kind = 6
      · rw [if_pos c6] at h4
        have : nszF kind = 2 := by subst c6; rfl
        have hy := hpos 1 (by omega)
        rcases (show i = 0 ∨ i = 1 by omega) with rfl | rfl <;> omega
      rw [if_neg c6] at h4
      by_cases c7 : kind = 7
      · rw [if_pos c7] at h4
        have : nszF kind = 2 := by subst c7; rfl
        have hy := hpos 1 (by omega)
        rcases (show i = 0 ∨ i = 1 by omega) with rfl | rfl
        · have := Int.mul_le_mul_of_nonneg_left hy (show 0 ≤ gi l 0 by omega)
          rw [Int.mul_one] at this
          omega
        · have := Int.mul_le_mul_of_nonneg_right h0 (show 0 ≤ gi l 1 by omega)
          rw [Int.one_mul] at this
          omega
      rw [if_neg c7] at h4
      by_cases c8 : kind = 8
      · rw [if_pos c8] at h4
        have : nszF kind = 3 := by subst c8; rfl
        have hy := hpos 1 (by omega)
        have hz := hpos 2 (by omega)
        rcases (show i = 0 ∨ i = 1 ∨ i = 2 by omega) with rfl | rfl | rfl <;> omega
      · rw [if_neg c8] at h4
        have : nszF kind = 1 := by unfold nszF; rw [if_neg c8, if_neg (by omega)]
        have : i = 0 := by omega
        subst this; omega
    unfold szF; omega
  · subst q
    unfold vrtK at h4
    rw [if_pos rfl] at h4
    split at h4
    · omega
    · unfold szF; omega
theorem ycA {kind : Int} {l : List Int} (h : Right kind l) {P : Int → List Int → Prop}
    (h0 : ∀ n : Nat, 1 ≤ n → n ≤ 12 → P 0 [(n : Int)]) (h1 : ∀ n : Nat, 1 ≤ n → n ≤ 12 → P 1 [(n : Int)]) (h2 : ∀ n : Nat, 1 ≤ n → n ≤ 11 → P 2 [(n : Int)])
    (h3 : ∀ n : Nat, 1 ≤ n → n ≤ 12 → P 3 [(n : Int)]) (h4 : ∀ n : Nat, 1 ≤ n → n ≤ 50 → P 4 [(n : Int)]) (h5 : ∀ n : Nat, 1 ≤ n → n ≤ 11 → P 5 [(n : Int)])
    (h6 : ∀ m n : Nat, 1 ≤ m → 1 ≤ n → m + n ≤ 12 → P 6 [(m : Int), (n : Int)]) (h7 : ∀ m n : Nat, 1 ≤ m → 1 ≤ n → m * n ≤ 12 → P 7 [(m : Int), (n : Int)])
    (h8 : ∀ a b c : Nat, 1 ≤ a → 1 ≤ b → 1 ≤ c → a + b + c ≤ 13 → P 8 [(a : Int), (b : Int), (c : Int)]) : P kind l := by
  have hk := h.k
  have hl := h.len
  have hv := h.vrt
  have ho := h.one
  rcases (show kind = 0 ∨ kind = 1 ∨ kind = 2 ∨ kind = 3 ∨ kind = 4 ∨ kind = 5 ∨ kind = 6 ∨ kind = 7 ∨ kind = 8 by omega) with rfl | rfl | rfl | rfl | rfl | rfl | rfl | rfl | rfl
  · obtain ⟨a1, a2, a3⟩ := ho 0 (by decide)
    rw [len1 hl, a2]; exact h0 _ a1 (a3 (by decide))
  · obtain ⟨a1, a2, a3⟩ := ho 0 (by decide)
    rw [len1 hl, a2]; exact h1 _ a1 (a3 (by decide))
  · obtain ⟨a1, a2, a3⟩ := ho 0 (by decide)
    have hv : gi l 0 + 1 ≤ 12 := hv
    rw [len1 hl, a2]; exact h2 _ a1 (by omega)
  · obtain ⟨a1, a2, a3⟩ := ho 0 (by decide)
    rw [len1 hl, a2]; exact h3 _ a1 (a3 (by decide))
  · obtain ⟨a1, a2, a3⟩ := ho 0 (by decide)
    rw [len1 hl, a2]; exact h4 _ a1 (h.b50 rfl)
  · obtain ⟨a1, a2, a3⟩ := ho 0 (by decide)
    have hv : gi l 0 + 1 ≤ 12 := hv
    rw [len1 hl, a2]; exact h5 _ a1 (by omega)
  · obtain ⟨a1, a2, a3⟩ := ho 0 (by decide)
    obtain ⟨b1, b2, b3⟩ := ho 1 (by decide)
    have hv : gi l 0 + gi l 1 ≤ 12 := hv
    rw [len2 hl, a2, b2]; exact h6 _ _ a1 b1 (by omega)
  · obtain ⟨a1, a2, a3⟩ := ho 0 (by decide)
    obtain ⟨b1, b2, b3⟩ := ho 1 (by decide)
    have hv : gi l 0 * gi l 1 ≤ 12 := hv
    rw [a2, b2] at hv
    rw [len2 hl, a2, b2]; exact h7 _ _ a1 b1 (by exact_mod_cast hv)
  · obtain ⟨a1, a2, a3⟩ := ho 0 (by decide)
    obtain ⟨b1, b2, b3⟩ := ho 1 (by decide)
    obtain ⟨c1, c2, c3⟩ := ho 2 (by decide)
    have hv : gi l 0 + gi l 1 + gi l 2 - 1 ≤ 12 := hv
    rw [len3 hl, a2, b2, c2]; exact h8 _ _ _ a1 b1 c1 (by omega)
theorem wayL_mem : ∀ {l : List Int} {e : Int × Int}, e ∈ wayL l → e.1 ∈ l ∧ e.2 ∈ l
  | a :: b :: t, e, h => by
    rw [wayL, List.mem_cons] at h
    rcases h with rfl | h
    · simp
    · have := wayL_mem h; simp only [List.mem_cons] at this ⊢; exact ⟨.inr this.1, .inr this.2⟩
theorem wayL_len1 : ∀ (l : List Int), (wayL l).length = l.length - 1
  | [] => rfl
  | [_] => rfl
  | a :: b :: t => by have := wayL_len1 (b :: t); simp only [wayL, List.length_cons] at this ⊢; omega
theorem yf4 {a n : Nat} {e : Int × Int} (h : e ∈ ycl a n) : (a : Int) ≤ e.1 ∧ e.2 = e.1 + 1 ∧ e.2 ≤ ((a + n : Nat) : Int) := by
  simp only [ycl, List.mem_map, List.mem_range] at h
  obtain ⟨i, hi, rfl⟩ := h
  show (a : Int) ≤ ((a + i : Nat) : Int) ∧ ((a + i : Nat) : Int) + 1 = ((a + i : Nat) : Int) + 1 ∧ ((a + i : Nat) : Int) + 1 ≤ ((a + n : Nat) : Int)
  omega
theorem yf0 {a n : Nat} {x : Int} (h : x ∈ cntL a n) : (a : Int) ≤ x ∧ x < ((a + n : Nat) : Int) := by
  simp only [cntL, List.mem_map, List.mem_range] at h
  obtain ⟨i, hi, rfl⟩ := h
  show (a : Int) ≤ ((a + i : Nat) : Int) ∧ ((a + i : Nat) : Int) < ((a + n : Nat) : Int)
  omega
theorem yfy {m n : Nat} {e : Int × Int} (h : e ∈ ycc m n) : 0 ≤ e.1 ∧ e.1 < m ∧ (m : Int) ≤ e.2 ∧ e.2 < ((m + n : Nat) : Int) := by
  simp only [ycc, List.mem_flatMap, List.mem_range, List.mem_map] at h
  obtain ⟨i, hi, b, hb, rfl⟩ := h
  have := yf0 hb
  simp only; omega
theorem compL_mem {n : Nat} {e : Int × Int} (h : e ∈ compL n) : 0 ≤ e.1 ∧ e.1 < e.2 ∧ e.2 < n := by
  simp only [compL, List.mem_flatMap, List.mem_range, List.mem_map] at h
  obtain ⟨i, hi, b, hb, rfl⟩ := h
  have := yf0 hb
  simp only; omega
theorem cellG_mem {m n i j : Nat} (hi : i < m) (hj : j < n) {e : Int × Int} (h : e ∈ yds m n i j) : (0 ≤ e.1 ∧ e.1 < ((m * n : Nat) : Int)) ∧ 0 ≤ e.2 ∧ e.2 < ((m * n : Nat) : Int) := by
  have h1 : (i + 1) * n ≤ m * n := Nat.mul_le_mul_right n hi
  rw [Nat.add_mul] at h1
  unfold yds at h
  rw [List.mem_append] at h
  rcases h with h | h
  · split at h
    · rw [List.mem_singleton] at h; subst h; simp only; omega
    · simp at h
  · split at h
    · rename_i q
      have h2 : (i + 1 + 1) * n ≤ m * n := Nat.mul_le_mul_right n q
      rw [Nat.add_mul, Nat.add_mul] at h2
      rw [List.mem_singleton] at h; subst h; simp only; omega
    · simp at h
theorem gridL_mem {m n : Nat} {e : Int × Int} (h : e ∈ gridL m n) : (0 ≤ e.1 ∧ e.1 < ((m * n : Nat) : Int)) ∧ 0 ≤ e.2 ∧ e.2 < ((m * n : Nat) : Int) := by
  simp only [gridL, List.mem_flatMap, List.mem_range] at h
  obtain ⟨i, hi, j, hj, h⟩ := h
  exact cellG_mem hi hj h
theorem thL_mem {l : Nat → Nat} (h1 : ∀ k, 1 ≤ l k) : ∀ {k : Nat} {e : Int × Int}, e ∈ thL l k → (0 ≤ e.1 ∧ e.1 < (nxt l k : Int)) ∧ 0 ≤ e.2 ∧ e.2 < (nxt l k : Int)
  | k + 1, e, h => by
    have hk := h1 k
    have h2 : ∀ k, 2 ≤ nxt l k := fun k => by induction k with
      | zero => exact Nat.le_refl _
      | succ k ih => simp only [nxt]; omega
    have h2 := h2 k
    rw [thL, List.mem_append] at h
    simp only [nxt]
    rcases h with h | h
    · have := thL_mem h1 h; omega
    · have := wayL_mem h
      simp only [segL, List.mem_append, List.mem_singleton] at this
      have aux : ∀ x : Int, (x = 0 ∨ x ∈ cntL (nxt l k) (l k - 1)) ∨ x = 1 → 0 ≤ x ∧ x < ((nxt l k + (l k - 1) : Nat) : Int) := by
        rintro x ((rfl | h) | rfl)
        · omega
        · have := yf0 h; omega
        · omega
      exact ⟨aux _ this.1, aux _ this.2⟩
theorem thL_len3 (l : Nat → Nat) (h1 : ∀ k, 1 ≤ l k) : (thL l 3).length = l 0 + l 1 + l 2 := by
  have a0 := h1 0
  have a1 := h1 1
  have a2 := h1 2
  simp only [thL, List.length_append, wayL_len1, segL, yaZ, List.length_singleton, List.length_nil, List.length_cons]
  omega
theorem cnt_flat {f : Nat → List (Int × Int)} {p : Int × Int → Bool} {a c : Nat} (h : ∀ i, i ≠ a → (f i).countP p = 0) (h2 : (f a).countP p ≤ c) : ∀ k, ((List.range k).flatMap f).countP p ≤ if a < k then c else 0
  | 0 => by simp
  | k + 1 => by
    have ih := cnt_flat h h2 k
    have e : ((List.range (k + 1)).flatMap f).countP p = ((List.range k).flatMap f).countP p + (f k).countP p := by rw [List.range_succ, List.flatMap_append, List.countP_append]; simp
    rw [e]
    by_cases q : k = a
    · subst q
      rw [if_neg (by omega)] at ih
      rw [if_pos (by omega)]; omega
    · rw [h k q]
      split at ih
      · rw [if_pos (by omega)]; omega
      · rw [if_neg (by omega)]; omega
theorem compL_few {n : Nat} (hn : n ≤ 12) (a b : Int) : cntE (compL n) a b ≤ 50 := by
  unfold cntE compL
  have := cnt_flat (f := fun (v : Nat) => (cntL (v + 1) (n - v - 1)).map fun b => ((v : Int), b)) (p := isE a b) (a := a.toNat) (c := 12) (fun i hi => ?_) ?_ n
  · split at this <;> omega
  · rw [List.countP_eq_zero]
    intro e he
    simp only [List.mem_map] at he
    obtain ⟨x, hx, rfl⟩ := he
    have := yf0 hx
    simp only [isE, mnF, decide_eq_true_eq]
    rintro ⟨q, _⟩
    split at q <;> omega
  · refine Nat.le_trans List.countP_le_length ?_
    rw [List.length_map, yaZ]; omega
theorem ycC {l : List (Int × Int)} (h : l.length ≤ 50) (a b : Int) : cntE l a b ≤ 50 := by have := cntE_le l a b; omega
structure EndsR (d : Nat) (l : List (Int × Int)) : Prop where
  one : 1 ≤ d
  few : d ≤ 12
  ok : yhT d l
  len : l.length ≤ 100
  mult : ∀ a b, cntE l a b ≤ 50
theorem yhf {kind : Int} {l : List Int} (h : Right kind l) : EndsR (vrtK kind l).toNat (yfQ kind l) := by
  refine ycA h (P := fun kind l => EndsR (vrtK kind l).toNat (yfQ kind l)) (fun n a b => ?_) (fun n a b => ?_) (fun n a b => ?_) (fun n a b => ?_) (fun n a b => ?_) (fun n a b => ?_) (fun m n a b c => ?_) (fun m n a b c => ?_) (fun x y z a b c d => ?_)
  · show EndsR n (ycl 0 (n - 1))
    refine ⟨a, b, fun e he => ?_, by simp [ycl]; omega, ycC (by simp [ycl]; omega)⟩
    have := yf4 he; omega
  · show EndsR n (ycl 0 (n - 1) ++ [((n : Int) - 1, 0)])
    refine ⟨a, b, fun e he => ?_, by simp [ycl]; omega, ycC (by simp [ycl]; omega)⟩
    rcases List.mem_append.1 he with he | he
    · have := yf4 he; omega
    · rw [List.mem_singleton] at he; subst he; simp only; omega
  · show EndsR (n + 1) (ycc 1 n)
    refine ⟨by omega, by omega, fun e he => ?_, by rw [yeH, List.length_map, yaZ]; omega, ycC (by rw [yeH, List.length_map, yaZ]; omega)⟩
    have := yfy he; omega
  · show EndsR n (compL n)
    refine ⟨a, b, fun e he => ?_, ?_, compL_few b⟩
    · have := compL_mem he; omega
    · rcases (show n = 1 ∨ n = 2 ∨ n = 3 ∨ n = 4 ∨ n = 5 ∨ n = 6 ∨ n = 7 ∨ n = 8 ∨ n = 9 ∨ n = 10 ∨ n = 11 ∨ n = 12 by omega) with rfl | rfl | rfl | rfl | rfl | rfl | rfl | rfl | rfl | rfl | rfl | rfl <;> decide
  · have e : (vrtK 4 [(n : Int)]).toNat = 2 := by
      unfold vrtK
      rw [if_pos rfl, if_neg (by show ¬ 50 < (n : Int); omega)]; rfl
    rw [e]
    show EndsR 2 (List.replicate n (0, 1))
    refine ⟨by omega, by omega, fun e he => ?_, by simp; omega, ycC (by simp; omega)⟩
    rw [(List.mem_replicate.1 he).2]; simp only; omega
  · show EndsR (n + 1) ((ycc 1 n ++ ycl 1 (n - 1)) ++ [((n : Int), 1)])
    have hlen : ((ycc 1 n ++ ycl 1 (n - 1)) ++ [((n : Int), 1)]).length ≤ 50 := by rw [yeH]; simp [yaZ, ycl]; omega
    refine ⟨by omega, by omega, fun e he => ?_, by omega, ycC hlen⟩
    rcases List.mem_append.1 he with he | he
    · rcases List.mem_append.1 he with he | he
      · have := yfy he; omega
      · have := yf4 he; omega
    · rw [List.mem_singleton] at he; subst he; simp only; omega
  · show EndsR (m + n) (ycc m n)
    have hlen : (ycc m n).length = m * n := by
      unfold ycc
      exact yfW _ n (fun i => by simp [yaZ]) m
    have hmn : m * n ≤ 36 := by
      have h1 : (m : Int) * n ≤ 36 := by
        have h2 := Int.mul_nonneg (show 0 ≤ ((m : Int) - n) * ((m : Int) - n) by
          rcases Int.le_total (m : Int) n with q | q
          · have := Int.mul_nonneg (show 0 ≤ (n : Int) - m by omega) (show 0 ≤ (n : Int) - m by omega)
            rw [← Int.neg_sub (n : Int) m, Int.neg_mul_neg]; exact this
          · exact Int.mul_nonneg (by omega) (by omega)) (show (0 : Int) ≤ 1 by decide)
        have h3 : ((m : Int) + n) * ((m : Int) + n) ≤ 12 * 12 := Int.mul_le_mul (by omega) (by omega) (by omega) (by omega)
        have h4 : ((m : Int) + n) * ((m : Int) + n) = ((m : Int) - n) * ((m : Int) - n) + 4 * ((m : Int) * n) := by
          simp only [Int.add_mul, Int.mul_add, Int.sub_mul, Int.mul_sub]
          rw [Int.mul_comm (n : Int) m]; omega
        omega
      exact_mod_cast h1
    refine ⟨by omega, by omega, fun e he => ?_, by omega, ycC (by omega)⟩
    have := yfy he; omega
  · have hd : (vrtK 7 [(m : Int), (n : Int)]).toNat = m * n := by
      show ((m : Int) * n).toNat = m * n
      rw [← Int.natCast_mul]; exact Int.toNat_natCast _
    rw [hd]
    show EndsR (m * n) (gridL m n)
    have hlen : (gridL m n).length ≤ m * (n * 2) := yeS _ _ (fun i => yeS _ _ (yfg m n i) n) m
    rw [← Nat.mul_assoc] at hlen
    refine ⟨Nat.mul_le_mul a b, c, fun e he => gridL_mem he, by omega, ycC (by omega)⟩
  · show EndsR ((x : Int) + y + z - 1).toNat (thL (fun k => szF [(x : Int), (y : Int), (z : Int)] k) 3)
    generalize hL : (fun k => szF [(x : Int), (y : Int), (z : Int)] k) = L
    have h0 : L 0 = x := by rw [← hL]; rfl
    have h1 : L 1 = y := by rw [← hL]; rfl
    have h2 : L 2 = z := by rw [← hL]; rfl
    have hl' : thL L 3 = thL (fun k => max 1 (L k)) 3 := by
      have e0 : max 1 (L 0) = L 0 := by omega
      have e1 : max 1 (L 1) = L 1 := by omega
      have e2 : max 1 (L 2) = L 2 := by omega
      simp only [thL, nxt, e0, e1, e2]
    rw [hl']
    have hge : ∀ k, 1 ≤ (fun k => max 1 (L k)) k := fun k => Nat.le_max_left _ _
    have hlen := thL_len3 _ hge
    simp only [h0, h1, h2] at hlen
    have hnx : nxt (fun k => max 1 (L k)) 3 = x + y + z - 1 := by simp only [nxt, h0, h1, h2]; omega
    refine ⟨by omega, by omega, fun e he => ?_, by omega, ycC (by omega)⟩
    have := thL_mem hge he
    rw [hnx] at this
    omega
end Go.Proofs.Ytdbpajnjhgocoaa
