/- Texts laid together: PFa_3, TabT, PFc, PFd, PFe, Mk. -/
import Derived.Test.YtdbpajnjhgocoaaK5
/- Pure forms of functions, made by program (pf.py), each with the proof that the code does so. -/
namespace Go.Proofs.Ytdbpajnjhgocoaa
open Go Go.RowKit Go.Shelf Go.Proofs.Try
set_option linter.unusedVariables false
set_option maxRecDepth 100000
set_option maxHeartbeats 8000000
def ycf (kind : Int) (sizes : List Int) (R : Int → Int → Prop) : Prop :=
ybl kind sizes (fun r r2 r3 =>
((r3 = 0 →
ycu r r2 (fun r4 r5 =>
R r4 r5)) ∧
(¬ (r3 = 0) →
R 0 r3)))
theorem yfO {O : Nat → Prop} {w : World} {kind sizes Asizes lsizes csizes} {R : Int → Int → Prop} (h : ycf kind sizes R) (hO : ∀ k, O k → k < w.heap.size) (hA0 : (FP.sl cI Asizes lsizes csizes sizes).P O w) :
    Calls Try.prog 16 #[(ii kind), (.slice Asizes lsizes csizes)] w fun e w' => ∃ r6 r7, e = .returned (.tuple #[(ii r6), (ii r7)]) ∧ Sep w no O w' (rl []) ∧ R r6 r7 := by
  unfold ycf at h; have hS : Sep w no O w (rl [Res.ro (FP.sl cI Asizes lsizes csizes sizes)]) := Sep.startl hO [(FP.sl cI Asizes lsizes csizes sizes)] ⟨hA0, trivial⟩; refine yay (l := [(ii kind), (.slice Asizes lsizes csizes)]) func16 rfl ntmps16 (Nat.le_of_ble_eq_true rfl) (zs (zq (za (ii 0)) (zq (za (ii 0)) (yaa (zs (zq (zm (ii kind)) (zq (zm (.slice Asizes lsizes csizes)) (zn (yap rfl (am2 rfl rfl) yfZ ((ycH h (yaM _) (hS.rdr 0 rfl)).mono ?_)))))))))); rintro _ w2 ⟨r, r2, r3, Ar, lr, cr, rfl, hC, h⟩; replace hS := hS.call1 (hC.widen (ybt (yaB (fP (fI .i64) (fP (fI .i64) (fI .i64))) _ _ _ _ _) ybu) hS.blt) 1 0 rfl; clear hC; refine ⟨_, rfl, ?_⟩; refine zb (zq (zm (.tuple #[(.agg #[(ii r), (.slice Ar lr cr)]), (ii r3)])) (zq (zx (.agg #[(ii r), (.slice Ar lr cr)])) (zq (zx (ii r3)) (zn (yaH yal ?_))))); intro g w3 hN; replace hS : Sep w no O w3 (stl _ 2 (Res.box 31 g [(ii 0), (.slice none 0 0)])) := hS.new 2 rfl hN; clear hN; refine zb (zo (yaj (b := g) (o := 0) (cells := #[(ii r), (.slice Ar lr cr)]) rfl rfl yal rfl rfl (yah (hS.bx 2 rfl) (Nat.le_of_ble_eq_true rfl)) ?_)); intro w4 e1; replace hS := hS.bstn 2 rfl 0 [(ii r), (.slice Ar lr cr)] e1; clear e1; refine zb (zq (za (ii r3)) (yaa (yag (zs (zq (zm (ii r3)) (zq zN (yaa ?_))))))); by_cases hp : r3 = 0
  · replace h := h.1 hp; refine ze hp (yak (zs (zq (yaY (vs := [(ii r), (.slice Ar lr cr)]) rfl underlying31 rfl yal ⟨Row.cell (hS.bx 2 rfl) (i := 0) rfl, Row.cell (hS.bx 2 rfl) (i := 1) rfl, trivial⟩) (zn (yap rfl (am1 rfl) enter_36 ((yf6 h (yaM _) (hS.rdo 1 rfl)).mono ?_)))))); rintro _ w5 ⟨r4, r5, rfl, hC, h⟩; replace hS := hS.pur hC.pure; clear hC; refine ⟨_, rfl, ?_⟩; exact zb (zq (zx (ii r4)) (zq (zx (ii r5)) (zq (za (ii r4)) (zq (za (ii r5)) (yaa (yaW rfl rfl rfl ⟨_, _, rfl, (hS.sel [] (by decide)), h⟩))))))
  · replace h := h.2 hp; exact zf hp (zs (zq (zm (ii r3)) (zq (za (ii 0)) (zq (za (ii r3)) (yaa (yaW rfl rfl rfl ⟨_, _, rfl, (hS.sel [] (by decide)), h⟩))))))
def ygU (g : Int) (g2 : List E3) (R : Int → Prop) : Prop :=
yg1 g g2 (fun r =>
(In64 (r - g) ∧
ygQ g g2 (fun r2 =>
(In64 ((r - g) + r2) ∧
R ((r - g) + r2)))))
theorem pok_r08_Genus {O : Nat → Prop} {w : World} {g g2 Ag lg cg} {R : Int → Prop} (h : ygU g g2 R) (hO : ∀ k, O k → k < w.heap.size) (hA0 : (FP.sl c3 Ag lg cg g2).P O w) :
    Calls Try.prog 37 #[(.agg #[(ii g), (.slice Ag lg cg)])] w fun e w' => ∃ r3, e = .returned (ii r3) ∧ Sep w no O w' (rl []) ∧ R r3 := by
  unfold ygU at h; have hS : Sep w no O w (rl [Res.ro (FP.sl c3 Ag lg cg g2)]) := Sep.startl hO [(FP.sl c3 Ag lg cg g2)] ⟨hA0, trivial⟩; refine yay (l := [(.agg #[(ii g), (.slice Ag lg cg)])]) func37 rfl ntmps37 (Nat.le_of_ble_eq_true rfl) (zs (zn (yec (v := (.agg #[(ii g), (.slice Ag lg cg)])) rfl ?_))); intro g3 w2 hN; replace hS : Sep w no O w2 (stl _ 1 (Res.box 31 g3 [(ii g), (.slice Ag lg cg)])) := hS.new 1 rfl hN; clear hN; refine zb (zq (za (ii 0)) (yaa (yag (ya6 [0, 2, 3, 5, 1, 4, 6, 7, 8] (fun i => match i with | 1 => [2, 3, 5] | 6 => [2, 3, 4] | _ => []) yaS (by kernel_rfl) (by kernel_rfl) ?_)))); replace hS := hS.drew; refine zp (yaY (vs := [(ii g), (.slice Ag lg cg)]) rfl underlying31 rfl yal ⟨Row.cell (hS.bx 1 rfl) (i := 0) rfl, Row.cell (hS.bx 1 rfl) (i := 1) rfl, trivial⟩) (zp (yao rfl underlying31 rfl yai) (zp (zl underlying3 (Row.cell (hS.bx 1 rfl) (i := 0) rfl)) (zp (yaY (vs := [(ii g), (.slice Ag lg cg)]) rfl underlying31 rfl yal ⟨Row.cell (hS.bx 1 rfl) (i := 0) rfl, Row.cell (hS.bx 1 rfl) (i := 1) rfl, trivial⟩) (rp_n rfl rfl rfl rfl (yap rfl (am1 rfl) enter_25 ((yhO h (yaM _) (hS.rdr 0 rfl)).mono ?_)))))); rintro _ w3 ⟨r, rfl, hC, h⟩; replace hS := hS.pur hC.pure; clear hC; refine ⟨_, rfl, ?_⟩; refine ⟨⟨fun _ => (yaY (vs := [(ii g), (.slice Ag lg cg)]) rfl underlying31 rfl yal ⟨Row.cell (hS.bx 1 rfl) (i := 0) rfl, Row.cell (hS.bx 1 rfl) (i := 1) rfl, trivial⟩), ⟨fun _ => (zl underlying3 (Row.cell (hS.bx 1 rfl) (i := 0) rfl)), ⟨fun _ => (yao rfl underlying31 rfl yai), ⟨fun hh => Bool.noConfusion (show false = true from hh), trivial⟩⟩⟩⟩, ?_⟩; obtain ⟨hi, h⟩ := h; refine zp (zS hi) (rp_n rfl rfl rfl rfl (yap rfl (am1 rfl) enter_46 ((pok_r08_Parts h (yaM _) (hS.rdr 0 rfl)).mono ?_))); rintro _ w4 ⟨r2, rfl, hC, h⟩; replace hS := hS.pur hC.pure; clear hC; refine ⟨_, rfl, ?_⟩; refine ⟨⟨fun _ => (zS hi), ⟨fun hh => Bool.noConfusion (show false = true from hh), ⟨fun _ => (zl underlying3 (Row.cell (hS.bx 1 rfl) (i := 0) rfl)), ⟨fun _ => (yao rfl underlying31 rfl yai), ⟨fun hh => Bool.noConfusion (show false = true from hh), trivial⟩⟩⟩⟩⟩, ?_⟩; obtain ⟨hi2, h⟩ := h; exact zp (zA hi2) (zp (za (ii ((r - g) + r2))) (ybk (yas rfl rfl ⟨_, rfl, (hS.sel [] (by decide)), h⟩)))
def ycg (a : List (Int × Int)) (b : List (Int × Int)) (R : Bool → Prop) : Prop :=
((((a.length : Nat) : Int) = ((b.length : Nat) : Int) →
(∃ I2 : Nat → Int → Prop, (∃ m0, I2 m0 0) ∧ ∀ m2 i, I2 m2 i → 
((i < ((a.length : Nat) : Int) →
((0 ≤ i ∧ i < ((a.length : Nat) : Int)) ∧
((0 ≤ i ∧ i < ((b.length : Nat) : Int)) ∧
(([(gx a i.toNat).1, (gx a i.toNat).2] = [(gx b i.toNat).1, (gx b i.toNat).2] →
(In64 (i + 1) ∧
∃ m3, m3 < m2 ∧ I2 m3 (i + 1))) ∧
(¬ ([(gx a i.toNat).1, (gx a i.toNat).2] = [(gx b i.toNat).1, (gx b i.toNat).2]) →
R false))))) ∧
(¬ (i < ((a.length : Nat) : Int)) →
R true)))) ∧
(¬ (((a.length : Nat) : Int) = ((b.length : Nat) : Int)) →
R false))
theorem yd1 {O : Nat → Prop} {w : World} {a b Aa la ca Ab lb cb} {R : Bool → Prop} (h : ycg a b R) (hO : ∀ k, O k → k < w.heap.size) (hA0 : (FP.sl c2 Aa la ca a).P O w) (hA1 : (FP.sl c2 Ab lb cb b).P O w) :
    Calls Try.prog 30 #[(.slice Aa la ca), (.slice Ab lb cb)] w fun e w' => ∃ r, e = .returned (.bool (r)) ∧ Sep w no O w' (rl []) ∧ R r := by
  unfold ycg at h; have hS : Sep w no O w (rl [Res.ro (FP.sl c2 Aa la ca a), Res.ro (FP.sl c2 Ab lb cb b)]) := Sep.startl hO [(FP.sl c2 Aa la ca a), (FP.sl c2 Ab lb cb b)] ⟨hA0, hA1, trivial⟩; refine yay (l := [(.slice Aa la ca), (.slice Ab lb cb)]) func30 rfl ntmps30 (Nat.le_of_ble_eq_true rfl) (zs (zq (za (.bool (false))) (yaa (yag (zs (zq (zm (.slice Aa la ca)) (zq (ybp (n := a.length) rfl underlying57 (ybi (hS.rdr 0 rfl))) (zq (zm (.slice Ab lb cb)) (zq (ybp (n := b.length) rfl underlying57 (ybi (hS.rdr 1 rfl))) (zq zN (yaa ?_))))))))))); by_cases hp : ((a.length : Nat) : Int) = ((b.length : Nat) : Int)
  · replace h := h.1 hp; refine ze hp (yak (yag (zs (zq (za (ii 0)) (yaa (yam ?_)))))); obtain ⟨I2, ⟨m0, h0⟩, hr⟩ := h; refine yaL (fun m E ds w' => ∃ i, I2 m i ∧ ds = [] ∧ E 0 = (Value.slice Aa la ca) ∧ E 1 = (Value.slice Ab lb cb) ∧ E 5 = (ii i) ∧ Sep w no O w' (rl [Res.ro (FP.sl c2 Aa la ca a), Res.ro (FP.sl c2 Ab lb cb b)])) m0 ⟨_, h0, rfl, rfl, rfl, rfl, (hS.sel [0, 1] (by decide))⟩ ?_; clear h0 hS; rintro m2 E ds w2 ⟨i, h, rfl, hE0, hE1, hE5, hS⟩ again; replace h := hr m2 i h; clear hr; refine yag (zs (zq (yae hE5) (zq (yae hE0) (zq (ybp (n := a.length) rfl underlying57 (ybi (hS.rdr 0 rfl))) (zq zL (yaa ?_)))))); by_cases hp2 : i < ((a.length : Nat) : Int)
    · replace h := h.1 hp2; refine zc hp2 (yak (yag (yam (yag (ya6 [0, 1, 2, 3, 4, 5, 6, 7, 8] st0 yaS (by kernel_rfl) (by kernel_rfl) ?_))))); replace hS := hS.drew; refine zp (yae hE0) (zp (yae hE5) ?_); obtain ⟨hx, h⟩ := h; refine zp (zi underlying57 yaA (yaF (hS.rdr 0 rfl) hx)) (zp (yaY (vs := [(ii ((gx a i.toNat).1)), (ii ((gx a i.toNat).2))]) rfl underlying59 rfl yaA (rd_fs (hS.rdr 0 rfl) hx (fun q => ydC q))) ?_); refine zp (yae hE1) (zp (yae hE5) ?_); obtain ⟨hx2, h⟩ := h; refine zp (zi underlying57 yaA (yaF (hS.rdr 1 rfl) hx2)) (zp (yaY (vs := [(ii ((gx b i.toNat).1)), (ii ((gx b i.toNat).2))]) rfl underlying59 rfl yaA (rd_fs (hS.rdr 1 rfl) hx2 (fun q => ydC q))) ?_); refine zp (v_neqA (EqI.array underlying59 Try.eqGuardType59 (by kernel_rfl) (by kernel_rfl)) [(gx a i.toNat).1, (gx a i.toNat).2] [(gx b i.toNat).1, (gx b i.toNat).2] rfl rfl rfl rfl) (ybk ?_); by_cases hp3 : [(gx a i.toNat).1, (gx a i.toNat).2] = [(gx b i.toNat).1, (gx b i.toNat).2]
      · replace h := h.1 hp3; refine ze hp3 (yak (yan (zr (zq (yae hE5) ?_)))); obtain ⟨hi, h⟩ := h; refine zq (zA hi) (zq (za (ii (i + 1))) (yaa ?_)); obtain ⟨mq, hlt, h⟩ := h; exact again mq _ _ _ ⟨_, h, rfl, hE0, hE1, rfl, (hS.sel [0, 1] (by decide))⟩ hlt
      · replace h := h.2 hp3; exact zf hp3 (zs (zq (za (.bool (false))) (yaa (yas rfl rfl ⟨_, rfl, (hS.sel [] (by decide)), h⟩))))
    · replace h := h.2 hp2; exact zd hp2 (yaJ rfl (zs (zq (za (.bool (true))) (yaa (yas rfl rfl ⟨_, rfl, (hS.sel [] (by decide)), h⟩)))))
  · replace h := h.2 hp; exact zf hp (zs (zq (za (.bool (false))) (yaa (yas rfl rfl ⟨_, rfl, (hS.sel [] (by decide)), h⟩))))
def yc5 (kind : Int) (R : Int → Int → Prop) : Prop :=
(∃ J2 : Prop, (J2 → ((kind = 8 →
R 3 0) ∧
(¬ (kind = 8) →
((6 ≤ kind →
R 2 0) ∧
(¬ (6 ≤ kind) →
R 1 0))))) ∧
((kind < 0 →
R 0 1) ∧
(¬ (kind < 0) →
((8 < kind →
R 0 1) ∧
(¬ (8 < kind) →
J2)))))
theorem ye0 {O : Nat → Prop} {w : World} {kind} {R : Int → Int → Prop} (h : yc5 kind R) (hO : ∀ k, O k → k < w.heap.size) :
    Calls Try.prog 12 #[(ii kind)] w fun e w' => ∃ r r2, e = .returned (.tuple #[(ii r), (ii r2)]) ∧ Sep w no O w' (rl []) ∧ R r r2 := by
  unfold yc5 at h; have hS : Sep w no O w (rl []) := Sep.start w hO; refine yay (l := [(ii kind)]) func12 rfl ntmps12 (Nat.le_of_ble_eq_true rfl) (zs (zq (za (ii 0)) (zq (za (ii 0)) (yaa (yag (yag ?_)))))); obtain ⟨J2, hJ, h⟩ := h; refine ycE (fun E ds w' => J2 ∧ ds = [] ∧ E 0 = (ii kind) ∧ Sep w no O w' (rl [])) ?_ ?_
  · clear h hS; rintro E ds w2 ⟨h, rfl, hE0, hS⟩; replace h := hJ h; refine yag (zs (zq (yae hE0) (zq zE (yaa ?_)))); by_cases hp : kind = 8
    · replace h := h.1 hp; exact zc hp (zs (zq (za (ii 3)) (zq (za (ii 0)) (yaa (yaW rfl rfl rfl ⟨_, _, rfl, (hS.sel [] (by decide)), h⟩)))))
    · replace h := h.2 hp; refine zd hp (yak (yag (zs (zq (yae hE0) (zq (v_geq rfl rfl) (yaa ?_)))))); by_cases hp2 : 6 ≤ kind
      · replace h := h.1 hp2; exact zc hp2 (zs (zq (za (ii 2)) (zq (za (ii 0)) (yaa (yaW rfl rfl rfl ⟨_, _, rfl, (hS.sel [] (by decide)), h⟩)))))
      · replace h := h.2 hp2; exact zd hp2 (yak (zs (zq (za (ii 1)) (zq (za (ii 0)) (yaa (yaW rfl rfl rfl ⟨_, _, rfl, (hS.sel [] (by decide)), h⟩))))))
  clear hJ; intro j; refine zr (zq (zm (ii kind)) (zq zL (zq (zm (.bool (decide (kind < 0)))) ?_))); by_cases hp3 : kind < 0
  · replace h := h.1 hp3; exact rl_p (yab rfl (yad rfl (congrArg Value.bool (decide_eq_true hp3))) rfl) rfl (rl_p (yab rfl (yad rfl (congrArg Value.bool (decide_eq_true hp3))) rfl) rfl (zq (yau (v := (.bool (true))) (congrArg Value.bool (decide_eq_true hp3)) rfl) (yaa (yaz rfl (zs (zq (za (ii 0)) (zq (za (ii 1)) (yaa (yaW rfl rfl rfl ⟨_, _, rfl, (hS.sel [] (by decide)), h⟩)))))))))
  · replace h := h.2 hp3; refine rl_q (yac rfl (yad rfl (congrArg Value.bool (decide_eq_false hp3)))) rfl rfl (zm (ii kind)) (rl_q (yac rfl (yad rfl (congrArg Value.bool (decide_eq_false hp3)))) rfl rfl zG (zq (yav (v := (.bool (decide (8 < kind)))) (congrArg Value.bool (decide_eq_false hp3)) rfl) (yaa ?_))); by_cases hp4 : 8 < kind
    · replace h := h.1 hp4; exact zc hp4 (zs (zq (za (ii 0)) (zq (za (ii 1)) (yaa (yaW rfl rfl rfl ⟨_, _, rfl, (hS.sel [] (by decide)), h⟩)))))
    · replace h := h.2 hp4; exact zd hp4 (yak (j _ _ _ ⟨h, rfl, rfl, (hS.sel [] (by decide))⟩))
def yce (d : Int) (i : List Int) (R : Int → Prop) : Prop :=
((d = 4 →
((0 ≤ (0 : Int) ∧ (0 : Int) < ((i.length : Nat) : Int)) ∧
((50 < (gi i (0 : Int).toNat) →
R 13) ∧
(¬ (50 < (gi i (0 : Int).toNat)) →
R 2)))) ∧
(¬ (d = 4) →
(∃ I2 : Nat → Int → Prop, (∃ m0, I2 m0 0) ∧ ∀ m2 v, I2 m2 v → 
((v < ((i.length : Nat) : Int) →
((0 ≤ v ∧ v < ((i.length : Nat) : Int)) ∧
((13 < (gi i v.toNat) →
R 13) ∧
(¬ (13 < (gi i v.toNat)) →
(In64 (v + 1) ∧
∃ m3, m3 < m2 ∧ I2 m3 (v + 1)))))) ∧
(¬ (v < ((i.length : Nat) : Int)) →
(∃ J2 : Bool → Prop, (∀ (v2 : Bool), J2 v2 → ((v2 = true →
((0 ≤ (0 : Int) ∧ (0 : Int) < ((i.length : Nat) : Int)) ∧
(In64 ((gi i (0 : Int).toNat) + 1) ∧
R ((gi i (0 : Int).toNat) + 1)))) ∧
(¬ (v2 = true) →
((d = 6 →
((0 ≤ (0 : Int) ∧ (0 : Int) < ((i.length : Nat) : Int)) ∧
((0 ≤ (1 : Int) ∧ (1 : Int) < ((i.length : Nat) : Int)) ∧
(In64 ((gi i (0 : Int).toNat) + (gi i (1 : Int).toNat)) ∧
R ((gi i (0 : Int).toNat) + (gi i (1 : Int).toNat)))))) ∧
(¬ (d = 6) →
((d = 7 →
((0 ≤ (0 : Int) ∧ (0 : Int) < ((i.length : Nat) : Int)) ∧
((0 ≤ (1 : Int) ∧ (1 : Int) < ((i.length : Nat) : Int)) ∧
(In64 ((gi i (0 : Int).toNat) * (gi i (1 : Int).toNat)) ∧
R ((gi i (0 : Int).toNat) * (gi i (1 : Int).toNat)))))) ∧
(¬ (d = 7) →
((d = 8 →
((0 ≤ (0 : Int) ∧ (0 : Int) < ((i.length : Nat) : Int)) ∧
((0 ≤ (1 : Int) ∧ (1 : Int) < ((i.length : Nat) : Int)) ∧
(In64 ((gi i (0 : Int).toNat) + (gi i (1 : Int).toNat)) ∧
((0 ≤ (2 : Int) ∧ (2 : Int) < ((i.length : Nat) : Int)) ∧
(In64 (((gi i (0 : Int).toNat) + (gi i (1 : Int).toNat)) + (gi i (2 : Int).toNat)) ∧
(In64 ((((gi i (0 : Int).toNat) + (gi i (1 : Int).toNat)) + (gi i (2 : Int).toNat)) - 1) ∧
R ((((gi i (0 : Int).toNat) + (gi i (1 : Int).toNat)) + (gi i (2 : Int).toNat)) - 1)))))))) ∧
(¬ (d = 8) →
((0 ≤ (0 : Int) ∧ (0 : Int) < ((i.length : Nat) : Int)) ∧
R (gi i (0 : Int).toNat))))))))))) ∧
((d = 2 →
J2 (decide (d = 2))) ∧
(¬ (d = 2) →
J2 (decide (d = 5))))))))))
theorem yd3 {O : Nat → Prop} {w : World} {d i Ai li ci} {R : Int → Prop} (h : yce d i R) (hO : ∀ k, O k → k < w.heap.size) (hA0 : (FP.sl cI Ai li ci i).P O w) :
    Calls Try.prog 41 #[(ii d), (.slice Ai li ci)] w fun e w' => ∃ r, e = .returned (ii r) ∧ Sep w no O w' (rl []) ∧ R r := by
  unfold yce at h; have hS : Sep w no O w (rl [Res.ro (FP.sl cI Ai li ci i)]) := Sep.startl hO [(FP.sl cI Ai li ci i)] ⟨hA0, trivial⟩; refine yay (l := [(ii d), (.slice Ai li ci)]) func41 rfl ntmps41 (Nat.le_of_ble_eq_true rfl) (zs (zq (za (ii 0)) (yaa (zs (zq (za (ii 13)) (yaa (yag (zs (zq (zm (ii d)) (zq zE (yaa ?_))))))))))); by_cases hp : d = 4
  · replace h := h.1 hp; refine zc hp (yag (zs (zq (zm (.slice Ai li ci)) ?_))); obtain ⟨hx, h⟩ := h; refine zq (zi underlying22 yai (yaF (hS.rdr 0 rfl) hx)) (zq (yaw (v := (ii (gi i (0 : Int).toNat))) rfl underlying3 rfl (rd_1 (hS.rdr 0 rfl) hx (fun q => yar q) rfl)) ?_); refine zq zG (yaa ?_); by_cases hp2 : 50 < (gi i (0 : Int).toNat)
    · replace h := h.1 hp2; exact zc hp2 (zs (zq (zm (ii 13)) (zq (za (ii 13)) (yaa (yas rfl rfl ⟨_, rfl, (hS.sel [] (by decide)), h⟩)))))
    · replace h := h.2 hp2; exact zd hp2 (yak (zs (zq (za (ii 2)) (yaa (yas rfl rfl ⟨_, rfl, (hS.sel [] (by decide)), h⟩)))))
  · replace h := h.2 hp; refine zd hp (yak (yag (zs (zq (za (ii 0)) (yaa (yam ?_)))))); obtain ⟨I2, ⟨m0, h0⟩, hr⟩ := h; refine yaL (fun m E ds w' => ∃ v, I2 m v ∧ ds = [] ∧ E 0 = (ii d) ∧ E 1 = (Value.slice Ai li ci) ∧ E 5 = (ii 13) ∧ E 6 = (ii v) ∧ Sep w no O w' (rl [Res.ro (FP.sl cI Ai li ci i)])) m0 ⟨_, h0, rfl, rfl, rfl, rfl, rfl, (hS.sel [0] (by decide))⟩ ?_; clear h0 hS; rintro m2 E ds w2 ⟨v, h, rfl, hE0, hE1, hE5, hE6, hS⟩ again; replace h := hr m2 v h; clear hr; refine yag (zs (zq (yae hE6) (zq (yae hE1) (zq (ybp (n := i.length) rfl underlying22 (ybi (hS.rdr 0 rfl))) (zq zL (yaa ?_)))))); by_cases hp3 : v < ((i.length : Nat) : Int)
    · replace h := h.1 hp3; refine zc hp3 (yak (yag (yam (zs (zq (yae hE1) (zq (yae hE6) ?_)))))); obtain ⟨hx2, h⟩ := h; refine zq (zi underlying22 yai (yaF (hS.rdr 0 rfl) hx2)) (zq (yaw (v := (ii (gi i v.toNat))) rfl underlying3 rfl (rd_1 (hS.rdr 0 rfl) hx2 (fun q => yar q) rfl)) ?_); refine zq (yae hE5) (zq zG (yaa ?_)); by_cases hp4 : 13 < (gi i v.toNat)
      · replace h := h.1 hp4; exact zc hp4 (zs (zq (yae hE5) (zq (za (ii 13)) (yaa (yas rfl rfl ⟨_, rfl, (hS.sel [] (by decide)), h⟩)))))
      · replace h := h.2 hp4; refine zd hp4 (yak (yan (zr (zq (yae hE6) ?_)))); obtain ⟨hi, h⟩ := h; refine zq (zA hi) (zq (za (ii (v + 1))) (yaa ?_)); obtain ⟨mq, hlt, h⟩ := h; exact again mq _ _ _ ⟨_, h, rfl, hE0, hE1, hE5, rfl, (hS.sel [0] (by decide))⟩ hlt
    · replace h := h.2 hp3; refine zd hp3 (yaJ rfl (yag (zs (zq (yae hE0) (yaa (yam (yag (zs (zq zE (zq (za (.bool (decide (d = 2)))) (yaa ?_))))))))))); obtain ⟨J2, hJ, h⟩ := h; refine yf1 (fun E ds w' => ∃ v2, J2 v2 ∧ ds = [] ∧ E 1 = (Value.slice Ai li ci) ∧ E 27 = (ii d) ∧ E 28 = (Value.bool (v2)) ∧ Sep w no O w' (rl [Res.ro (FP.sl cI Ai li ci i)])) ?_ ?_
      · clear h hS; rintro E ds w3 ⟨v2, h, rfl, hE1, hE27, hE28, hS⟩; replace h := hJ v2 h; by_cases hp5 : v2 = true
        · replace h := h.1 hp5; refine yaz ((hE28).trans (congrArg Value.bool hp5)) (zs (zq (yae hE1) ?_)); obtain ⟨hx3, h⟩ := h; refine zq (zi underlying22 yai (yaF (hS.rdr 0 rfl) hx3)) (zq (yaw (v := (ii (gi i (0 : Int).toNat))) rfl underlying3 rfl (rd_1 (hS.rdr 0 rfl) hx3 (fun q => yar q) rfl)) ?_); obtain ⟨hi2, h⟩ := h; exact zq (zA hi2) (zq (za (ii ((gi i (0 : Int).toNat) + 1))) (yaa (yas rfl rfl ⟨_, rfl, (hS.sel [] (by decide)), h⟩)))
        · replace h := h.2 hp5; refine yaQ ((hE28).trans (congrArg Value.bool (Bool.eq_false_iff.2 hp5))) (zs (zq (yhj hE27 rfl) (zq (za (.bool (decide (d = 6)))) (yaa ?_)))); by_cases hp6 : d = 6
          · replace h := h.1 hp6; refine zc hp6 (yag (ya6 [0, 1, 2, 3, 4, 5, 6, 7] st0 yaS (by kernel_rfl) (by kernel_rfl) ?_)); replace hS := hS.drew; refine zp (yae hE1) ?_; obtain ⟨hx4, h⟩ := h; refine zp (zi underlying22 yai (yaF (hS.rdr 0 rfl) hx4)) (zp (yaw (v := (ii (gi i (0 : Int).toNat))) rfl underlying3 rfl (rd_1 (hS.rdr 0 rfl) hx4 (fun q => yar q) rfl)) ?_); refine zp (yae hE1) ?_; obtain ⟨hx5, h⟩ := h; refine zp (zi underlying22 yai (yaF (hS.rdr 0 rfl) hx5)) (zp (yaw (v := (ii (gi i (1 : Int).toNat))) rfl underlying3 rfl (rd_1 (hS.rdr 0 rfl) hx5 (fun q => yar q) rfl)) ?_); obtain ⟨hi3, h⟩ := h; exact zp (zA hi3) (zp (za (ii ((gi i (0 : Int).toNat) + (gi i (1 : Int).toNat)))) (ybk (yas rfl rfl ⟨_, rfl, (hS.sel [] (by decide)), h⟩)))
          · replace h := h.2 hp6; refine zd hp6 (zs (zq (yhj hE27 rfl) (zq (za (.bool (decide (d = 7)))) (yaa ?_)))); by_cases hp7 : d = 7
            · replace h := h.1 hp7; refine zc hp7 (yag (ya6 [0, 1, 2, 3, 4, 5, 6, 7] st0 yaS (by kernel_rfl) (by kernel_rfl) ?_)); replace hS := hS.drew; refine zp (yae hE1) ?_; obtain ⟨hx6, h⟩ := h; refine zp (zi underlying22 yai (yaF (hS.rdr 0 rfl) hx6)) (zp (yaw (v := (ii (gi i (0 : Int).toNat))) rfl underlying3 rfl (rd_1 (hS.rdr 0 rfl) hx6 (fun q => yar q) rfl)) ?_); refine zp (yae hE1) ?_; obtain ⟨hx7, h⟩ := h; refine zp (zi underlying22 yai (yaF (hS.rdr 0 rfl) hx7)) (zp (yaw (v := (ii (gi i (1 : Int).toNat))) rfl underlying3 rfl (rd_1 (hS.rdr 0 rfl) hx7 (fun q => yar q) rfl)) ?_); obtain ⟨hi4, h⟩ := h; exact zp (yfm rfl rfl hi4) (zp (za (ii ((gi i (0 : Int).toNat) * (gi i (1 : Int).toNat)))) (ybk (yas rfl rfl ⟨_, rfl, (hS.sel [] (by decide)), h⟩)))
            · replace h := h.2 hp7; refine zd hp7 (zs (zq (yhj hE27 rfl) (zq (za (.bool (decide (d = 8)))) (yaa ?_)))); by_cases hp8 : d = 8
              · replace h := h.1 hp8; refine zc hp8 (yag (ya6 [0, 1, 2, 3, 4, 5, 6, 7, 8, 9, 10, 11, 12] st0 yaS (by kernel_rfl) (by kernel_rfl) ?_)); replace hS := hS.drew; refine zp (yae hE1) ?_; obtain ⟨hx8, h⟩ := h; refine zp (zi underlying22 yai (yaF (hS.rdr 0 rfl) hx8)) (zp (yaw (v := (ii (gi i (0 : Int).toNat))) rfl underlying3 rfl (rd_1 (hS.rdr 0 rfl) hx8 (fun q => yar q) rfl)) ?_); refine zp (yae hE1) ?_; obtain ⟨hx9, h⟩ := h; refine zp (zi underlying22 yai (yaF (hS.rdr 0 rfl) hx9)) (zp (yaw (v := (ii (gi i (1 : Int).toNat))) rfl underlying3 rfl (rd_1 (hS.rdr 0 rfl) hx9 (fun q => yar q) rfl)) ?_); obtain ⟨hi5, h⟩ := h; refine zp (zA hi5) (zp (yae hE1) ?_); obtain ⟨hx10, h⟩ := h; refine zp (zi underlying22 yai (yaF (hS.rdr 0 rfl) hx10)) (zp (yaw (v := (ii (gi i (2 : Int).toNat))) rfl underlying3 rfl (rd_1 (hS.rdr 0 rfl) hx10 (fun q => yar q) rfl)) ?_); obtain ⟨hi6, h⟩ := h; refine zp (zA hi6) ?_; obtain ⟨hi7, h⟩ := h; exact zp (zS hi7) (zp (za (ii ((((gi i (0 : Int).toNat) + (gi i (1 : Int).toNat)) + (gi i (2 : Int).toNat)) - 1))) (ybk (yas rfl rfl ⟨_, rfl, (hS.sel [] (by decide)), h⟩)))
              · replace h := h.2 hp8; refine zd hp8 (yak (yan (zs (zq (yae hE1) ?_)))); obtain ⟨hx11, h⟩ := h; refine zq (zi underlying22 yai (yaF (hS.rdr 0 rfl) hx11)) (zq (yaw (v := (ii (gi i (0 : Int).toNat))) rfl underlying3 rfl (rd_1 (hS.rdr 0 rfl) hx11 (fun q => yar q) rfl)) ?_); exact zq (za (ii (gi i (0 : Int).toNat))) (yaa (yas rfl rfl ⟨_, rfl, (hS.sel [] (by decide)), h⟩))
      clear hJ; intro j; by_cases hp9 : d = 2
      · replace h := h.1 hp9; exact zc hp9 (yak (j _ _ _ ⟨_, h, rfl, hE1, rfl, rfl, (hS.sel [0] (by decide))⟩))
      · replace h := h.2 hp9; exact zd hp9 (zr (zq zE (zq (za (.bool (decide (d = 5)))) (yaa (j _ _ _ ⟨_, h, rfl, hE1, rfl, rfl, (hS.sel [0] (by decide))⟩)))))
def ydu (kind : Int) (l : List Int) (R : Int → Prop) : Prop :=
yc5 kind (fun r r2 =>
((r2 = 0 →
((((l.length : Nat) : Int) = r →
(∃ I2 : Nat → Int → Prop, (∃ m0, I2 m0 0) ∧ ∀ m2 i, I2 m2 i → 
((i < r →
((0 ≤ i ∧ i < ((l.length : Nat) : Int)) ∧
(((gi l i.toNat) < 1 →
R 2) ∧
(¬ ((gi l i.toNat) < 1) →
(In64 (i + 1) ∧
∃ m3, m3 < m2 ∧ I2 m3 (i + 1)))))) ∧
(¬ (i < r) →
yce kind l (fun r3 =>
((12 < r3 →
R 5) ∧
(¬ (12 < r3) →
R 0))))))) ∧
(¬ (((l.length : Nat) : Int) = r) →
R 8))) ∧
(¬ (r2 = 0) →
R r2)))
theorem yha {O : Nat → Prop} {w : World} {kind l Al ll cl} {R : Int → Prop} (h : ydu kind l R) (hO : ∀ k, O k → k < w.heap.size) (hA0 : (FP.sl cI Al ll cl l).P O w) :
    Calls Try.prog 23 #[(ii kind), (.slice Al ll cl)] w fun e w' => ∃ r4, e = .returned (ii r4) ∧ Sep w no O w' (rl []) ∧ R r4 := by
  unfold ydu at h; have hS : Sep w no O w (rl [Res.ro (FP.sl cI Al ll cl l)]) := Sep.startl hO [(FP.sl cI Al ll cl l)] ⟨hA0, trivial⟩; refine yay (l := [(ii kind), (.slice Al ll cl)]) func23 rfl ntmps23 (Nat.le_of_ble_eq_true rfl) (zs (zq (za (ii 0)) (yaa (zs (zq (zm (ii kind)) (zn (yap rfl (am1 rfl) enter_12 ((ye0 h (yaM _)).mono ?_)))))))); rintro _ w2 ⟨r, r2, rfl, hC, h⟩; replace hS := hS.pur hC.pure; clear hC; refine ⟨_, rfl, ?_⟩; refine zb (zq (zm (.tuple #[(ii r), (ii r2)])) (zq (zx (ii r)) (zq (zx (ii r2)) (zq (za (ii r)) (zq (za (ii r2)) (yaa (yag (zs (zq (zm (ii r2)) (zq zN (yaa ?_))))))))))); by_cases hp : r2 = 0
  · replace h := h.1 hp; refine ze hp (yak (yag (zs (zq (zm (.slice Al ll cl)) (zq (ybp (n := l.length) rfl underlying22 (ybi (hS.rdr 0 rfl))) (zq (zm (ii r)) (zq zN (yaa ?_)))))))); by_cases hp2 : ((l.length : Nat) : Int) = r
    · replace h := h.1 hp2; refine ze hp2 (yak (yag (zs (zq (za (ii 0)) (yaa (yam ?_)))))); obtain ⟨I2, ⟨m0, h0⟩, hr⟩ := h; refine yaL (fun m E ds w' => ∃ i, I2 m i ∧ ds = [] ∧ E 0 = (ii kind) ∧ E 1 = (Value.slice Al ll cl) ∧ E 5 = (ii r) ∧ E 7 = (ii i) ∧ Sep w no O w' (rl [Res.ro (FP.sl cI Al ll cl l)])) m0 ⟨_, h0, rfl, rfl, rfl, rfl, rfl, (hS.sel [0] (by decide))⟩ ?_; clear h0 hS; rintro m2 E ds w3 ⟨i, h, rfl, hE0, hE1, hE5, hE7, hS⟩ again; replace h := hr m2 i h; clear hr; refine yag (zs (zq (yae hE7) (zq (yae hE5) (zq zL (yaa ?_))))); by_cases hp3 : i < r
      · replace h := h.1 hp3; refine zc hp3 (yak (yag (yam (zs (zq (yae hE1) (zq (yae hE7) ?_)))))); obtain ⟨hx, h⟩ := h; refine zq (zi underlying22 yai (yaF (hS.rdr 0 rfl) hx)) (zq (yaw (v := (ii (gi l i.toNat))) rfl underlying3 rfl (rd_1 (hS.rdr 0 rfl) hx (fun q => yar q) rfl)) ?_); refine zq zL (yaa ?_); by_cases hp4 : (gi l i.toNat) < 1
        · replace h := h.1 hp4; exact zc hp4 (zs (zq (za (ii 2)) (yaa (yas rfl rfl ⟨_, rfl, (hS.sel [] (by decide)), h⟩))))
        · replace h := h.2 hp4; refine zd hp4 (yak (yan (zr (zq (yae hE7) ?_)))); obtain ⟨hi, h⟩ := h; refine zq (zA hi) (zq (za (ii (i + 1))) (yaa ?_)); obtain ⟨mq, hlt, h⟩ := h; exact again mq _ _ _ ⟨_, h, rfl, hE0, hE1, hE5, rfl, (hS.sel [0] (by decide))⟩ hlt
      · replace h := h.2 hp3; refine zd hp3 (yaJ rfl (yag (zs (zq (yae hE0) (zq (yae hE1) (zn (yap rfl (am2 rfl rfl) enter_41 ((yd3 h (yaM _) (hS.rdr 0 rfl)).mono ?_)))))))); rintro _ w4 ⟨r3, rfl, hC, h⟩; replace hS := hS.pur hC.pure; clear hC; refine ⟨_, rfl, ?_⟩; refine zb (zq zG (yaa ?_)); by_cases hp5 : 12 < r3
        · replace h := h.1 hp5; exact zc hp5 (zs (zq (za (ii 5)) (yaa (yas rfl rfl ⟨_, rfl, (hS.sel [] (by decide)), h⟩))))
        · replace h := h.2 hp5; exact zd hp5 (yak (zs (zq (za (ii 0)) (yaa (yas rfl rfl ⟨_, rfl, (hS.sel [] (by decide)), h⟩)))))
    · replace h := h.2 hp2; exact zf hp2 (zs (zq (za (ii 8)) (yaa (yas rfl rfl ⟨_, rfl, (hS.sel [] (by decide)), h⟩))))
  · replace h := h.2 hp; exact zf hp (zs (zq (zm (ii r2)) (zq (za (ii r2)) (yaa (yas rfl rfl ⟨_, rfl, (hS.sel [] (by decide)), h⟩)))))
def ycS (from2 : Int) (to : Int) (R : (List (Int × Int)) → Prop) : Prop :=
(∃ I2 : Nat → (List (Int × Int)) → Int → Prop, (∃ m0, I2 m0 ([]) from2) ∧ ∀ m2 out v, I2 m2 out v → 
((v < to →
(In64 (v + 1) ∧
(out.length + 1 ≤ 1000000000 ∧
∃ m3, m3 < m2 ∧ I2 m3 (out ++ [(v, v + 1)]) (v + 1)))) ∧
(¬ (v < to) →
R out)))
theorem yei {O : Nat → Prop} {w : World} {from2 to} {R : (List (Int × Int)) → Prop} (h : ycS from2 to R) (hO : ∀ k, O k → k < w.heap.size) :
    Calls Try.prog 95 #[(ii from2), (ii to)] w fun e w' => ∃ r Ar lr cr, e = .returned (.slice Ar lr cr) ∧ Sep w no O w' (rl [Res.own c2 59 Ar lr cr r]) ∧ R r := by
  unfold ycS at h; have hS : Sep w no O w (rl []) := Sep.start w hO; refine yay (l := [(ii from2), (ii to)]) func95 rfl ntmps95 (Nat.le_of_ble_eq_true rfl) (zs (zq (za (.slice none 0 0)) (yaa (zs (zq (za (.slice none 0 0)) (yaa (yag (zs (zq (zm (ii from2)) (zq (za (ii from2)) (yaa (yam ?_)))))))))))); replace hS := hS.nil 0 rfl c2 59; obtain ⟨I2, ⟨m0, h0⟩, hr⟩ := h; refine yaL (fun m E ds w' => ∃ out v Aout lout cout, I2 m out v ∧ ds = [] ∧ E 1 = (ii to) ∧ E 5 = (Value.slice Aout lout cout) ∧ E 6 = (ii v) ∧ Sep w no O w' (rl [Res.own c2 59 Aout lout cout out])) m0 ⟨_, _, _, _, _, h0, rfl, rfl, rfl, rfl, (hS.sel [0] (by decide))⟩ ?_; clear h0 hS; rintro m2 E ds w2 ⟨out, v, Aout, lout, cout, h, rfl, hE1, hE5, hE6, hS⟩ again; replace h := hr m2 out v h; clear hr; refine yag (zs (zq (yae hE6) (zq (yae hE1) (zq zL (yaa ?_))))); by_cases hp : v < to
  · replace h := h.1 hp; refine zc hp (yak (yag (yam (zr (zq (yae hE5) (zq (yae hE6) (zq (yae hE6) ?_))))))); obtain ⟨hi, h⟩ := h; refine zq (zA hi) (zn (ya2 (l := [(0, (ii v)), (1, (ii (v + 1)))]) (cells := [(ii v), (ii (v + 1))]) (bp2 rfl rfl) underlying59 yaA yai (by kernel_rfl) ?_)); refine zb (zn (yaD (l := [(0, (.agg #[(ii v), (ii (v + 1))]))]) (cells := [(ii v), (ii (v + 1))]) (bp1 rfl) underlying57 yaA rfl rfl ?_)); intro g w3 hN; replace hS := hS.litf (n := 1) 1 rfl (fP (fI .i64) (fI .i64)) hN ([(v, v + 1)] : List (Int × Int)) rfl (by decide) rfl; clear hN; refine zb ?_; obtain ⟨hx, h⟩ := h; refine zn (ycB (c := c2) rfl rfl underlying57 underlying57 yaA rfl rfl (by decide) hS 0 rfl (hS.yo 1 rfl) hx ?_); clear hS; intro A c w4 hS; refine zb (zq (za (.slice A (lout + 1) c)) (yaa (yan (zr (zq (yae hE6) (zq (zA hi) (zq (za (ii (v + 1))) (yaa ?_)))))))); obtain ⟨mq, hlt, h⟩ := h; exact again mq _ _ _ ⟨_, _, _, _, _, h, rfl, hE1, rfl, rfl, (hS.sel [0] (by decide))⟩ hlt
  · replace h := h.2 hp; exact zd hp (yaJ rfl (zs (zq (yae hE5) (zq (za (.slice Aout lout cout)) (yaa (yas rfl rfl ⟨_, _, _, _, rfl, (hS.sel [0] (by decide)), h⟩))))))
def yb6 (m2 : Int) (n : Int) (R : (List (Int × Int)) → Prop) : Prop :=
(∃ I2 : Nat → (List (Int × Int)) → Int → Prop, (∃ m0, I2 m0 ([]) 0) ∧ ∀ m3 out i, I2 m3 out i → 
((i < m2 →
(∃ I3 : Nat → (List (Int × Int)) → Int → Prop, (∃ m0, I3 m0 out 0) ∧ ∀ m4 out2 k, I3 m4 out2 k → 
((k < n →
(In64 (m2 + k) ∧
(out2.length + 1 ≤ 1000000000 ∧
(In64 (k + 1) ∧
∃ m5, m5 < m4 ∧ I3 m5 (out2 ++ [(i, m2 + k)]) (k + 1))))) ∧
(¬ (k < n) →
(In64 (i + 1) ∧
∃ m6, m6 < m3 ∧ I2 m6 out2 (i + 1)))))) ∧
(¬ (i < m2) →
R out)))
theorem ydo {O : Nat → Prop} {w : World} {m2 n} {R : (List (Int × Int)) → Prop} (h : yb6 m2 n R) (hO : ∀ k, O k → k < w.heap.size) :
    Calls Try.prog 96 #[(ii m2), (ii n)] w fun e w' => ∃ r Ar lr cr, e = .returned (.slice Ar lr cr) ∧ Sep w no O w' (rl [Res.own c2 59 Ar lr cr r]) ∧ R r := by
  unfold yb6 at h; have hS : Sep w no O w (rl []) := Sep.start w hO; refine yay (l := [(ii m2), (ii n)]) func96 rfl ntmps96 (Nat.le_of_ble_eq_true rfl) (zs (zq (za (.slice none 0 0)) (yaa (zs (zq (za (.slice none 0 0)) (yaa (yag (zs (zq (za (ii 0)) (yaa (yam ?_))))))))))); replace hS := hS.nil 0 rfl c2 59; obtain ⟨I2, ⟨m0, h0⟩, hr⟩ := h; refine yaL (fun m E ds w' => ∃ out i Aout lout cout, I2 m out i ∧ ds = [] ∧ E 0 = (ii m2) ∧ E 1 = (ii n) ∧ E 5 = (Value.slice Aout lout cout) ∧ E 6 = (ii i) ∧ Sep w no O w' (rl [Res.own c2 59 Aout lout cout out])) m0 ⟨_, _, _, _, _, h0, rfl, rfl, rfl, rfl, rfl, (hS.sel [0] (by decide))⟩ ?_; clear h0 hS; rintro m3 E ds w2 ⟨out, i, Aout, lout, cout, h, rfl, hE0, hE1, hE5, hE6, hS⟩ again; replace h := hr m3 out i h; clear hr; refine yag (zs (zq (yae hE6) (zq (yae hE0) (zq zL (yaa ?_))))); by_cases hp : i < m2
  · replace h := h.1 hp; refine zc hp (yak (yag (yam (zs (zq (za (ii 0)) (yaa (yam ?_))))))); obtain ⟨I3, ⟨m0, h0⟩, hr⟩ := h; refine yaL (fun m E ds w' => ∃ out2 k Aout2 lout2 cout2, I3 m out2 k ∧ ds = [] ∧ E 0 = (ii m2) ∧ E 1 = (ii n) ∧ E 5 = (Value.slice Aout2 lout2 cout2) ∧ E 6 = (ii i) ∧ E 7 = (ii k) ∧ Sep w no O w' (rl [Res.own c2 59 Aout2 lout2 cout2 out2])) m0 ⟨_, _, _, _, _, h0, rfl, hE0, hE1, hE5, hE6, rfl, (hS.sel [0] (by decide))⟩ ?_; clear h0 hS; rintro m4 E ds w3 ⟨out2, k, Aout2, lout2, cout2, h, rfl, hE0, hE1, hE5, hE6, hE7, hS⟩ again2; replace h := hr m4 out2 k h; clear hr; refine yag (zs (zq (yae hE7) (zq (yae hE1) (zq zL (yaa ?_))))); by_cases hp2 : k < n
    · replace h := h.1 hp2; refine zc hp2 (yak (yag (yam (zr (zq (yae hE5) (zq (yae hE6) (zq (yae hE0) (zq (yae hE7) ?_)))))))); obtain ⟨hi, h⟩ := h; refine zq (zA hi) (zn (ya2 (l := [(0, (ii i)), (1, (ii (m2 + k)))]) (cells := [(ii i), (ii (m2 + k))]) (bp2 rfl rfl) underlying59 yaA yai (by kernel_rfl) ?_)); refine zb (zn (yaD (l := [(0, (.agg #[(ii i), (ii (m2 + k))]))]) (cells := [(ii i), (ii (m2 + k))]) (bp1 rfl) underlying57 yaA rfl rfl ?_)); intro g w4 hN; replace hS := hS.litf (n := 1) 1 rfl (fP (fI .i64) (fI .i64)) hN ([(i, m2 + k)] : List (Int × Int)) rfl (by decide) rfl; clear hN; refine zb ?_; obtain ⟨hx, h⟩ := h; refine zn (ycB (c := c2) rfl rfl underlying57 underlying57 yaA rfl rfl (by decide) hS 0 rfl (hS.yo 1 rfl) hx ?_); clear hS; intro A c w5 hS; refine zb (zq (za (.slice A (lout2 + 1) c)) (yaa (yan (zr (zq (yae hE7) ?_))))); obtain ⟨hi2, h⟩ := h; refine zq (zA hi2) (zq (za (ii (k + 1))) (yaa ?_)); obtain ⟨mq, hlt, h⟩ := h; exact again2 mq _ _ _ ⟨_, _, _, _, _, h, rfl, hE0, hE1, rfl, hE6, rfl, (hS.sel [0] (by decide))⟩ hlt
    · replace h := h.2 hp2; refine zd hp2 (yaJ rfl (yan (zr (zq (yae hE6) ?_)))); obtain ⟨hi3, h⟩ := h; refine zq (zA hi3) (zq (za (ii (i + 1))) (yaa ?_)); obtain ⟨mq, hlt, h⟩ := h; exact again mq _ _ _ ⟨_, _, _, _, _, h, rfl, hE0, hE1, hE5, rfl, (hS.sel [0] (by decide))⟩ hlt
  · replace h := h.2 hp; exact zd hp (yaJ rfl (zs (zq (yae hE5) (zq (za (.slice Aout lout cout)) (yaa (yas rfl rfl ⟨_, _, _, _, rfl, (hS.sel [0] (by decide)), h⟩))))))
def ycI (m2 : Int) (n : Int) (R : (List (Int × Int)) → Prop) : Prop :=
(∃ I2 : Nat → (List (Int × Int)) → Int → Prop, (∃ m0, I2 m0 ([]) 0) ∧ ∀ m3 out i, I2 m3 out i → 
((i < m2 →
(∃ I3 : Nat → (List (Int × Int)) → Int → Prop, (∃ m0, I3 m0 out 0) ∧ ∀ m4 out2 j, I3 m4 out2 j → 
((j < n →
(In64 (j + 1) ∧
(∃ J2 : (List (Int × Int)) → Prop, (∀ (out3 : List (Int × Int)), J2 out3 → (In64 (i + 1) ∧
(((i + 1) < m2 →
(In64 (i * n) ∧
(In64 ((i * n) + j) ∧
(In64 ((i * n) + n) ∧
(In64 (((i * n) + n) + j) ∧
(out3.length + 1 ≤ 1000000000 ∧
∃ m5, m5 < m4 ∧ I3 m5 (out3 ++ [((i * n) + j, ((i * n) + n) + j)]) (j + 1))))))) ∧
(¬ ((i + 1) < m2) →
∃ m6, m6 < m4 ∧ I3 m6 out3 (j + 1))))) ∧
(((j + 1) < n →
(In64 (i * n) ∧
(In64 ((i * n) + j) ∧
(In64 (((i * n) + j) + 1) ∧
(out2.length + 1 ≤ 1000000000 ∧
J2 (out2 ++ [((i * n) + j, ((i * n) + j) + 1)])))))) ∧
(¬ ((j + 1) < n) →
J2 out2))))) ∧
(¬ (j < n) →
(In64 (i + 1) ∧
∃ m7, m7 < m3 ∧ I2 m7 out2 (i + 1)))))) ∧
(¬ (i < m2) →
R out)))
theorem yfK {O : Nat → Prop} {w : World} {m2 n} {R : (List (Int × Int)) → Prop} (h : ycI m2 n R) (hO : ∀ k, O k → k < w.heap.size) :
    Calls Try.prog 97 #[(ii m2), (ii n)] w fun e w' => ∃ r Ar lr cr, e = .returned (.slice Ar lr cr) ∧ Sep w no O w' (rl [Res.own c2 59 Ar lr cr r]) ∧ R r := by
  unfold ycI at h; have hS : Sep w no O w (rl []) := Sep.start w hO; refine yay (l := [(ii m2), (ii n)]) func97 rfl ntmps97 (Nat.le_of_ble_eq_true rfl) (zs (zq (za (.slice none 0 0)) (yaa (zs (zq (za (.slice none 0 0)) (yaa (yag (zs (zq (za (ii 0)) (yaa (yam ?_))))))))))); replace hS := hS.nil 0 rfl c2 59; obtain ⟨I2, ⟨m0, h0⟩, hr⟩ := h; refine yaL (fun m E ds w' => ∃ out i Aout lout cout, I2 m out i ∧ ds = [] ∧ E 0 = (ii m2) ∧ E 1 = (ii n) ∧ E 5 = (Value.slice Aout lout cout) ∧ E 6 = (ii i) ∧ Sep w no O w' (rl [Res.own c2 59 Aout lout cout out])) m0 ⟨_, _, _, _, _, h0, rfl, rfl, rfl, rfl, rfl, (hS.sel [0] (by decide))⟩ ?_; clear h0 hS; rintro m3 E ds w2 ⟨out, i, Aout, lout, cout, h, rfl, hE0, hE1, hE5, hE6, hS⟩ again; replace h := hr m3 out i h; clear hr; refine yag (zs (zq (yae hE6) (zq (yae hE0) (zq zL (yaa ?_))))); by_cases hp : i < m2
  · replace h := h.1 hp; refine zc hp (yak (yag (yam (zs (zq (za (ii 0)) (yaa (yam ?_))))))); obtain ⟨I3, ⟨m0, h0⟩, hr⟩ := h; refine yaL (fun m E ds w' => ∃ out2 j Aout2 lout2 cout2, I3 m out2 j ∧ ds = [] ∧ E 0 = (ii m2) ∧ E 1 = (ii n) ∧ E 5 = (Value.slice Aout2 lout2 cout2) ∧ E 6 = (ii i) ∧ E 7 = (ii j) ∧ Sep w no O w' (rl [Res.own c2 59 Aout2 lout2 cout2 out2])) m0 ⟨_, _, _, _, _, h0, rfl, hE0, hE1, hE5, hE6, rfl, (hS.sel [0] (by decide))⟩ ?_; clear h0 hS; rintro m4 E ds w3 ⟨out2, j, Aout2, lout2, cout2, h, rfl, hE0, hE1, hE5, hE6, hE7, hS⟩ again2; replace h := hr m4 out2 j h; clear hr; refine yag (zs (zq (yae hE7) (zq (yae hE1) (zq zL (yaa ?_))))); by_cases hp2 : j < n
    · replace h := h.1 hp2; refine zc hp2 (yak (yag (yam (yag (zs (zq (yae hE7) ?_)))))); obtain ⟨hi, h⟩ := h; refine zq (zA hi) (zq (yae hE1) (zq zL (yaa ?_))); obtain ⟨J2, hJ, h⟩ := h; refine yf1 (fun E ds w' => ∃ out3 Aout3 lout3 cout3, J2 out3 ∧ ds = [] ∧ E 0 = (ii m2) ∧ E 1 = (ii n) ∧ E 5 = (Value.slice Aout3 lout3 cout3) ∧ E 6 = (ii i) ∧ E 7 = (ii j) ∧ Sep w no O w' (rl [Res.own c2 59 Aout3 lout3 cout3 out3])) ?_ ?_
      · clear h hS; rintro E ds w4 ⟨out3, Aout3, lout3, cout3, h, rfl, hE0, hE1, hE5, hE6, hE7, hS⟩; replace h := hJ out3 h; refine zs (zq (yae hE6) ?_); obtain ⟨hi2, h⟩ := h; refine zq (zA hi2) (zq (yae hE0) (zq zL (yaa ?_))); by_cases hp3 : (i + 1) < m2
        · replace h := h.1 hp3; refine zc hp3 (zr (zq (yae hE5) (zq (yae hE6) (zq (yae hE1) ?_)))); obtain ⟨hi3, h⟩ := h; refine zq (yfm rfl rfl hi3) (zq (yae hE7) ?_); obtain ⟨hi4, h⟩ := h; refine zq (zA hi4) (zq (yae hE6) (zq (yae hE1) (zq (yfm rfl rfl hi3) (zq (yae hE1) ?_)))); obtain ⟨hi6, h⟩ := h; refine zq (zA hi6) (zq (yae hE7) ?_); obtain ⟨hi7, h⟩ := h; refine zq (zA hi7) (zn (ya2 (l := [(0, (ii ((i * n) + j))), (1, (ii (((i * n) + n) + j)))]) (cells := [(ii ((i * n) + j)), (ii (((i * n) + n) + j))]) (bp2 rfl rfl) underlying59 yaA yai (by kernel_rfl) ?_)); refine zb (zn (yaD (l := [(0, (.agg #[(ii ((i * n) + j)), (ii (((i * n) + n) + j))]))]) (cells := [(ii ((i * n) + j)), (ii (((i * n) + n) + j))]) (bp1 rfl) underlying57 yaA rfl rfl ?_)); intro g w5 hN; replace hS := hS.litf (n := 1) 1 rfl (fP (fI .i64) (fI .i64)) hN ([((i * n) + j, ((i * n) + n) + j)] : List (Int × Int)) rfl (by decide) rfl; clear hN; refine zb ?_; obtain ⟨hx, h⟩ := h; refine zn (ycB (c := c2) rfl rfl underlying57 underlying57 yaA rfl rfl (by decide) hS 0 rfl (hS.yo 1 rfl) hx ?_); clear hS; intro A c w6 hS; refine zb (zq (za (.slice A (lout3 + 1) c)) (yaa (yan (zr (zq (yae hE7) (zq (zA hi) (zq (za (ii (j + 1))) (yaa ?_)))))))); obtain ⟨mq, hlt, h⟩ := h; exact again2 mq _ _ _ ⟨_, _, _, _, _, h, rfl, hE0, hE1, rfl, hE6, rfl, (hS.sel [0] (by decide))⟩ hlt
        · replace h := h.2 hp3; refine zd hp3 (yak (yan (zr (zq (yae hE7) (zq (zA hi) (zq (za (ii (j + 1))) (yaa ?_))))))); obtain ⟨mq, hlt, h⟩ := h; exact again2 mq _ _ _ ⟨_, _, _, _, _, h, rfl, hE0, hE1, hE5, hE6, rfl, (hS.sel [0] (by decide))⟩ hlt
      clear hJ; intro j2; by_cases hp4 : (j + 1) < n
      · replace h := h.1 hp4; refine zc hp4 (zr (zq (yae hE5) (zq (yae hE6) (zq (yae hE1) ?_)))); obtain ⟨hi10, h⟩ := h; refine zq (yfm rfl rfl hi10) (zq (yae hE7) ?_); obtain ⟨hi11, h⟩ := h; refine zq (zA hi11) (zq (yae hE6) (zq (yae hE1) (zq (yfm rfl rfl hi10) (zq (yae hE7) (zq (zA hi11) ?_))))); obtain ⟨hi14, h⟩ := h; refine zq (zA hi14) (zn (ya2 (l := [(0, (ii ((i * n) + j))), (1, (ii (((i * n) + j) + 1)))]) (cells := [(ii ((i * n) + j)), (ii (((i * n) + j) + 1))]) (bp2 rfl rfl) underlying59 yaA yai (by kernel_rfl) ?_)); refine zb (zn (yaD (l := [(0, (.agg #[(ii ((i * n) + j)), (ii (((i * n) + j) + 1))]))]) (cells := [(ii ((i * n) + j)), (ii (((i * n) + j) + 1))]) (bp1 rfl) underlying57 yaA rfl rfl ?_)); intro g2 w7 hN; replace hS := hS.litf (n := 1) 1 rfl (fP (fI .i64) (fI .i64)) hN ([((i * n) + j, ((i * n) + j) + 1)] : List (Int × Int)) rfl (by decide) rfl; clear hN; refine zb ?_; obtain ⟨hx2, h⟩ := h; refine zn (ycB (c := c2) rfl rfl underlying57 underlying57 yaA rfl rfl (by decide) hS 0 rfl (hS.yo 1 rfl) hx2 ?_); clear hS; intro A2 c2 w8 hS; exact zb (zq (za (.slice A2 (lout2 + 1) c2)) (yaa (j2 _ _ _ ⟨_, _, _, _, h, rfl, hE0, hE1, rfl, hE6, hE7, (hS.sel [0] (by decide))⟩)))
      · replace h := h.2 hp4; exact zd hp4 (yak (j2 _ _ _ ⟨_, _, _, _, h, rfl, hE0, hE1, hE5, hE6, hE7, (hS.sel [0] (by decide))⟩))
    · replace h := h.2 hp2; refine zd hp2 (yaJ rfl (yan (zr (zq (yae hE6) ?_)))); obtain ⟨hi15, h⟩ := h; refine zq (zA hi15) (zq (za (ii (i + 1))) (yaa ?_)); obtain ⟨mq, hlt, h⟩ := h; exact again mq _ _ _ ⟨_, _, _, _, _, h, rfl, hE0, hE1, hE5, rfl, (hS.sel [0] (by decide))⟩ hlt
  · replace h := h.2 hp; exact zd hp (yaJ rfl (zs (zq (yae hE5) (zq (za (.slice Aout lout cout)) (yaa (yas rfl rfl ⟨_, _, _, _, rfl, (hS.sel [0] (by decide)), h⟩))))))
def ycy (l : List Int) (R : (List (Int × Int)) → Prop) : Prop :=
(∃ I2 : Nat → (List (Int × Int)) → Int → Int → Prop, (∃ m0, I2 m0 ([]) 2 0) ∧ ∀ m2 out next i, I2 m2 out next i → 
((i < 3 →
(∃ I3 : Nat → (List (Int × Int)) → Int → Int → Int → Prop, (∃ m0, I3 m0 out next 0 1) ∧ ∀ m3 out2 next2 at2 k, I3 m3 out2 next2 at2 k → 
((0 ≤ i ∧ i < ((l.length : Nat) : Int)) ∧
((k < (gi l i.toNat) →
(out2.length + 1 ≤ 1000000000 ∧
(In64 (next2 + 1) ∧
(In64 (k + 1) ∧
∃ m4, m4 < m3 ∧ I3 m4 (out2 ++ [(at2, next2)]) (next2 + 1) next2 (k + 1))))) ∧
(¬ (k < (gi l i.toNat)) →
(out2.length + 1 ≤ 1000000000 ∧
(In64 (i + 1) ∧
∃ m5, m5 < m2 ∧ I2 m5 (out2 ++ [(at2, 1)]) next2 (i + 1)))))))) ∧
(¬ (i < 3) →
R out)))
theorem yfr {O : Nat → Prop} {w : World} {l Al ll cl} {R : (List (Int × Int)) → Prop} (h : ycy l R) (hO : ∀ k, O k → k < w.heap.size) (hA0 : (FP.sl cI Al ll cl l).P O w) :
    Calls Try.prog 98 #[(.slice Al ll cl)] w fun e w' => ∃ r Ar lr cr, e = .returned (.slice Ar lr cr) ∧ Sep w no O w' (rl [Res.own c2 59 Ar lr cr r]) ∧ R r := by
  unfold ycy at h; have hS : Sep w no O w (rl [Res.ro (FP.sl cI Al ll cl l)]) := Sep.startl hO [(FP.sl cI Al ll cl l)] ⟨hA0, trivial⟩; refine yay (l := [(.slice Al ll cl)]) func98 rfl ntmps98 (Nat.le_of_ble_eq_true rfl) (zs (zq (za (.slice none 0 0)) (yaa (zs (zq (za (.slice none 0 0)) (yaa (zs (zq (za (ii 2)) (yaa (yag (zs (zq (za (ii 0)) (yaa (yam ?_)))))))))))))); replace hS := hS.nil 1 rfl c2 59; obtain ⟨I2, ⟨m0, h0⟩, hr⟩ := h; refine yaL (fun m E ds w' => ∃ out next i Aout lout cout, I2 m out next i ∧ ds = [] ∧ E 0 = (Value.slice Al ll cl) ∧ E 3 = (Value.slice Aout lout cout) ∧ E 4 = (ii next) ∧ E 5 = (ii i) ∧ Sep w no O w' (rl [Res.own c2 59 Aout lout cout out, Res.ro (FP.sl cI Al ll cl l)])) m0 ⟨_, _, _, _, _, _, h0, rfl, rfl, rfl, rfl, rfl, (hS.sel [1, 0] (by decide))⟩ ?_; clear h0 hS; rintro m2 E ds w2 ⟨out, next, i, Aout, lout, cout, h, rfl, hE0, hE3, hE4, hE5, hS⟩ again; replace h := hr m2 out next i h; clear hr; refine yag (zs (zq (yae hE5) (zq zL (yaa ?_)))); by_cases hp : i < 3
  · replace h := h.1 hp; refine zc hp (yak (yag (yam (zs (zq (za (ii 0)) (yaa (yag (zs (zq (za (ii 1)) (yaa (yam ?_))))))))))); obtain ⟨I3, ⟨m0, h0⟩, hr⟩ := h; refine yaL (fun m E ds w' => ∃ out2 next2 at2 k Aout2 lout2 cout2, I3 m out2 next2 at2 k ∧ ds = [] ∧ E 0 = (Value.slice Al ll cl) ∧ E 3 = (Value.slice Aout2 lout2 cout2) ∧ E 4 = (ii next2) ∧ E 5 = (ii i) ∧ E 6 = (ii at2) ∧ E 7 = (ii k) ∧ Sep w no O w' (rl [Res.own c2 59 Aout2 lout2 cout2 out2, Res.ro (FP.sl cI Al ll cl l)])) m0 ⟨_, _, _, _, _, _, _, h0, rfl, hE0, hE3, hE4, hE5, rfl, rfl, (hS.sel [0, 1] (by decide))⟩ ?_; clear h0 hS; rintro m3 E ds w3 ⟨out2, next2, at2, k, Aout2, lout2, cout2, h, rfl, hE0, hE3, hE4, hE5, hE6, hE7, hS⟩ again2; replace h := hr m3 out2 next2 at2 k h; clear hr; refine yag (zs (zq (yae hE7) (zq (yae hE0) (zq (yae hE5) ?_)))); obtain ⟨hx, h⟩ := h; refine zq (zi underlying22 yai (yaF (hS.rdr 1 rfl) hx)) (zq (yaw (v := (ii (gi l i.toNat))) rfl underlying3 rfl (rd_1 (hS.rdr 1 rfl) hx (fun q => yar q) rfl)) ?_); refine zq zL (yaa ?_); by_cases hp2 : k < (gi l i.toNat)
    · replace h := h.1 hp2; refine zc hp2 (yak (yag (yam (zs (zq (yae hE3) (zq (yae hE6) (zq (yae hE4) (zn (ya2 (l := [(0, (ii at2)), (1, (ii next2))]) (cells := [(ii at2), (ii next2)]) (bp2 rfl rfl) underlying59 yaA yai (by kernel_rfl) ?_))))))))); refine zb (zn (yaD (l := [(0, (.agg #[(ii at2), (ii next2)]))]) (cells := [(ii at2), (ii next2)]) (bp1 rfl) underlying57 yaA rfl rfl ?_)); intro g w4 hN; replace hS := hS.litf (n := 1) 2 rfl (fP (fI .i64) (fI .i64)) hN ([(at2, next2)] : List (Int × Int)) rfl (by decide) rfl; clear hN; refine zb ?_; obtain ⟨hx2, h⟩ := h; refine zn (ycB (c := c2) rfl rfl underlying57 underlying57 yaA rfl rfl (by decide) hS 0 rfl (hS.yo 2 rfl) hx2 ?_); clear hS; intro A c w5 hS; refine zb (zq (za (.slice A (lout2 + 1) c)) (yaa (zs (zq (yae hE4) (zq (za (ii next2)) (yaa (zr (zq (yae hE4) ?_)))))))); obtain ⟨hi, h⟩ := h; refine zq (zA hi) (zq (za (ii (next2 + 1))) (yaa (yan (zr (zq (yae hE7) ?_))))); obtain ⟨hi2, h⟩ := h; refine zq (zA hi2) (zq (za (ii (k + 1))) (yaa ?_)); obtain ⟨mq, hlt, h⟩ := h; exact again2 mq _ _ _ ⟨_, _, _, _, _, _, _, h, rfl, hE0, rfl, rfl, hE5, rfl, rfl, (hS.sel [0, 1] (by decide))⟩ hlt
    · replace h := h.2 hp2; refine zd hp2 (yaJ rfl (zr (zq (yae hE3) (zq (yae hE6) (zn (ya2 (l := [(0, (ii at2)), (1, (ii 1))]) (cells := [(ii at2), (ii 1)]) (bp2 rfl rfl) underlying59 yaA yai (by kernel_rfl) ?_)))))); refine zb (zn (yaD (l := [(0, (.agg #[(ii at2), (ii 1)]))]) (cells := [(ii at2), (ii 1)]) (bp1 rfl) underlying57 yaA rfl rfl ?_)); intro g2 w6 hN; replace hS := hS.litf (n := 1) 2 rfl (fP (fI .i64) (fI .i64)) hN ([(at2, 1)] : List (Int × Int)) rfl (by decide) rfl; clear hN; refine zb ?_; obtain ⟨hx3, h⟩ := h; refine zn (ycB (c := c2) rfl rfl underlying57 underlying57 yaA rfl rfl (by decide) hS 0 rfl (hS.yo 2 rfl) hx3 ?_); clear hS; intro A2 c2 w7 hS; refine zb (zq (za (.slice A2 (lout2 + 1) c2)) (yaa (yan (zr (zq (yae hE5) ?_))))); obtain ⟨hi3, h⟩ := h; refine zq (zA hi3) (zq (za (ii (i + 1))) (yaa ?_)); obtain ⟨mq, hlt, h⟩ := h; exact again mq _ _ _ ⟨_, _, _, _, _, _, h, rfl, hE0, rfl, hE4, rfl, (hS.sel [0, 1] (by decide))⟩ hlt
  · replace h := h.2 hp; exact zd hp (yaJ rfl (zs (zq (yae hE3) (zq (za (.slice Aout lout cout)) (yaa (yas rfl rfl ⟨_, _, _, _, rfl, (hS.sel [0] (by decide)), h⟩))))))
def yaX (d : Int) (i : List Int) (R : (List (Int × Int)) → Prop) : Prop :=
((0 ≤ (0 : Int) ∧ (0 : Int) < ((i.length : Nat) : Int)) ∧
((d = 0 →
(In64 ((gi i (0 : Int).toNat) - 1) ∧
ycS 0 ((gi i (0 : Int).toNat) - 1) (fun r =>
R r))) ∧
(¬ (d = 0) →
((d = 1 →
(In64 ((gi i (0 : Int).toNat) - 1) ∧
ycS 0 ((gi i (0 : Int).toNat) - 1) (fun r2 =>
(r2.length + 1 ≤ 1000000000 ∧
R (r2 ++ [((gi i (0 : Int).toNat) - 1, 0)]))))) ∧
(¬ (d = 1) →
((d = 2 →
yb6 1 (gi i (0 : Int).toNat) (fun r3 =>
R r3)) ∧
(¬ (d = 2) →
((d = 4 →
(∃ I2 : Nat → (List (Int × Int)) → Int → Prop, (∃ m0, I2 m0 ([]) 0) ∧ ∀ m2 v v2, I2 m2 v v2 → 
((v2 < (gi i (0 : Int).toNat) →
(v.length + 1 ≤ 1000000000 ∧
(In64 (v2 + 1) ∧
∃ m3, m3 < m2 ∧ I2 m3 (v ++ [(0, 1)]) (v2 + 1)))) ∧
(¬ (v2 < (gi i (0 : Int).toNat)) →
R v)))) ∧
(¬ (d = 4) →
((d = 5 →
yb6 1 (gi i (0 : Int).toNat) (fun r4 =>
ycS 1 (gi i (0 : Int).toNat) (fun r5 =>
(r4.length + r5.length ≤ 1000000000 ∧
((r4 ++ r5).length + 1 ≤ 1000000000 ∧
R ((r4 ++ r5) ++ [(gi i (0 : Int).toNat, 1)])))))) ∧
(¬ (d = 5) →
((d = 6 →
((0 ≤ (1 : Int) ∧ (1 : Int) < ((i.length : Nat) : Int)) ∧
yb6 (gi i (0 : Int).toNat) (gi i (1 : Int).toNat) (fun r6 =>
R r6))) ∧
(¬ (d = 6) →
((d = 7 →
((0 ≤ (1 : Int) ∧ (1 : Int) < ((i.length : Nat) : Int)) ∧
ycI (gi i (0 : Int).toNat) (gi i (1 : Int).toNat) (fun r7 =>
R r7))) ∧
(¬ (d = 7) →
((d = 8 →
ycy i (fun r8 =>
R r8)) ∧
(¬ (d = 8) →
(∃ I3 : Nat → (List (Int × Int)) → Int → Prop, (∃ m0, I3 m0 ([]) 0) ∧ ∀ m4 v3 v4, I3 m4 v3 v4 → 
((v4 < (gi i (0 : Int).toNat) →
(In64 (v4 + 1) ∧
(∃ I4 : Nat → (List (Int × Int)) → Int → Prop, (∃ m0, I4 m0 v3 (v4 + 1)) ∧ ∀ m5 v5 v6, I4 m5 v5 v6 → 
((v6 < (gi i (0 : Int).toNat) →
(v5.length + 1 ≤ 1000000000 ∧
(In64 (v6 + 1) ∧
∃ m6, m6 < m5 ∧ I4 m6 (v5 ++ [(v4, v6)]) (v6 + 1)))) ∧
(¬ (v6 < (gi i (0 : Int).toNat)) →
∃ m7, m7 < m4 ∧ I3 m7 v5 (v4 + 1)))))) ∧
(¬ (v4 < (gi i (0 : Int).toNat)) →
R v3))))))))))))))))))))
theorem pok_r11_ends {O : Nat → Prop} {w : World} {d i Ai li ci} {R : (List (Int × Int)) → Prop} (h : yaX d i R) (hO : ∀ k, O k → k < w.heap.size) (hA0 : (FP.sl cI Ai li ci i).P O w) :
    Calls Try.prog 79 #[(ii d), (.slice Ai li ci)] w fun e w' => ∃ r9 Ar9 lr9 cr9, e = .returned (.slice Ar9 lr9 cr9) ∧ Sep w no O w' (rl [Res.own c2 59 Ar9 lr9 cr9 r9]) ∧ R r9 := by
  unfold yaX at h; have hS : Sep w no O w (rl [Res.ro (FP.sl cI Ai li ci i)]) := Sep.startl hO [(FP.sl cI Ai li ci i)] ⟨hA0, trivial⟩; refine yay (l := [(ii d), (.slice Ai li ci)]) func79 rfl ntmps79 (Nat.le_of_ble_eq_true rfl) (zs (zq (za (.slice none 0 0)) (yaa (zs (zq (zm (.slice Ai li ci)) ?_))))); obtain ⟨hx, h⟩ := h; refine zq (zi underlying22 yai (yaF (hS.rdr 0 rfl) hx)) (zq (yaw (v := (ii (gi i (0 : Int).toNat))) rfl underlying3 rfl (rd_1 (hS.rdr 0 rfl) hx (fun q => yar q) rfl)) ?_); refine zq (za (ii (gi i (0 : Int).toNat))) (yaa (yag (zs (zq (zm (ii d)) (yaa (yam (zs (zq zE (zq (za (.bool (decide (d = 0)))) (yaa ?_)))))))))); by_cases hp : d = 0
  · replace h := h.1 hp; refine zc hp (zs (zq (zm (ii (gi i (0 : Int).toNat))) ?_)); obtain ⟨hi, h⟩ := h; refine zq (zS hi) (zn (yap rfl (am2 rfl rfl) enter_95 ((yei h (yaM _)).mono ?_))); rintro _ w2 ⟨r, Ar, lr, cr, rfl, hC, h⟩; replace hS := hS.call1 (hC.widen (ybt (yaB (fP (fI .i64) (fI .i64)) _ _ _ _ _) ybu) hS.blt) 1 0 rfl; clear hC; refine ⟨_, rfl, ?_⟩; exact zb (zq (za (.slice Ar lr cr)) (yaa (yas rfl rfl ⟨_, _, _, _, rfl, (hS.sel [1] (by decide)), h⟩)))
  · replace h := h.2 hp; refine zd hp (zs (zq zE (zq (za (.bool (decide (d = 1)))) (yaa ?_)))); by_cases hp2 : d = 1
    · replace h := h.1 hp2; refine zc hp2 (zs (zq (zm (ii (gi i (0 : Int).toNat))) ?_)); obtain ⟨hi2, h⟩ := h; refine zq (zS hi2) (zn (yap rfl (am2 rfl rfl) enter_95 ((yei h (yaM _)).mono ?_))); rintro _ w3 ⟨r2, Ar2, lr2, cr2, rfl, hC, h⟩; replace hS := hS.call1 (hC.widen (ybt (yaB (fP (fI .i64) (fI .i64)) _ _ _ _ _) ybu) hS.blt) 1 0 rfl; clear hC; refine ⟨_, rfl, ?_⟩; refine zb (zq (zm (ii (gi i (0 : Int).toNat))) (zq (zS hi2) (zn (ya2 (l := [(0, (ii ((gi i (0 : Int).toNat) - 1))), (1, (ii 0))]) (cells := [(ii ((gi i (0 : Int).toNat) - 1)), (ii 0)]) (bp2 rfl rfl) underlying59 yaA yai (by kernel_rfl) ?_)))); refine zb (zn (yaD (l := [(0, (.agg #[(ii ((gi i (0 : Int).toNat) - 1)), (ii 0)]))]) (cells := [(ii ((gi i (0 : Int).toNat) - 1)), (ii 0)]) (bp1 rfl) underlying57 yaA rfl rfl ?_)); intro g w4 hN; replace hS := hS.litf (n := 1) 2 rfl (fP (fI .i64) (fI .i64)) hN ([((gi i (0 : Int).toNat) - 1, 0)] : List (Int × Int)) rfl (by decide) rfl; clear hN; refine zb ?_; obtain ⟨hx2, h⟩ := h; refine zn (ycB (c := c2) rfl rfl underlying57 underlying57 yaA rfl rfl (by decide) hS 1 rfl (hS.yo 2 rfl) hx2 ?_); clear hS; intro A c w5 hS; exact zb (zq (za (.slice A (lr2 + 1) c)) (yaa (yas rfl rfl ⟨_, _, _, _, rfl, (hS.sel [1] (by decide)), h⟩)))
    · replace h := h.2 hp2; refine zd hp2 (zs (zq zE (zq (za (.bool (decide (d = 2)))) (yaa ?_)))); by_cases hp3 : d = 2
      · replace h := h.1 hp3; refine zc hp3 (zs (zq (zm (ii (gi i (0 : Int).toNat))) (zn (yap rfl (am2 rfl rfl) enter_96 ((ydo h (yaM _)).mono ?_))))); rintro _ w6 ⟨r3, Ar3, lr3, cr3, rfl, hC, h⟩; replace hS := hS.call1 (hC.widen (ybt (yaB (fP (fI .i64) (fI .i64)) _ _ _ _ _) ybu) hS.blt) 1 0 rfl; clear hC; refine ⟨_, rfl, ?_⟩; exact zb (zq (za (.slice Ar3 lr3 cr3)) (yaa (yas rfl rfl ⟨_, _, _, _, rfl, (hS.sel [1] (by decide)), h⟩)))
      · replace h := h.2 hp3; refine zd hp3 (zs (zq zE (zq (za (.bool (decide (d = 4)))) (yaa ?_)))); by_cases hp4 : d = 4
        · replace h := h.1 hp4; refine zc hp4 (zs (zn (yaD (l := []) (cells := []) (bp0) underlying57 yaA rfl rfl ?_))); intro g2 w7 hN; replace hS := hS.litf (n := 0) 1 rfl (fP (fI .i64) (fI .i64)) hN ([] : List (Int × Int)) rfl (by decide) rfl; clear hN; refine zb (zq (za (.slice (some ⟨g2, 0, none⟩) 0 0)) (yaa (yag (zs (zq (za (ii 0)) (yaa (yam ?_))))))); obtain ⟨I2, ⟨m0, h0⟩, hr⟩ := h; refine yaL (fun m E ds w' => ∃ v v2 Av lv cv, I2 m v v2 ∧ ds = [] ∧ E 5 = (ii (gi i (0 : Int).toNat)) ∧ E 6 = (Value.slice Av lv cv) ∧ E 7 = (ii v2) ∧ Sep w no O w' (rl [Res.own c2 59 Av lv cv v])) m0 ⟨_, _, _, _, _, h0, rfl, rfl, rfl, rfl, (hS.sel [1] (by decide))⟩ ?_; clear h0 hS; rintro m2 E ds w8 ⟨v, v2, Av, lv, cv, h, rfl, hE5, hE6, hE7, hS⟩ again; replace h := hr m2 v v2 h; clear hr; refine yag (zs (zq (yae hE7) (zq (yae (v := (ii (gi i (0 : Int).toNat))) hE5) (zq zL (yaa ?_))))); by_cases hp5 : v2 < (gi i (0 : Int).toNat)
          · replace h := h.1 hp5; refine zc hp5 (yak (yag (yam (zr (zq (yae hE6) (zn (ya2 (l := [(0, (ii 0)), (1, (ii 1))]) (cells := [(ii 0), (ii 1)]) (bp2 rfl rfl) underlying59 yaA yai (by kernel_rfl) ?_))))))); refine zb (zn (yaD (l := [(0, (.agg #[(ii 0), (ii 1)]))]) (cells := [(ii 0), (ii 1)]) (bp1 rfl) underlying57 yaA rfl rfl ?_)); intro g3 w9 hN; replace hS := hS.litf (n := 1) 1 rfl (fP (fI .i64) (fI .i64)) hN ([(0, 1)] : List (Int × Int)) rfl (by decide) rfl; clear hN; refine zb ?_; obtain ⟨hx3, h⟩ := h; refine zn (ycB (c := c2) rfl rfl underlying57 underlying57 yaA rfl rfl (by decide) hS 0 rfl (hS.yo 1 rfl) hx3 ?_); clear hS; intro A2 c2 w10 hS; refine zb (zq (za (.slice A2 (lv + 1) c2)) (yaa (yan (zr (zq (yae hE7) ?_))))); obtain ⟨hi4, h⟩ := h; refine zq (zA hi4) (zq (za (ii (v2 + 1))) (yaa ?_)); obtain ⟨mq, hlt, h⟩ := h; exact again mq _ _ _ ⟨_, _, _, _, _, h, rfl, hE5, rfl, rfl, (hS.sel [0] (by decide))⟩ hlt
          · replace h := h.2 hp5; exact zd hp5 (yaJ rfl (zs (zq (yae hE6) (zq (za (.slice Av lv cv)) (yaa (yas rfl rfl ⟨_, _, _, _, rfl, (hS.sel [0] (by decide)), h⟩))))))
        · replace h := h.2 hp4; refine zd hp4 (zs (zq zE (zq (za (.bool (decide (d = 5)))) (yaa ?_)))); by_cases hp6 : d = 5
          · replace h := h.1 hp6; refine zc hp6 (zs (zq (zm (ii (gi i (0 : Int).toNat))) (zn (yap rfl (am2 rfl rfl) enter_96 ((ydo h (yaM _)).mono ?_))))); rintro _ w11 ⟨r4, Ar4, lr4, cr4, rfl, hC, h⟩; replace hS := hS.call1 (hC.widen (ybt (yaB (fP (fI .i64) (fI .i64)) _ _ _ _ _) ybu) hS.blt) 1 0 rfl; clear hC; refine ⟨_, rfl, ?_⟩; refine zb (zq (zm (ii (gi i (0 : Int).toNat))) (zn (yap rfl (am2 rfl rfl) enter_95 ((yei h (yaM _)).mono ?_)))); rintro _ w12 ⟨r5, Ar5, lr5, cr5, rfl, hC, h⟩; replace hS := hS.call1 (hC.widen (ybt (yaB (fP (fI .i64) (fI .i64)) _ _ _ _ _) ybu) hS.blt) 2 0 rfl; clear hC; refine ⟨_, rfl, ?_⟩; refine zb ?_; obtain ⟨hx4, h⟩ := h; refine zn (ycB (c := c2) rfl rfl underlying57 underlying57 yaA rfl rfl (by decide) hS 1 rfl (hS.yo 2 rfl) hx4 ?_); clear hS; intro A3 c3 w13 hS; refine zb (zq (zm (ii (gi i (0 : Int).toNat))) (zn (ya2 (l := [(0, (ii (gi i (0 : Int).toNat))), (1, (ii 1))]) (cells := [(ii (gi i (0 : Int).toNat)), (ii 1)]) (bp2 rfl rfl) underlying59 yaA yai (by kernel_rfl) ?_))); refine zb (zn (yaD (l := [(0, (.agg #[(ii (gi i (0 : Int).toNat)), (ii 1)]))]) (cells := [(ii (gi i (0 : Int).toNat)), (ii 1)]) (bp1 rfl) underlying57 yaA rfl rfl ?_)); intro g4 w14 hN; replace hS := hS.litf (n := 1) 3 rfl (fP (fI .i64) (fI .i64)) hN ([(gi i (0 : Int).toNat, 1)] : List (Int × Int)) rfl (by decide) rfl; clear hN; refine zb ?_; obtain ⟨hx5, h⟩ := h; refine zn (ycB (c := c2) rfl rfl underlying57 underlying57 yaA rfl rfl (by decide) hS 1 rfl (hS.yo 3 rfl) hx5 ?_); clear hS; intro A4 c4 w15 hS; exact zb (zq (za (.slice A4 ((lr4 + lr5) + 1) c4)) (yaa (yas rfl rfl ⟨_, _, _, _, rfl, (hS.sel [1] (by decide)), h⟩)))
          · replace h := h.2 hp6; refine zd hp6 (zs (zq zE (zq (za (.bool (decide (d = 6)))) (yaa ?_)))); by_cases hp7 : d = 6
            · replace h := h.1 hp7; refine zc hp7 (zs (zq (zm (ii (gi i (0 : Int).toNat))) (zq (zm (.slice Ai li ci)) ?_))); obtain ⟨hx6, h⟩ := h; refine zq (zi underlying22 yai (yaF (hS.rdr 0 rfl) hx6)) (zq (yaw (v := (ii (gi i (1 : Int).toNat))) rfl underlying3 rfl (rd_1 (hS.rdr 0 rfl) hx6 (fun q => yar q) rfl)) ?_); refine zn (yap rfl (am2 rfl rfl) enter_96 ((ydo h (yaM _)).mono ?_)); rintro _ w16 ⟨r6, Ar6, lr6, cr6, rfl, hC, h⟩; replace hS := hS.call1 (hC.widen (ybt (yaB (fP (fI .i64) (fI .i64)) _ _ _ _ _) ybu) hS.blt) 1 0 rfl; clear hC; refine ⟨_, rfl, ?_⟩; exact zb (zq (za (.slice Ar6 lr6 cr6)) (yaa (yas rfl rfl ⟨_, _, _, _, rfl, (hS.sel [1] (by decide)), h⟩)))
            · replace h := h.2 hp7; refine zd hp7 (zs (zq zE (zq (za (.bool (decide (d = 7)))) (yaa ?_)))); by_cases hp8 : d = 7
              · replace h := h.1 hp8; refine zc hp8 (zs (zq (zm (ii (gi i (0 : Int).toNat))) (zq (zm (.slice Ai li ci)) ?_))); obtain ⟨hx7, h⟩ := h; refine zq (zi underlying22 yai (yaF (hS.rdr 0 rfl) hx7)) (zq (yaw (v := (ii (gi i (1 : Int).toNat))) rfl underlying3 rfl (rd_1 (hS.rdr 0 rfl) hx7 (fun q => yar q) rfl)) ?_); refine zn (yap rfl (am2 rfl rfl) enter_97 ((yfK h (yaM _)).mono ?_)); rintro _ w17 ⟨r7, Ar7, lr7, cr7, rfl, hC, h⟩; replace hS := hS.call1 (hC.widen (ybt (yaB (fP (fI .i64) (fI .i64)) _ _ _ _ _) ybu) hS.blt) 1 0 rfl; clear hC; refine ⟨_, rfl, ?_⟩; exact zb (zq (za (.slice Ar7 lr7 cr7)) (yaa (yas rfl rfl ⟨_, _, _, _, rfl, (hS.sel [1] (by decide)), h⟩)))
              · replace h := h.2 hp8; refine zd hp8 (zs (zq zE (zq (za (.bool (decide (d = 8)))) (yaa ?_)))); by_cases hp9 : d = 8
                · replace h := h.1 hp9; refine zc hp9 (zs (zq (zm (.slice Ai li ci)) (zn (yap rfl (am1 rfl) enter_98 ((yfr h (yaM _) (hS.rdr 0 rfl)).mono ?_))))); rintro _ w18 ⟨r8, Ar8, lr8, cr8, rfl, hC, h⟩; replace hS := hS.call1 (hC.widen (ybt (yaB (fP (fI .i64) (fI .i64)) _ _ _ _ _) ybu) hS.blt) 1 0 rfl; clear hC; refine ⟨_, rfl, ?_⟩; exact zb (zq (za (.slice Ar8 lr8 cr8)) (yaa (yas rfl rfl ⟨_, _, _, _, rfl, (hS.sel [1] (by decide)), h⟩)))
                · replace h := h.2 hp9; refine zd hp9 (yak (yan (zs (zq (za (.slice none 0 0)) (yaa (yag (zs (zq (za (ii 0)) (yaa (yam ?_)))))))))); replace hS := hS.nil 1 rfl c2 59; obtain ⟨I3, ⟨m0, h0⟩, hr⟩ := h; refine yaL (fun m E ds w' => ∃ v3 v4 Av2 lv2 cv2, I3 m v3 v4 ∧ ds = [] ∧ E 5 = (ii (gi i (0 : Int).toNat)) ∧ E 8 = (Value.slice Av2 lv2 cv2) ∧ E 9 = (ii v4) ∧ Sep w no O w' (rl [Res.own c2 59 Av2 lv2 cv2 v3])) m0 ⟨_, _, _, _, _, h0, rfl, rfl, rfl, rfl, (hS.sel [1] (by decide))⟩ ?_; clear h0 hS; rintro m4 E ds w19 ⟨v3, v4, Av2, lv2, cv2, h, rfl, hE5, hE8, hE9, hS⟩ again2; replace h := hr m4 v3 v4 h; clear hr; refine yag (zs (zq (yae hE9) (zq (yae (v := (ii (gi i (0 : Int).toNat))) hE5) (zq zL (yaa ?_))))); by_cases hp10 : v4 < (gi i (0 : Int).toNat)
                  · replace h := h.1 hp10; refine zc hp10 (yak (yag (yam (zs (zq (yae hE9) ?_))))); obtain ⟨hi5, h⟩ := h; refine zq (zA hi5) (zq (za (ii (v4 + 1))) (yaa (yam ?_))); obtain ⟨I4, ⟨m0, h0⟩, hr⟩ := h; refine yaL (fun m E ds w' => ∃ v5 v6 Av3 lv3 cv3, I4 m v5 v6 ∧ ds = [] ∧ E 5 = (ii (gi i (0 : Int).toNat)) ∧ E 8 = (Value.slice Av3 lv3 cv3) ∧ E 9 = (ii v4) ∧ E 10 = (ii v6) ∧ Sep w no O w' (rl [Res.own c2 59 Av3 lv3 cv3 v5])) m0 ⟨_, _, _, _, _, h0, rfl, hE5, hE8, hE9, rfl, (hS.sel [0] (by decide))⟩ ?_; clear h0 hS; rintro m5 E ds w20 ⟨v5, v6, Av3, lv3, cv3, h, rfl, hE5, hE8, hE9, hE10, hS⟩ again3; replace h := hr m5 v5 v6 h; clear hr; refine yag (zs (zq (yae hE10) (zq (yae (v := (ii (gi i (0 : Int).toNat))) hE5) (zq zL (yaa ?_))))); by_cases hp11 : v6 < (gi i (0 : Int).toNat)
                    · replace h := h.1 hp11; refine zc hp11 (yak (yag (yam (zr (zq (yae hE8) (zq (yae hE9) (zq (yae hE10) (zn (ya2 (l := [(0, (ii v4)), (1, (ii v6))]) (cells := [(ii v4), (ii v6)]) (bp2 rfl rfl) underlying59 yaA yai (by kernel_rfl) ?_))))))))); refine zb (zn (yaD (l := [(0, (.agg #[(ii v4), (ii v6)]))]) (cells := [(ii v4), (ii v6)]) (bp1 rfl) underlying57 yaA rfl rfl ?_)); intro g5 w21 hN; replace hS := hS.litf (n := 1) 1 rfl (fP (fI .i64) (fI .i64)) hN ([(v4, v6)] : List (Int × Int)) rfl (by decide) rfl; clear hN; refine zb ?_; obtain ⟨hx8, h⟩ := h; refine zn (ycB (c := c2) rfl rfl underlying57 underlying57 yaA rfl rfl (by decide) hS 0 rfl (hS.yo 1 rfl) hx8 ?_); clear hS; intro A5 c5 w22 hS; refine zb (zq (za (.slice A5 (lv3 + 1) c5)) (yaa (yan (zr (zq (yae hE10) ?_))))); obtain ⟨hi6, h⟩ := h; refine zq (zA hi6) (zq (za (ii (v6 + 1))) (yaa ?_)); obtain ⟨mq, hlt, h⟩ := h; exact again3 mq _ _ _ ⟨_, _, _, _, _, h, rfl, hE5, rfl, hE9, rfl, (hS.sel [0] (by decide))⟩ hlt
                    · replace h := h.2 hp11; refine zd hp11 (yaJ rfl (yan (zr (zq (yae hE9) (zq (zA hi5) (zq (za (ii (v4 + 1))) (yaa ?_))))))); obtain ⟨mq, hlt, h⟩ := h; exact again2 mq _ _ _ ⟨_, _, _, _, _, h, rfl, hE5, hE8, rfl, (hS.sel [0] (by decide))⟩ hlt
                  · replace h := h.2 hp10; exact zd hp10 (yaJ rfl (zs (zq (yae hE8) (zq (za (.slice Av2 lv2 cv2)) (yaa (yas rfl rfl ⟨_, _, _, _, rfl, (hS.sel [0] (by decide)), h⟩))))))
def ygL (a : Int) (n : Int) (R : Int → Prop) : Prop :=
(∃ I2 : Nat → Int → Int → Prop, (∃ m0, I2 m0 1 0) ∧ ∀ m2 out i, I2 m2 out i → 
((i < n →
(In64 (out * a) ∧
(In64 (i + 1) ∧
∃ m3, m3 < m2 ∧ I2 m3 (out * a) (i + 1)))) ∧
(¬ (i < n) →
R out)))
theorem ygZ {O : Nat → Prop} {w : World} {a n} {R : Int → Prop} (h : ygL a n R) (hO : ∀ k, O k → k < w.heap.size) :
    Calls Try.prog 43 #[(ii a), (ii n)] w fun e w' => ∃ r, e = .returned (ii r) ∧ Sep w no O w' (rl []) ∧ R r := by
  unfold ygL at h; have hS : Sep w no O w (rl []) := Sep.start w hO; refine yay (l := [(ii a), (ii n)]) func43 rfl ntmps43 (Nat.le_of_ble_eq_true rfl) (zs (zq (za (ii 0)) (yaa (zs (zq (za (ii 1)) (yaa (yag (zs (zq (za (ii 0)) (yaa (yam ?_))))))))))); obtain ⟨I2, ⟨m0, h0⟩, hr⟩ := h; refine yaL (fun m E ds w' => ∃ out i, I2 m out i ∧ ds = [] ∧ E 0 = (ii a) ∧ E 1 = (ii n) ∧ E 5 = (ii out) ∧ E 6 = (ii i) ∧ Sep w no O w' (rl [])) m0 ⟨_, _, h0, rfl, rfl, rfl, rfl, rfl, (hS.sel [] (by decide))⟩ ?_; clear h0 hS; rintro m2 E ds w2 ⟨out, i, h, rfl, hE0, hE1, hE5, hE6, hS⟩ again; replace h := hr m2 out i h; clear hr; refine yag (zs (zq (yae hE6) (zq (yae hE1) (zq zL (yaa ?_))))); by_cases hp : i < n
  · replace h := h.1 hp; refine zc hp (yak (yag (yam (zr (zq (yae hE5) (zq (yae hE0) ?_)))))); obtain ⟨hi, h⟩ := h; refine zq (yfm rfl rfl hi) (zq (za (ii (out * a))) (yaa (yan (zr (zq (yae hE6) ?_))))); obtain ⟨hi2, h⟩ := h; refine zq (zA hi2) (zq (za (ii (i + 1))) (yaa ?_)); obtain ⟨mq, hlt, h⟩ := h; exact again mq _ _ _ ⟨_, _, h, rfl, hE0, hE1, rfl, rfl, (hS.sel [] (by decide))⟩ hlt
  · replace h := h.2 hp; exact zd hp (yaJ rfl (zs (zq (yae hE5) (zq (za (ii out)) (yaa (yas rfl rfl ⟨_, rfl, (hS.sel [] (by decide)), h⟩))))))
def ygF (a : Int) (b : Int) (n : Int) (R : Int → Prop) : Prop :=
(∃ I2 : Nat → Int → Int → Int → Prop, (∃ m0, I2 m0 a b 0) ∧ ∀ m2 a2 b2 i, I2 m2 a2 b2 i → 
((i < n →
(In64 (a2 + b2) ∧
(In64 (i + 1) ∧
∃ m3, m3 < m2 ∧ I2 m3 b2 (a2 + b2) (i + 1)))) ∧
(¬ (i < n) →
R a2)))
theorem yg2 {O : Nat → Prop} {w : World} {a b n} {R : Int → Prop} (h : ygF a b n R) (hO : ∀ k, O k → k < w.heap.size) :
    Calls Try.prog 100 #[(ii a), (ii b), (ii n)] w fun e w' => ∃ r, e = .returned (ii r) ∧ Sep w no O w' (rl []) ∧ R r := by
  unfold ygF at h; have hS : Sep w no O w (rl []) := Sep.start w hO; refine yay (l := [(ii a), (ii b), (ii n)]) func100 rfl ntmps100 (Nat.le_of_ble_eq_true rfl) (zs (zq (za (ii 0)) (yaa (yag (zs (zq (za (ii 0)) (yaa (yam ?_)))))))); obtain ⟨I2, ⟨m0, h0⟩, hr⟩ := h; refine yaL (fun m E ds w' => ∃ a2 b2 i, I2 m a2 b2 i ∧ ds = [] ∧ E 0 = (ii a2) ∧ E 1 = (ii b2) ∧ E 2 = (ii n) ∧ E 7 = (ii i) ∧ Sep w no O w' (rl [])) m0 ⟨_, _, _, h0, rfl, rfl, rfl, rfl, rfl, (hS.sel [] (by decide))⟩ ?_; clear h0 hS; rintro m2 E ds w2 ⟨a2, b2, i, h, rfl, hE0, hE1, hE2, hE7, hS⟩ again; replace h := hr m2 a2 b2 i h; clear hr; refine yag (zs (zq (yae hE7) (zq (yae hE2) (zq zL (yaa ?_))))); by_cases hp : i < n
  · replace h := h.1 hp; refine zc hp (yak (yag (yam (zr (zq (yae hE1) (zq (yae hE0) (zq (yae hE1) ?_))))))); obtain ⟨hi, h⟩ := h; refine zq (zA hi) (zq (za (ii b2)) (zq (za (ii (a2 + b2))) (yaa (yan (zr (zq (yae hE7) ?_)))))); obtain ⟨hi2, h⟩ := h; refine zq (zA hi2) (zq (za (ii (i + 1))) (yaa ?_)); obtain ⟨mq, hlt, h⟩ := h; exact again mq _ _ _ ⟨_, _, _, h, rfl, rfl, rfl, hE2, rfl, (hS.sel [] (by decide))⟩ hlt
  · replace h := h.2 hp; exact zd hp (yaJ rfl (zs (zq (yae hE0) (zq (za (ii a2)) (yaa (yas rfl rfl ⟨_, rfl, (hS.sel [] (by decide)), h⟩))))))
def ygR (n : Int) (R : Int → Prop) : Prop :=
ygF 2 1 n (fun r =>
R r)
theorem yg0 {O : Nat → Prop} {w : World} {n} {R : Int → Prop} (h : ygR n R) (hO : ∀ k, O k → k < w.heap.size) :
    Calls Try.prog 83 #[(ii n)] w fun e w' => ∃ r2, e = .returned (ii r2) ∧ Sep w no O w' (rl []) ∧ R r2 := by
  unfold ygR at h; have hS : Sep w no O w (rl []) := Sep.start w hO; refine yay (l := [(ii n)]) func83 rfl ntmps83 (Nat.le_of_ble_eq_true rfl) (zs (zq (za (ii 0)) (yaa (zs (zq (zm (ii n)) (zn (yap rfl (am3 rfl rfl rfl) enter_100 ((yg2 h (yaM _)).mono ?_)))))))); rintro _ w2 ⟨r, rfl, hC, h⟩; replace hS := hS.pur hC.pure; clear hC; refine ⟨_, rfl, ?_⟩; exact zb (zq (za (ii r)) (yaa (yas rfl rfl ⟨_, rfl, (hS.sel [] (by decide)), h⟩)))
def ygK (n : Int) (R : Int → Prop) : Prop :=
ygF 0 1 n (fun r =>
R r)
theorem ygX {O : Nat → Prop} {w : World} {n} {R : Int → Prop} (h : ygK n R) (hO : ∀ k, O k → k < w.heap.size) :
    Calls Try.prog 85 #[(ii n)] w fun e w' => ∃ r2, e = .returned (ii r2) ∧ Sep w no O w' (rl []) ∧ R r2 := by
  unfold ygK at h; have hS : Sep w no O w (rl []) := Sep.start w hO; refine yay (l := [(ii n)]) func85 rfl ntmps85 (Nat.le_of_ble_eq_true rfl) (zs (zq (za (ii 0)) (yaa (zs (zq (zm (ii n)) (zn (yap rfl (am3 rfl rfl rfl) enter_100 ((yg2 h (yaM _)).mono ?_)))))))); rintro _ w2 ⟨r, rfl, hC, h⟩; replace hS := hS.pur hC.pure; clear hC; refine ⟨_, rfl, ?_⟩; exact zb (zq (za (ii r)) (yaa (yas rfl rfl ⟨_, rfl, (hS.sel [] (by decide)), h⟩)))
def ygY (a : Int) (b : Int) (R : Int → Prop) : Prop :=
(∃ I2 : Nat → Int → Prop, (∃ m0, I2 m0 (mnF a b)) ∧ ∀ m2 d, I2 m2 d → 
(d ≠ 0 ∧
(((a.tmod d) = 0 →
(((b.tmod d) = 0 →
R d) ∧
(¬ ((b.tmod d) = 0) →
(In64 (d - 1) ∧
∃ m3, m3 < m2 ∧ I2 m3 (d - 1))))) ∧
(¬ ((a.tmod d) = 0) →
(In64 (d - 1) ∧
∃ m4, m4 < m2 ∧ I2 m4 (d - 1))))))
theorem yhs {O : Nat → Prop} {w : World} {a b} {R : Int → Prop} (h : ygY a b R) (hO : ∀ k, O k → k < w.heap.size) :
    Calls Try.prog 86 #[(ii a), (ii b)] w fun e w' => ∃ r, e = .returned (ii r) ∧ Sep w no O w' (rl []) ∧ R r := by
  unfold ygY at h; have hS : Sep w no O w (rl []) := Sep.start w hO; refine yay (l := [(ii a), (ii b)]) func86 rfl ntmps86 (Nat.le_of_ble_eq_true rfl) (zs (zq (za (ii 0)) (yaa (zs (zq (zm (ii a)) (zq (zm (ii b)) (zq (v_min2 rfl rfl) (zq (za (ii (mnF a b))) (yaa (yag (yam ?_))))))))))); obtain ⟨I2, ⟨m0, h0⟩, hr⟩ := h; refine yaL (fun m E ds w' => ∃ d, I2 m d ∧ ds = [] ∧ E 0 = (ii a) ∧ E 1 = (ii b) ∧ E 5 = (ii d) ∧ Sep w no O w' (rl [])) m0 ⟨_, h0, rfl, rfl, rfl, rfl, (hS.sel [] (by decide))⟩ ?_; clear h0 hS; rintro m2 E ds w2 ⟨d, h, rfl, hE0, hE1, hE5, hS⟩ again; replace h := hr m2 d h; clear hr; refine yag (zs (zq (yae hE0) (zq (yae hE5) ?_))); obtain ⟨hz, h⟩ := h; refine zq (v_rem rfl rfl hz) (zq zN (zq (zm (.bool (!(decide ((a.tmod d) = 0))))) ?_)); by_cases hp : (a.tmod d) = 0
  · replace h := h.1 hp; refine rl_q (yac rfl (yad rfl (congrArg Value.bool (congrArg Bool.not (decide_eq_true hp))))) rfl rfl (yae hE1) (rl_q (yac rfl (yad rfl (congrArg Value.bool (congrArg Bool.not (decide_eq_true hp))))) rfl rfl (yae hE5) (rl_q (yac rfl (yad rfl (congrArg Value.bool (congrArg Bool.not (decide_eq_true hp))))) rfl rfl (v_rem rfl rfl hz) (rl_q (yac rfl (yad rfl (congrArg Value.bool (congrArg Bool.not (decide_eq_true hp))))) rfl rfl zN (zq (yav (v := (.bool (!(decide ((b.tmod d) = 0))))) (congrArg Value.bool (congrArg Bool.not (decide_eq_true hp))) rfl) (yaa ?_))))); by_cases hp2 : (b.tmod d) = 0
    · replace h := h.1 hp2; exact ze hp2 (yaJ rfl (zs (zq (yae hE5) (zq (za (ii d)) (yaa (yas rfl rfl ⟨_, rfl, (hS.sel [] (by decide)), h⟩))))))
    · replace h := h.2 hp2; refine zf hp2 (yak (yam (zr (zq (yae hE5) ?_)))); obtain ⟨hi, h⟩ := h; refine zq (zS hi) (zq (za (ii (d - 1))) (yaa (yan ?_))); obtain ⟨mq, hlt, h⟩ := h; exact again mq _ _ _ ⟨_, h, rfl, hE0, hE1, rfl, (hS.sel [] (by decide))⟩ hlt
  · replace h := h.2 hp; refine rl_p (yab rfl (yad rfl (congrArg Value.bool (congrArg Bool.not (decide_eq_false hp)))) rfl) rfl (rl_p (yab rfl (yad rfl (congrArg Value.bool (congrArg Bool.not (decide_eq_false hp)))) rfl) rfl (rl_p (yab rfl (yad rfl (congrArg Value.bool (congrArg Bool.not (decide_eq_false hp)))) rfl) rfl (rl_p (yab rfl (yad rfl (congrArg Value.bool (congrArg Bool.not (decide_eq_false hp)))) rfl) rfl (zq (yau (v := (.bool (true))) (congrArg Value.bool (congrArg Bool.not (decide_eq_false hp))) rfl) (yaa (yaz rfl (yak (yam (zr (zq (yae hE5) ?_)))))))))); obtain ⟨hi2, h⟩ := h; refine zq (zS hi2) (zq (za (ii (d - 1))) (yaa (yan ?_))); obtain ⟨mq, hlt, h⟩ := h; exact again mq _ _ _ ⟨_, h, rfl, hE0, hE1, rfl, (hS.sel [] (by decide))⟩ hlt
def ygD (kind : Int) (l : List Int) (R : Int → Prop) : Prop :=
((0 ≤ (0 : Int) ∧ (0 : Int) < ((l.length : Nat) : Int)) ∧
(∃ J2 : Bool → Prop, (∀ (v : Bool), J2 v → ((v = true →
R (gi l (0 : Int).toNat)) ∧
(¬ (v = true) →
((kind = 3 →
(In64 ((gi l (0 : Int).toNat) - 2) ∧
ygL (gi l (0 : Int).toNat) (mxF ((gi l (0 : Int).toNat) - 2) 0) (fun r =>
R r))) ∧
(¬ (kind = 3) →
((kind = 5 →
(In64 (2 * (gi l (0 : Int).toNat)) ∧
ygR (2 * (gi l (0 : Int).toNat)) (fun r2 =>
(In64 (r2 - 2) ∧
R (r2 - 2))))) ∧
(¬ (kind = 5) →
((kind = 6 →
((0 ≤ (1 : Int) ∧ (1 : Int) < ((l.length : Nat) : Int)) ∧
(In64 ((gi l (1 : Int).toNat) - 1) ∧
(In64 ((gi l (0 : Int).toNat) - 1) ∧
ygL (gi l (0 : Int).toNat) ((gi l (1 : Int).toNat) - 1) (fun r3 =>
ygL (gi l (1 : Int).toNat) ((gi l (0 : Int).toNat) - 1) (fun r4 =>
(In64 (r3 * r4) ∧
R (r3 * r4)))))))) ∧
(¬ (kind = 6) →
((kind = 8 →
((0 ≤ (1 : Int) ∧ (1 : Int) < ((l.length : Nat) : Int)) ∧
(In64 ((gi l (0 : Int).toNat) * (gi l (1 : Int).toNat)) ∧
((0 ≤ (2 : Int) ∧ (2 : Int) < ((l.length : Nat) : Int)) ∧
(In64 ((gi l (0 : Int).toNat) * (gi l (2 : Int).toNat)) ∧
(In64 (((gi l (0 : Int).toNat) * (gi l (1 : Int).toNat)) + ((gi l (0 : Int).toNat) * (gi l (2 : Int).toNat))) ∧
(In64 ((gi l (1 : Int).toNat) * (gi l (2 : Int).toNat)) ∧
(In64 ((((gi l (0 : Int).toNat) * (gi l (1 : Int).toNat)) + ((gi l (0 : Int).toNat) * (gi l (2 : Int).toNat))) + ((gi l (1 : Int).toNat) * (gi l (2 : Int).toNat))) ∧
R ((((gi l (0 : Int).toNat) * (gi l (1 : Int).toNat)) + ((gi l (0 : Int).toNat) * (gi l (2 : Int).toNat))) + ((gi l (1 : Int).toNat) * (gi l (2 : Int).toNat))))))))))) ∧
(¬ (kind = 8) →
R 1))))))))))) ∧
((kind = 1 →
J2 (decide (kind = 1))) ∧
(¬ (kind = 1) →
J2 (decide (kind = 4))))))
theorem yg3 {O : Nat → Prop} {w : World} {kind l Al ll cl} {R : Int → Prop} (h : ygD kind l R) (hO : ∀ k, O k → k < w.heap.size) (hA0 : (FP.sl cI Al ll cl l).P O w) :
    Calls Try.prog 39 #[(ii kind), (.slice Al ll cl)] w fun e w' => ∃ r5, e = .returned (ii r5) ∧ Sep w no O w' (rl []) ∧ R r5 := by
  unfold ygD at h; have hS : Sep w no O w (rl [Res.ro (FP.sl cI Al ll cl l)]) := Sep.startl hO [(FP.sl cI Al ll cl l)] ⟨hA0, trivial⟩; refine yay (l := [(ii kind), (.slice Al ll cl)]) func39 rfl ntmps39 (Nat.le_of_ble_eq_true rfl) (zs (zq (za (ii 0)) (yaa (zs (zq (zm (.slice Al ll cl)) ?_))))); obtain ⟨hx, h⟩ := h; refine zq (zi underlying22 yai (yaF (hS.rdr 0 rfl) hx)) (zq (yaw (v := (ii (gi l (0 : Int).toNat))) rfl underlying3 rfl (rd_1 (hS.rdr 0 rfl) hx (fun q => yar q) rfl)) ?_); refine zq (za (ii (gi l (0 : Int).toNat))) (yaa (yag (zs (zq (zm (ii kind)) (yaa (yam (yag (zs (zq zE (zq (za (.bool (decide (kind = 1)))) (yaa ?_))))))))))); obtain ⟨J2, hJ, h⟩ := h; refine yf1 (fun E ds w' => ∃ v, J2 v ∧ ds = [] ∧ E 1 = (Value.slice Al ll cl) ∧ E 5 = (ii (gi l (0 : Int).toNat)) ∧ E 9 = (ii kind) ∧ E 10 = (Value.bool (v)) ∧ Sep w no O w' (rl [Res.ro (FP.sl cI Al ll cl l)])) ?_ ?_
  · clear h hS; rintro E ds w2 ⟨v, h, rfl, hE1, hE5, hE9, hE10, hS⟩; replace h := hJ v h; by_cases hp : v = true
    · replace h := h.1 hp; exact yaz ((hE10).trans (congrArg Value.bool hp)) (zs (zq (yae (v := (ii (gi l (0 : Int).toNat))) hE5) (zq (za (ii (gi l (0 : Int).toNat))) (yaa (yas rfl rfl ⟨_, rfl, (hS.sel [] (by decide)), h⟩)))))
    · replace h := h.2 hp; refine yaQ ((hE10).trans (congrArg Value.bool (Bool.eq_false_iff.2 hp))) (zs (zq (yhj hE9 rfl) (zq (za (.bool (decide (kind = 3)))) (yaa ?_)))); by_cases hp2 : kind = 3
      · replace h := h.1 hp2; refine zc hp2 (zs (zq (yae (v := (ii (gi l (0 : Int).toNat))) hE5) (zq (yae (v := (ii (gi l (0 : Int).toNat))) hE5) ?_))); obtain ⟨hi, h⟩ := h; refine zq (zS hi) (zq (v_max2 rfl rfl) (zn (yap rfl (am2 rfl rfl) enter_43 ((ygZ h (yaM _)).mono ?_)))); rintro _ w3 ⟨r, rfl, hC, h⟩; replace hS := hS.pur hC.pure; clear hC; refine ⟨_, rfl, ?_⟩; exact zb (zq (za (ii r)) (yaa (yas rfl rfl ⟨_, rfl, (hS.sel [] (by decide)), h⟩)))
      · replace h := h.2 hp2; refine zd hp2 (zs (zq (yhj hE9 rfl) (zq (za (.bool (decide (kind = 5)))) (yaa ?_)))); by_cases hp3 : kind = 5
        · replace h := h.1 hp3; refine zc hp3 (zs (zq (yae (v := (ii (gi l (0 : Int).toNat))) hE5) ?_)); obtain ⟨hi2, h⟩ := h; refine zq (yfm rfl rfl hi2) (zn (yap rfl (am1 rfl) enter_83 ((yg0 h (yaM _)).mono ?_))); rintro _ w4 ⟨r2, rfl, hC, h⟩; replace hS := hS.pur hC.pure; clear hC; refine ⟨_, rfl, ?_⟩; refine zb ?_; obtain ⟨hi3, h⟩ := h; exact zq (zS hi3) (zq (za (ii (r2 - 2))) (yaa (yas rfl rfl ⟨_, rfl, (hS.sel [] (by decide)), h⟩)))
        · replace h := h.2 hp3; refine zd hp3 (zs (zq (yhj hE9 rfl) (zq (za (.bool (decide (kind = 6)))) (yaa ?_)))); by_cases hp4 : kind = 6
          · replace h := h.1 hp4; refine zc hp4 (yag (ya6 [0, 1, 2, 3, 4, 6, 7, 8, 9, 10, 5, 11, 12, 13] (fun i => match i with | 5 => [6, 7, 8, 9, 10] | _ => []) yaS (by kernel_rfl) (by kernel_rfl) ?_)); replace hS := hS.drew; refine zp (yae (v := (ii (gi l (0 : Int).toNat))) hE5) (zp (yae hE1) ?_); obtain ⟨hx2, h⟩ := h; refine zp (zi underlying22 yai (yaF (hS.rdr 0 rfl) hx2)) (zp (yaw (v := (ii (gi l (1 : Int).toNat))) rfl underlying3 rfl (rd_1 (hS.rdr 0 rfl) hx2 (fun q => yar q) rfl)) ?_); obtain ⟨hi4, h⟩ := h; refine zp (zS hi4) (zp (yae hE1) (zp (zi underlying22 yai (yaF (hS.rdr 0 rfl) hx2)) (zp (yaw (v := (ii (gi l (1 : Int).toNat))) rfl underlying3 rfl (rd_1 (hS.rdr 0 rfl) hx2 (fun q => yar q) rfl)) ?_))); refine zp (yae (v := (ii (gi l (0 : Int).toNat))) hE5) ?_; obtain ⟨hi5, h⟩ := h; refine zp (zS hi5) (rp_n rfl rfl rfl rfl (yap rfl (am2 rfl rfl) enter_43 ((ygZ h (yaM _)).mono ?_))); rintro _ w5 ⟨r3, rfl, hC, h⟩; replace hS := hS.pur hC.pure; clear hC; refine ⟨_, rfl, ?_⟩; refine ⟨⟨fun _ => (zS hi5), ⟨fun _ => (yae (v := (ii (gi l (0 : Int).toNat))) hE5), ⟨fun _ => (yaw (v := (ii (gi l (1 : Int).toNat))) rfl underlying3 rfl (rd_1 (hS.rdr 0 rfl) hx2 (fun q => yar q) rfl)), ⟨fun _ => (zi underlying22 yai (yaF (hS.rdr 0 rfl) hx2)), ⟨fun _ => (yae hE1), ⟨fun hh => Bool.noConfusion (show false = true from hh), ⟨fun hh => Bool.noConfusion (show false = true from hh), ⟨fun hh => Bool.noConfusion (show false = true from hh), ⟨fun hh => Bool.noConfusion (show false = true from hh), ⟨fun hh => Bool.noConfusion (show false = true from hh), trivial⟩⟩⟩⟩⟩⟩⟩⟩⟩⟩, ?_⟩; refine rp_n rfl rfl rfl rfl (yap rfl (am2 rfl rfl) enter_43 ((ygZ h (yaM _)).mono ?_)); rintro _ w6 ⟨r4, rfl, hC, h⟩; replace hS := hS.pur hC.pure; clear hC; refine ⟨_, rfl, ?_⟩; refine zb ?_; obtain ⟨hi6, h⟩ := h; exact zp (yfm rfl rfl hi6) (zp (za (ii (r3 * r4))) (ybk (yas rfl rfl ⟨_, rfl, (hS.sel [] (by decide)), h⟩)))
          · replace h := h.2 hp4; refine zd hp4 (zs (zq (yhj hE9 rfl) (zq (za (.bool (decide (kind = 8)))) (yaa ?_)))); by_cases hp5 : kind = 8
            · replace h := h.1 hp5; refine zc hp5 (yag (ya6 [0, 1, 2, 3, 4, 5, 6, 7, 8, 9, 10, 11, 12, 13, 14, 15, 16, 17, 18, 19] st0 yaS (by kernel_rfl) (by kernel_rfl) ?_)); replace hS := hS.drew; refine zp (yae (v := (ii (gi l (0 : Int).toNat))) hE5) (zp (yae hE1) ?_); obtain ⟨hx3, h⟩ := h; refine zp (zi underlying22 yai (yaF (hS.rdr 0 rfl) hx3)) (zp (yaw (v := (ii (gi l (1 : Int).toNat))) rfl underlying3 rfl (rd_1 (hS.rdr 0 rfl) hx3 (fun q => yar q) rfl)) ?_); obtain ⟨hi7, h⟩ := h; refine zp (yfm rfl rfl hi7) (zp (yae (v := (ii (gi l (0 : Int).toNat))) hE5) (zp (yae hE1) ?_)); obtain ⟨hx4, h⟩ := h; refine zp (zi underlying22 yai (yaF (hS.rdr 0 rfl) hx4)) (zp (yaw (v := (ii (gi l (2 : Int).toNat))) rfl underlying3 rfl (rd_1 (hS.rdr 0 rfl) hx4 (fun q => yar q) rfl)) ?_); obtain ⟨hi8, h⟩ := h; refine zp (yfm rfl rfl hi8) ?_; obtain ⟨hi9, h⟩ := h; refine zp (zA hi9) (zp (yae hE1) (zp (zi underlying22 yai (yaF (hS.rdr 0 rfl) hx3)) (zp (yaw (v := (ii (gi l (1 : Int).toNat))) rfl underlying3 rfl (rd_1 (hS.rdr 0 rfl) hx3 (fun q => yar q) rfl)) ?_))); refine zp (yae hE1) (zp (zi underlying22 yai (yaF (hS.rdr 0 rfl) hx4)) (zp (yaw (v := (ii (gi l (2 : Int).toNat))) rfl underlying3 rfl (rd_1 (hS.rdr 0 rfl) hx4 (fun q => yar q) rfl)) ?_)); obtain ⟨hi10, h⟩ := h; refine zp (yfm rfl rfl hi10) ?_; obtain ⟨hi11, h⟩ := h; exact zp (zA hi11) (zp (za (ii ((((gi l (0 : Int).toNat) * (gi l (1 : Int).toNat)) + ((gi l (0 : Int).toNat) * (gi l (2 : Int).toNat))) + ((gi l (1 : Int).toNat) * (gi l (2 : Int).toNat))))) (ybk (yas rfl rfl ⟨_, rfl, (hS.sel [] (by decide)), h⟩)))
            · replace h := h.2 hp5; exact zd hp5 (yak (yan (zs (zq (za (ii 1)) (yaa (yas rfl rfl ⟨_, rfl, (hS.sel [] (by decide)), h⟩))))))
  clear hJ; intro j; by_cases hp6 : kind = 1
  · replace h := h.1 hp6; exact zc hp6 (yak (j _ _ _ ⟨_, h, rfl, rfl, rfl, rfl, rfl, (hS.sel [0] (by decide))⟩))
  · replace h := h.2 hp6; exact zd hp6 (zr (zq zE (zq (za (.bool (decide (kind = 4)))) (yaa (j _ _ _ ⟨_, h, rfl, rfl, rfl, rfl, rfl, (hS.sel [0] (by decide))⟩)))))
def ygJ (kind : Int) (l : List Int) (R : Int → Prop) : Prop :=
ydu kind l (fun r =>
((r = 0 →
((kind = 7 →
R 15) ∧
(¬ (kind = 7) →
R 0))) ∧
(¬ (r = 0) →
R r)))
theorem yg4 {O : Nat → Prop} {w : World} {kind l Al ll cl} {R : Int → Prop} (h : ygJ kind l R) (hO : ∀ k, O k → k < w.heap.size) (hA0 : (FP.sl cI Al ll cl l).P O w) :
    Calls Try.prog 38 #[(ii kind), (.slice Al ll cl)] w fun e w' => ∃ r2, e = .returned (ii r2) ∧ Sep w no O w' (rl []) ∧ R r2 := by
  unfold ygJ at h; have hS : Sep w no O w (rl [Res.ro (FP.sl cI Al ll cl l)]) := Sep.startl hO [(FP.sl cI Al ll cl l)] ⟨hA0, trivial⟩; refine yay (l := [(ii kind), (.slice Al ll cl)]) func38 rfl ntmps38 (Nat.le_of_ble_eq_true rfl) (zs (zq (za (ii 0)) (yaa (yag (zs (zq (zm (ii kind)) (zq (zm (.slice Al ll cl)) (zn (yap rfl (am2 rfl rfl) enter_23 ((yha h (yaM _) (hS.rdr 0 rfl)).mono ?_)))))))))); rintro _ w2 ⟨r, rfl, hC, h⟩; replace hS := hS.pur hC.pure; clear hC; refine ⟨_, rfl, ?_⟩; refine zb (zq (za (ii r)) (yaa (zs (zq (zm (ii r)) (zq zN (yaa ?_)))))); by_cases hp : r = 0
  · replace h := h.1 hp; refine ze hp (yak (yag (zs (zq (zm (ii kind)) (zq zE (yaa ?_)))))); by_cases hp2 : kind = 7
    · replace h := h.1 hp2; exact zc hp2 (zs (zq (za (ii 15)) (yaa (yas rfl rfl ⟨_, rfl, (hS.sel [] (by decide)), h⟩))))
    · replace h := h.2 hp2; exact zd hp2 (yak (zs (zq (za (ii 0)) (yaa (yas rfl rfl ⟨_, rfl, (hS.sel [] (by decide)), h⟩)))))
  · replace h := h.2 hp; exact zf hp (zs (zq (zm (ii r)) (zq (za (ii r)) (yaa (yas rfl rfl ⟨_, rfl, (hS.sel [] (by decide)), h⟩)))))
def ygS (kind : Int) (l : List Int) (R : Int → Int → Prop) : Prop :=
ygJ kind l (fun r =>
((r = 0 →
ygD kind l (fun r2 =>
R r2 0)) ∧
(¬ (r = 0) →
R 0 r)))
theorem pok_r11_Trees {O : Nat → Prop} {w : World} {kind l Al ll cl} {R : Int → Int → Prop} (h : ygS kind l R) (hO : ∀ k, O k → k < w.heap.size) (hA0 : (FP.sl cI Al ll cl l).P O w) :
    Calls Try.prog 19 #[(ii kind), (.slice Al ll cl)] w fun e w' => ∃ r3 r4, e = .returned (.tuple #[(ii r3), (ii r4)]) ∧ Sep w no O w' (rl []) ∧ R r3 r4 := by
  unfold ygS at h; have hS : Sep w no O w (rl [Res.ro (FP.sl cI Al ll cl l)]) := Sep.startl hO [(FP.sl cI Al ll cl l)] ⟨hA0, trivial⟩; refine yay (l := [(ii kind), (.slice Al ll cl)]) func19 rfl ntmps19 (Nat.le_of_ble_eq_true rfl) (zs (zq (za (ii 0)) (zq (za (ii 0)) (yaa (yag (zs (zq (zm (ii kind)) (zq (zm (.slice Al ll cl)) (zn (yap rfl (am2 rfl rfl) enter_38 ((yg4 h (yaM _) (hS.rdr 0 rfl)).mono ?_))))))))))); rintro _ w2 ⟨r, rfl, hC, h⟩; replace hS := hS.pur hC.pure; clear hC; refine ⟨_, rfl, ?_⟩; refine zb (zq (za (ii r)) (yaa (zs (zq (zm (ii r)) (zq zN (yaa ?_)))))); by_cases hp : r = 0
  · replace h := h.1 hp; refine ze hp (yak (zs (zq (zm (ii kind)) (zq (zm (.slice Al ll cl)) (zn (yap rfl (am2 rfl rfl) enter_39 ((yg3 h (yaM _) (hS.rdr 0 rfl)).mono ?_))))))); rintro _ w3 ⟨r2, rfl, hC, h⟩; replace hS := hS.pur hC.pure; clear hC; refine ⟨_, rfl, ?_⟩; exact zb (zq (za (ii r2)) (zq (za (ii 0)) (yaa (yaW rfl rfl rfl ⟨_, _, rfl, (hS.sel [] (by decide)), h⟩))))
  · replace h := h.2 hp; exact zf hp (zs (zq (zm (ii r)) (zq (za (ii 0)) (zq (za (ii r)) (yaa (yaW rfl rfl rfl ⟨_, _, rfl, (hS.sel [] (by decide)), h⟩))))))
def ygC (n : Int) (v : Int) (R : (List Int) → Prop) : Prop :=
(∃ I2 : Nat → (List Int) → Int → Prop, (∃ m0, I2 m0 ([]) 0) ∧ ∀ m2 out i, I2 m2 out i → 
((i < n →
(out.length + 1 ≤ 1000000000 ∧
(In64 (i + 1) ∧
∃ m3, m3 < m2 ∧ I2 m3 (out ++ [v]) (i + 1)))) ∧
(¬ (i < n) →
R out)))
theorem ygG {O : Nat → Prop} {w : World} {n v} {R : (List Int) → Prop} (h : ygC n v R) (hO : ∀ k, O k → k < w.heap.size) :
    Calls Try.prog 84 #[(ii n), (ii v)] w fun e w' => ∃ r Ar lr cr, e = .returned (.slice Ar lr cr) ∧ Sep w no O w' (rl [Res.own cI 3 Ar lr cr r]) ∧ R r := by
  unfold ygC at h; have hS : Sep w no O w (rl []) := Sep.start w hO; refine yay (l := [(ii n), (ii v)]) func84 rfl ntmps84 (Nat.le_of_ble_eq_true rfl) (zs (zq (za (.slice none 0 0)) (yaa (zs (zq (za (.slice none 0 0)) (yaa (yag (zs (zq (za (ii 0)) (yaa (yam ?_))))))))))); replace hS := hS.nil 0 rfl cI 3; obtain ⟨I2, ⟨m0, h0⟩, hr⟩ := h; refine yaL (fun m E ds w' => ∃ out i Aout lout cout, I2 m out i ∧ ds = [] ∧ E 0 = (ii n) ∧ E 1 = (ii v) ∧ E 5 = (Value.slice Aout lout cout) ∧ E 6 = (ii i) ∧ Sep w no O w' (rl [Res.own cI 3 Aout lout cout out])) m0 ⟨_, _, _, _, _, h0, rfl, rfl, rfl, rfl, rfl, (hS.sel [0] (by decide))⟩ ?_; clear h0 hS; rintro m2 E ds w2 ⟨out, i, Aout, lout, cout, h, rfl, hE0, hE1, hE5, hE6, hS⟩ again; replace h := hr m2 out i h; clear hr; refine yag (zs (zq (yae hE6) (zq (yae hE0) (zq zL (yaa ?_))))); by_cases hp : i < n
  · replace h := h.1 hp; refine zc hp (yak (yag (yam (zr (zq (yae hE5) (zq (yae hE1) (zn (yaD (l := [(0, (ii v))]) (cells := [(ii v)]) (bp1 rfl) underlying22 yai rfl rfl ?_)))))))); intro g w3 hN; replace hS := hS.litf (n := 1) 1 rfl (fI .i64) hN ([v] : List Int) rfl (by decide) rfl; clear hN; refine zb ?_; obtain ⟨hx, h⟩ := h; refine zn (ycB (c := cI) rfl rfl underlying22 underlying22 yai rfl rfl (by decide) hS 0 rfl (hS.yo 1 rfl) hx ?_); clear hS; intro A c w4 hS; refine zb (zq (za (.slice A (lout + 1) c)) (yaa (yan (zr (zq (yae hE6) ?_))))); obtain ⟨hi, h⟩ := h; refine zq (zA hi) (zq (za (ii (i + 1))) (yaa ?_)); obtain ⟨mq, hlt, h⟩ := h; exact again mq _ _ _ ⟨_, _, _, _, _, h, rfl, hE0, hE1, rfl, rfl, (hS.sel [0] (by decide))⟩ hlt
  · replace h := h.2 hp; exact zd hp (yaJ rfl (zs (zq (yae hE5) (zq (za (.slice Aout lout cout)) (yaa (yas rfl rfl ⟨_, _, _, _, rfl, (hS.sel [0] (by decide)), h⟩))))))
def ygN (d : Int) (i : List Int) (R : (List Int) → Prop) : Prop :=
((0 ≤ (0 : Int) ∧ (0 : Int) < ((i.length : Nat) : Int)) ∧
(∃ J2 : Bool → Prop, (∀ (v : Bool), J2 v → ((v = true →
R ([gi i (0 : Int).toNat])) ∧
(¬ (v = true) →
((d = 3 →
(In64 ((gi i (0 : Int).toNat) - 2) ∧
ygC ((gi i (0 : Int).toNat) - 2) (gi i (0 : Int).toNat) (fun r =>
R r))) ∧
(¬ (d = 3) →
((d = 5 →
((2 : Int) ≠ 0 ∧
((((gi i (0 : Int).toNat).tmod 2) = 1 →
ygR (gi i (0 : Int).toNat) (fun r2 =>
ygR (gi i (0 : Int).toNat) (fun r3 =>
R ([r2, r3])))) ∧
(¬ (((gi i (0 : Int).toNat).tmod 2) = 1) →
ygK (gi i (0 : Int).toNat) (fun r4 =>
ygK (gi i (0 : Int).toNat) (fun r5 =>
(In64 (5 * r5) ∧
R ([r4, 5 * r5])))))))) ∧
(¬ (d = 5) →
((d = 6 →
(∃ J3 : Prop, (J3 → (∃ J4 : (List Int) → Prop, (∀ (v2 : List Int), J4 v2 → R v2) ∧
((0 ≤ (1 : Int) ∧ (1 : Int) < ((i.length : Nat) : Int)) ∧
(In64 ((gi i (1 : Int).toNat) - 2) ∧
(In64 ((gi i (0 : Int).toNat) - 2) ∧
(In64 ((gi i (0 : Int).toNat) * (gi i (1 : Int).toNat)) ∧
((ygC ((gi i (1 : Int).toNat) - 2) (gi i (0 : Int).toNat) (fun r6 =>
((ygC ((gi i (0 : Int).toNat) - 2) (gi i (1 : Int).toNat) (fun r7 =>
(((r6.length + r7.length ≤ 1000000000 ∧
((r6 ++ r7).length + 1 ≤ 1000000000 ∧
J4 ((r6 ++ r7) ++ [(gi i (0 : Int).toNat) * (gi i (1 : Int).toNat)])))) ∧
((r6.length + r7.length ≤ 1000000000 ∧
((r6 ++ r7).length + 1 ≤ 1000000000 ∧
J4 ((r6 ++ r7) ++ [(gi i (0 : Int).toNat) * (gi i (1 : Int).toNat)]))))))) ∧
(ygC ((gi i (0 : Int).toNat) - 2) (gi i (1 : Int).toNat) (fun r8 =>
(r6.length + r8.length ≤ 1000000000 ∧
((r6 ++ r8).length + 1 ≤ 1000000000 ∧
J4 ((r6 ++ r8) ++ [(gi i (0 : Int).toNat) * (gi i (1 : Int).toNat)])))))))) ∧
(ygC ((gi i (1 : Int).toNat) - 2) (gi i (0 : Int).toNat) (fun r9 =>
ygC ((gi i (0 : Int).toNat) - 2) (gi i (1 : Int).toNat) (fun r10 =>
(r9.length + r10.length ≤ 1000000000 ∧
((r9 ++ r10).length + 1 ≤ 1000000000 ∧
J4 ((r9 ++ r10) ++ [(gi i (0 : Int).toNat) * (gi i (1 : Int).toNat)]))))))))))))) ∧
(((gi i (0 : Int).toNat) < 2 →
R ([])) ∧
(¬ ((gi i (0 : Int).toNat) < 2) →
((0 ≤ (1 : Int) ∧ (1 : Int) < ((i.length : Nat) : Int)) ∧
(((gi i (1 : Int).toNat) < 2 →
R ([])) ∧
(¬ ((gi i (1 : Int).toNat) < 2) →
J3))))))) ∧
(¬ (d = 6) →
((d = 8 →
((0 ≤ (1 : Int) ∧ (1 : Int) < ((i.length : Nat) : Int)) ∧
((0 ≤ (2 : Int) ∧ (2 : Int) < ((i.length : Nat) : Int)) ∧
ygY (gi i (0 : Int).toNat) (gi i (1 : Int).toNat) (fun r11 =>
ygY r11 (gi i (2 : Int).toNat) (fun r12 =>
ygD d i (fun r13 =>
(r12 ≠ 0 ∧
In64 (r13.tdiv r12) ∧
R ([r12, r13.tdiv r12])))))))) ∧
(¬ (d = 8) →
R ([])))))))))))) ∧
((d = 1 →
J2 (decide (d = 1))) ∧
(¬ (d = 1) →
J2 (decide (d = 4))))))
theorem pok_r11_orders {O : Nat → Prop} {w : World} {d i Ai li ci} {R : (List Int) → Prop} (h : ygN d i R) (hO : ∀ k, O k → k < w.heap.size) (hA0 : (FP.sl cI Ai li ci i).P O w) :
    Calls Try.prog 40 #[(ii d), (.slice Ai li ci)] w fun e w' => ∃ r14 Ar7 lr7 cr7, e = .returned (.slice Ar7 lr7 cr7) ∧ Sep w no O w' (rl [Res.own cI 3 Ar7 lr7 cr7 r14]) ∧ R r14 := by
  unfold ygN at h; have hS : Sep w no O w (rl [Res.ro (FP.sl cI Ai li ci i)]) := Sep.startl hO [(FP.sl cI Ai li ci i)] ⟨hA0, trivial⟩; refine yay (l := [(ii d), (.slice Ai li ci)]) func40 rfl ntmps40 (Nat.le_of_ble_eq_true rfl) (zs (zq (za (.slice none 0 0)) (yaa (zs (zq (zm (.slice Ai li ci)) ?_))))); obtain ⟨hx, h⟩ := h; refine zq (zi underlying22 yai (yaF (hS.rdr 0 rfl) hx)) (zq (yaw (v := (ii (gi i (0 : Int).toNat))) rfl underlying3 rfl (rd_1 (hS.rdr 0 rfl) hx (fun q => yar q) rfl)) ?_); refine zq (za (ii (gi i (0 : Int).toNat))) (yaa (yag (zs (zq (zm (ii d)) (yaa (yam (yag (zs (zq zE (zq (za (.bool (decide (d = 1)))) (yaa ?_))))))))))); obtain ⟨J2, hJ, h⟩ := h; refine yf1 (fun E ds w' => ∃ v, J2 v ∧ ds = [] ∧ E 0 = (ii d) ∧ E 1 = (Value.slice Ai li ci) ∧ E 5 = (ii (gi i (0 : Int).toNat)) ∧ E 10 = (ii d) ∧ E 11 = (Value.bool (v)) ∧ Sep w no O w' (rl [Res.ro (FP.sl cI Ai li ci i)])) ?_ ?_
  · clear h hS; rintro E ds w2 ⟨v, h, rfl, hE0, hE1, hE5, hE10, hE11, hS⟩; replace h := hJ v h; by_cases hp : v = true
    · replace h := h.1 hp; refine yaz ((hE11).trans (congrArg Value.bool hp)) (zs (zq (yae (v := (ii (gi i (0 : Int).toNat))) hE5) (zn (yaD (l := [(0, (ii (gi i (0 : Int).toNat)))]) (cells := [(ii (gi i (0 : Int).toNat))]) (bp1 rfl) underlying22 yai rfl rfl ?_)))); intro g w3 hN; replace hS := hS.litf (n := 1) 1 rfl (fI .i64) hN ([gi i (0 : Int).toNat] : List Int) rfl (by decide) rfl; clear hN; exact zb (zq (za (.slice (some ⟨g, 0, none⟩) 1 1)) (yaa (yas rfl rfl ⟨_, _, _, _, rfl, (hS.sel [1] (by decide)), h⟩)))
    · replace h := h.2 hp; refine yaQ ((hE11).trans (congrArg Value.bool (Bool.eq_false_iff.2 hp))) (zs (zq (yhj hE10 rfl) (zq (za (.bool (decide (d = 3)))) (yaa ?_)))); by_cases hp2 : d = 3
      · replace h := h.1 hp2; refine zc hp2 (zs (zq (yae (v := (ii (gi i (0 : Int).toNat))) hE5) ?_)); obtain ⟨hi, h⟩ := h; refine zq (zS hi) (zq (yae (v := (ii (gi i (0 : Int).toNat))) hE5) (zn (yap rfl (am2 rfl rfl) yg6 ((ygG h (yaM _)).mono ?_)))); rintro _ w4 ⟨r, Ar, lr, cr, rfl, hC, h⟩; replace hS := hS.call1 (hC.widen (ybt (yaB (fI .i64) _ _ _ _ _) ybu) hS.blt) 1 0 rfl; clear hC; refine ⟨_, rfl, ?_⟩; exact zb (zq (za (.slice Ar lr cr)) (yaa (yas rfl rfl ⟨_, _, _, _, rfl, (hS.sel [1] (by decide)), h⟩)))
      · replace h := h.2 hp2; refine zd hp2 (zs (zq (yhj hE10 rfl) (zq (za (.bool (decide (d = 5)))) (yaa ?_)))); by_cases hp3 : d = 5
        · replace h := h.1 hp3; refine zc hp3 (yag (zs (zq (yae (v := (ii (gi i (0 : Int).toNat))) hE5) ?_))); obtain ⟨hz, h⟩ := h; refine zq (v_rem rfl rfl hz) (zq zE (yaa ?_)); by_cases hp4 : ((gi i (0 : Int).toNat).tmod 2) = 1
          · replace h := h.1 hp4; refine zc hp4 (zs (zq (yae (v := (ii (gi i (0 : Int).toNat))) hE5) (zn (yap rfl (am1 rfl) enter_83 ((yg0 h (yaM _)).mono ?_))))); rintro _ w5 ⟨r2, rfl, hC, h⟩; replace hS := hS.pur hC.pure; clear hC; refine ⟨_, rfl, ?_⟩; refine zb (zq (yae (v := (ii (gi i (0 : Int).toNat))) hE5) (zn (yap rfl (am1 rfl) enter_83 ((yg0 h (yaM _)).mono ?_)))); rintro _ w6 ⟨r3, rfl, hC, h⟩; replace hS := hS.pur hC.pure; clear hC; refine ⟨_, rfl, ?_⟩; refine zb (zn (yaD (l := [(0, (ii r2)), (1, (ii r3))]) (cells := [(ii r2), (ii r3)]) (bp2 rfl rfl) underlying22 yai rfl rfl ?_)); intro g2 w7 hN; replace hS := hS.litf (n := 2) 1 rfl (fI .i64) hN ([r2, r3] : List Int) rfl (by decide) rfl; clear hN; exact zb (zq (za (.slice (some ⟨g2, 0, none⟩) 2 2)) (yaa (yas rfl rfl ⟨_, _, _, _, rfl, (hS.sel [1] (by decide)), h⟩)))
          · replace h := h.2 hp4; refine zd hp4 (yak (zs (zq (yae (v := (ii (gi i (0 : Int).toNat))) hE5) (zn (yap rfl (am1 rfl) enter_85 ((ygX h (yaM _)).mono ?_)))))); rintro _ w8 ⟨r4, rfl, hC, h⟩; replace hS := hS.pur hC.pure; clear hC; refine ⟨_, rfl, ?_⟩; refine zb (zq (yae (v := (ii (gi i (0 : Int).toNat))) hE5) (zn (yap rfl (am1 rfl) enter_85 ((ygX h (yaM _)).mono ?_)))); rintro _ w9 ⟨r5, rfl, hC, h⟩; replace hS := hS.pur hC.pure; clear hC; refine ⟨_, rfl, ?_⟩; refine zb ?_; obtain ⟨hi2, h⟩ := h; refine zq (yfm rfl rfl hi2) (zn (yaD (l := [(0, (ii r4)), (1, (ii (5 * r5)))]) (cells := [(ii r4), (ii (5 * r5))]) (bp2 rfl rfl) underlying22 yai rfl rfl ?_)); intro g3 w10 hN; replace hS := hS.litf (n := 2) 1 rfl (fI .i64) hN ([r4, 5 * r5] : List Int) rfl (by decide) rfl; clear hN; exact zb (zq (za (.slice (some ⟨g3, 0, none⟩) 2 2)) (yaa (yas rfl rfl ⟨_, _, _, _, rfl, (hS.sel [1] (by decide)), h⟩)))
        · replace h := h.2 hp3; refine zd hp3 (zs (zq (yhj hE10 rfl) (zq (za (.bool (decide (d = 6)))) (yaa ?_)))); by_cases hp5 : d = 6
          · replace h := h.1 hp5; refine zc hp5 (yag (yag ?_)); obtain ⟨J3, hJ, h⟩ := h; refine ycE (fun E ds w' => J3 ∧ ds = [] ∧ E 1 = (Value.slice Ai li ci) ∧ E 5 = (ii (gi i (0 : Int).toNat)) ∧ Sep w no O w' (rl [Res.ro (FP.sl cI Ai li ci i)])) ?_ ?_
            · clear h hS; rintro E ds w11 ⟨h, rfl, hE1, hE5, hS⟩; replace h := hJ h; refine yag ?_; obtain ⟨J4, hJ, h⟩ := h; refine wt_cutD (fun E ds w' => ∃ v2 Av lv cv, J4 v2 ∧ ds = [] ∧ E 4 = (Value.slice Av lv cv) ∧ Sep w no O w' (rl [Res.own cI 3 Av lv cv v2])) ?_ ?_
              · clear h hS; rintro E ds w12 ⟨v2, Av, lv, cv, h, rfl, hE4, hS⟩; replace h := hJ v2 h; exact yas rfl hE4 ⟨_, _, _, _, rfl, (hS.sel [0] (by decide)), h⟩
              clear hJ; intro j3; refine wt_drawT (.one 0 [] (.one 1 [] (.one 2 [] (.one 3 [] (.one 4 [] (.one 6 [] (.one 7 [] (.one 8 [] (.one 9 [] (.one 10 [] (.one 13 [] (.one 14 [] (.one 15 [] (.one 16 [] (.one 17 [] (.both (.one 5 [6, 7, 8, 9, 10, 13, 14, 15, 16, 17] (.both (.one 11 [13, 14, 15, 16, 17] (.both (.one 12 [13, 14, 15, 16, 17] (.one 18 [0, 1, 2, 3, 4, 6, 7, 8, 9, 10] (.one 19 [] (.one 20 [] .nil)))) (.one 18 [0, 1, 2, 3, 4, 6, 7, 8, 9, 10] (.one 12 [13, 14, 15, 16, 17] (.one 19 [] (.one 20 [] .nil)))))) (.one 18 [0, 1, 2, 3, 4, 6, 7, 8, 9, 10] (.one 11 [13, 14, 15, 16, 17] (.one 12 [13, 14, 15, 16, 17] (.one 19 [] (.one 20 [] .nil))))))) (.one 18 [0, 1, 2, 3, 4, 6, 7, 8, 9, 10] (.one 5 [6, 7, 8, 9, 10, 13, 14, 15, 16, 17] (.one 11 [13, 14, 15, 16, 17] (.one 12 [13, 14, 15, 16, 17] (.one 19 [] (.one 20 [] .nil)))))))))))))))))))))) yaS (by kernel_rfl) (by kernel_rfl) ?_; replace hS := hS.drew; refine rt_q rfl rfl rfl rfl (yae hE1) ?_; obtain ⟨hx2, h⟩ := h; refine rt_q rfl rfl rfl rfl (zi underlying22 yai (yaF (hS.rdr 0 rfl) hx2)) (rt_q rfl rfl rfl rfl (yaw (v := (ii (gi i (1 : Int).toNat))) rfl underlying3 rfl (rd_1 (hS.rdr 0 rfl) hx2 (fun q => yar q) rfl)) ?_); obtain ⟨hi3, h⟩ := h; refine rt_q rfl rfl rfl rfl (zS hi3) (rt_q rfl rfl rfl rfl (yae (v := (ii (gi i (0 : Int).toNat))) hE5) (rt_q rfl rfl rfl rfl (yae (v := (ii (gi i (0 : Int).toNat))) hE5) ?_)); obtain ⟨hi4, h⟩ := h; refine rt_q rfl rfl rfl rfl (zS hi4) (rt_q rfl rfl rfl rfl (yae hE1) (rt_q rfl rfl rfl rfl (zi underlying22 yai (yaF (hS.rdr 0 rfl) hx2)) (rt_q rfl rfl rfl rfl (yaw (v := (ii (gi i (1 : Int).toNat))) rfl underlying3 rfl (rd_1 (hS.rdr 0 rfl) hx2 (fun q => yar q) rfl)) ?_))); refine rt_q rfl rfl rfl rfl (yae (v := (ii (gi i (0 : Int).toNat))) hE5) (rt_q rfl rfl rfl rfl (yae hE1) (rt_q rfl rfl rfl rfl (zi underlying22 yai (yaF (hS.rdr 0 rfl) hx2)) (rt_q rfl rfl rfl rfl (yaw (v := (ii (gi i (1 : Int).toNat))) rfl underlying3 rfl (rd_1 (hS.rdr 0 rfl) hx2 (fun q => yar q) rfl)) ?_))); obtain ⟨hi5, h⟩ := h; refine rt_q rfl rfl rfl rfl (yfm rfl rfl hi5) (rt_both ?_ ?_)
              · replace h := h.1; refine rt_n rfl rfl rfl rfl rfl (yap rfl (am2 rfl rfl) yg6 ((ygG h (yaM _)).mono ?_)); rintro _ w13 ⟨r6, Ar2, lr2, cr2, rfl, hC, h⟩; replace hS := hS.call1 (hC.widen (ybt (yaB (fI .i64) _ _ _ _ _) ybu) hS.blt) 1 0 rfl; clear hC; refine ⟨_, rfl, ?_⟩; refine ⟨⟨fun _ => (yfm rfl rfl hi5), ⟨fun _ => (yaw (v := (ii (gi i (1 : Int).toNat))) rfl underlying3 rfl (rd_1 (hS.rdr 0 rfl) hx2 (fun q => yar q) rfl)), ⟨fun _ => (zi underlying22 yai (yaF (hS.rdr 0 rfl) hx2)), ⟨fun _ => (yae hE1), ⟨fun _ => (yae (v := (ii (gi i (0 : Int).toNat))) hE5), ⟨fun _ => (yaw (v := (ii (gi i (1 : Int).toNat))) rfl underlying3 rfl (rd_1 (hS.rdr 0 rfl) hx2 (fun q => yar q) rfl)), ⟨fun _ => (zi underlying22 yai (yaF (hS.rdr 0 rfl) hx2)), ⟨fun _ => (yae hE1), ⟨fun _ => (zS hi4), ⟨fun _ => (yae (v := (ii (gi i (0 : Int).toNat))) hE5), ⟨fun hh => Bool.noConfusion (show false = true from hh), ⟨fun hh => Bool.noConfusion (show false = true from hh), ⟨fun hh => Bool.noConfusion (show false = true from hh), ⟨fun hh => Bool.noConfusion (show false = true from hh), ⟨fun hh => Bool.noConfusion (show false = true from hh), trivial⟩⟩⟩⟩⟩⟩⟩⟩⟩⟩⟩⟩⟩⟩⟩, ?_⟩; refine rt_both ?_ ?_
                · replace h := h.1; refine rt_n rfl rfl rfl rfl rfl (yap rfl (am2 rfl rfl) yg6 ((ygG h (yaM _)).mono ?_)); rintro _ w14 ⟨r7, Ar3, lr3, cr3, rfl, hC, h⟩; replace hS := hS.call1 (hC.widen (ybt (yaB (fI .i64) _ _ _ _ _) ybu) hS.blt) 2 0 rfl; clear hC; refine ⟨_, rfl, ?_⟩; refine ⟨⟨fun _ => (yfm rfl rfl hi5), ⟨fun _ => (yaw (v := (ii (gi i (1 : Int).toNat))) rfl underlying3 rfl (rd_1 (hS.rdr 0 rfl) hx2 (fun q => yar q) rfl)), ⟨fun _ => (zi underlying22 yai (yaF (hS.rdr 0 rfl) hx2)), ⟨fun _ => (yae hE1), ⟨fun _ => (yae (v := (ii (gi i (0 : Int).toNat))) hE5), ⟨fun hh => Bool.noConfusion (show false = true from hh), ⟨fun hh => Bool.noConfusion (show false = true from hh), ⟨fun hh => Bool.noConfusion (show false = true from hh), ⟨fun hh => Bool.noConfusion (show false = true from hh), ⟨fun hh => Bool.noConfusion (show false = true from hh), ⟨fun hh => Bool.noConfusion (show false = true from hh), ⟨fun hh => Bool.noConfusion (show false = true from hh), ⟨fun hh => Bool.noConfusion (show false = true from hh), ⟨fun hh => Bool.noConfusion (show false = true from hh), ⟨fun hh => Bool.noConfusion (show false = true from hh), trivial⟩⟩⟩⟩⟩⟩⟩⟩⟩⟩⟩⟩⟩⟩⟩, ?_⟩; refine rt_both ?_ ?_
                  · replace h := h.1; obtain ⟨hx3, h⟩ := h; refine rt_n rfl rfl rfl rfl rfl (ycB (c := cI) rfl rfl underlying22 underlying22 yai rfl rfl (by decide) hS 1 rfl (hS.yo 2 rfl) hx3 ?_); clear hS; intro A c w15 hS; refine ⟨⟨fun _ => (yfm rfl rfl hi5), ⟨fun _ => (yaw (v := (ii (gi i (1 : Int).toNat))) rfl underlying3 rfl (rd_1 (hS.rdr 0 rfl) hx2 (fun q => yar q) rfl)), ⟨fun _ => (zi underlying22 yai (yaF (hS.rdr 0 rfl) hx2)), ⟨fun _ => (yae hE1), ⟨fun _ => (yae (v := (ii (gi i (0 : Int).toNat))) hE5), ⟨fun hh => Bool.noConfusion (show false = true from hh), ⟨fun hh => Bool.noConfusion (show false = true from hh), ⟨fun hh => Bool.noConfusion (show false = true from hh), ⟨fun hh => Bool.noConfusion (show false = true from hh), ⟨fun hh => Bool.noConfusion (show false = true from hh), ⟨fun hh => Bool.noConfusion (show false = true from hh), ⟨fun hh => Bool.noConfusion (show false = true from hh), ⟨fun hh => Bool.noConfusion (show false = true from hh), ⟨fun hh => Bool.noConfusion (show false = true from hh), ⟨fun hh => Bool.noConfusion (show false = true from hh), trivial⟩⟩⟩⟩⟩⟩⟩⟩⟩⟩⟩⟩⟩⟩⟩, ?_⟩; refine rt_n rfl rfl rfl rfl rfl (yaD (l := [(0, (ii ((gi i (0 : Int).toNat) * (gi i (1 : Int).toNat))))]) (cells := [(ii ((gi i (0 : Int).toNat) * (gi i (1 : Int).toNat)))]) (bp1 rfl) underlying22 yai rfl rfl ?_); intro g4 w16 hN; replace hS := hS.litf (n := 1) 3 rfl (fI .i64) hN ([(gi i (0 : Int).toNat) * (gi i (1 : Int).toNat)] : List Int) rfl (by decide) rfl; clear hN; refine ⟨⟨fun hh => Bool.noConfusion (show false = true from hh), ⟨fun hh => Bool.noConfusion (show false = true from hh), ⟨fun hh => Bool.noConfusion (show false = true from hh), ⟨fun hh => Bool.noConfusion (show false = true from hh), ⟨fun hh => Bool.noConfusion (show false = true from hh), ⟨fun _ => (yaw (v := (ii (gi i (1 : Int).toNat))) rfl underlying3 rfl (rd_1 (hS.rdr 0 rfl) hx2 (fun q => yar q) rfl)), ⟨fun _ => (zi underlying22 yai (yaF (hS.rdr 0 rfl) hx2)), ⟨fun _ => (yae hE1), ⟨fun _ => (zS hi4), ⟨fun _ => (yae (v := (ii (gi i (0 : Int).toNat))) hE5), ⟨fun _ => (yae (v := (ii (gi i (0 : Int).toNat))) hE5), ⟨fun _ => (zS hi3), ⟨fun _ => (yaw (v := (ii (gi i (1 : Int).toNat))) rfl underlying3 rfl (rd_1 (hS.rdr 0 rfl) hx2 (fun q => yar q) rfl)), ⟨fun _ => (zi underlying22 yai (yaF (hS.rdr 0 rfl) hx2)), ⟨fun _ => (yae hE1), trivial⟩⟩⟩⟩⟩⟩⟩⟩⟩⟩⟩⟩⟩⟩⟩, ?_⟩; obtain ⟨hx4, h⟩ := h; refine rt_n rfl rfl rfl rfl rfl (ycB (c := cI) rfl rfl underlying22 underlying22 yai rfl rfl (by decide) hS 1 rfl (hS.yo 3 rfl) hx4 ?_); clear hS; intro A2 c2 w17 hS; exact zb (rt_q rfl rfl rfl rfl (za (.slice A2 ((lr2 + lr3) + 1) c2)) (rt_end (j3 _ _ _ ⟨_, _, _, _, h, rfl, rfl, (hS.sel [1] (by decide))⟩)))
                  replace h := h.2; refine rt_n rfl rfl rfl rfl rfl (yaD (l := [(0, (ii ((gi i (0 : Int).toNat) * (gi i (1 : Int).toNat))))]) (cells := [(ii ((gi i (0 : Int).toNat) * (gi i (1 : Int).toNat)))]) (bp1 rfl) underlying22 yai rfl rfl ?_); intro g5 w18 hN; replace hS := hS.litf (n := 1) 3 rfl (fI .i64) hN ([(gi i (0 : Int).toNat) * (gi i (1 : Int).toNat)] : List Int) rfl (by decide) rfl; clear hN; refine ⟨⟨fun hh => Bool.noConfusion (show false = true from hh), ⟨fun hh => Bool.noConfusion (show false = true from hh), ⟨fun hh => Bool.noConfusion (show false = true from hh), ⟨fun hh => Bool.noConfusion (show false = true from hh), ⟨fun hh => Bool.noConfusion (show false = true from hh), ⟨fun _ => (yaw (v := (ii (gi i (1 : Int).toNat))) rfl underlying3 rfl (rd_1 (hS.rdr 0 rfl) hx2 (fun q => yar q) rfl)), ⟨fun _ => (zi underlying22 yai (yaF (hS.rdr 0 rfl) hx2)), ⟨fun _ => (yae hE1), ⟨fun _ => (zS hi4), ⟨fun _ => (yae (v := (ii (gi i (0 : Int).toNat))) hE5), ⟨fun _ => (yae (v := (ii (gi i (0 : Int).toNat))) hE5), ⟨fun _ => (zS hi3), ⟨fun _ => (yaw (v := (ii (gi i (1 : Int).toNat))) rfl underlying3 rfl (rd_1 (hS.rdr 0 rfl) hx2 (fun q => yar q) rfl)), ⟨fun _ => (zi underlying22 yai (yaF (hS.rdr 0 rfl) hx2)), ⟨fun _ => (yae hE1), trivial⟩⟩⟩⟩⟩⟩⟩⟩⟩⟩⟩⟩⟩⟩⟩, ?_⟩; obtain ⟨hx5, h⟩ := h; refine rt_n rfl rfl rfl rfl rfl (ycB (c := cI) rfl rfl underlying22 underlying22 yai rfl rfl (by decide) hS 1 rfl (hS.yo 2 rfl) hx5 ?_); clear hS; intro A3 c3 w19 hS; refine ⟨⟨fun _ => (yfm rfl rfl hi5), ⟨fun _ => (yaw (v := (ii (gi i (1 : Int).toNat))) rfl underlying3 rfl (rd_1 (hS.rdr 0 rfl) hx2 (fun q => yar q) rfl)), ⟨fun _ => (zi underlying22 yai (yaF (hS.rdr 0 rfl) hx2)), ⟨fun _ => (yae hE1), ⟨fun _ => (yae (v := (ii (gi i (0 : Int).toNat))) hE5), ⟨fun hh => Bool.noConfusion (show false = true from hh), ⟨fun hh => Bool.noConfusion (show false = true from hh), ⟨fun hh => Bool.noConfusion (show false = true from hh), ⟨fun hh => Bool.noConfusion (show false = true from hh), ⟨fun hh => Bool.noConfusion (show false = true from hh), ⟨fun hh => Bool.noConfusion (show false = true from hh), ⟨fun hh => Bool.noConfusion (show false = true from hh), ⟨fun hh => Bool.noConfusion (show false = true from hh), ⟨fun hh => Bool.noConfusion (show false = true from hh), ⟨fun hh => Bool.noConfusion (show false = true from hh), trivial⟩⟩⟩⟩⟩⟩⟩⟩⟩⟩⟩⟩⟩⟩⟩, ?_⟩; obtain ⟨hx6, h⟩ := h; refine rt_n rfl rfl rfl rfl rfl (ycB (c := cI) rfl rfl underlying22 underlying22 yai rfl rfl (by decide) hS 1 rfl (hS.yo 3 rfl) hx6 ?_); clear hS; intro A4 c4 w20 hS; exact zb (rt_q rfl rfl rfl rfl (za (.slice A4 ((lr2 + lr3) + 1) c4)) (rt_end (j3 _ _ _ ⟨_, _, _, _, h, rfl, rfl, (hS.sel [1] (by decide))⟩)))
                replace h := h.2; refine rt_n rfl rfl rfl rfl rfl (yaD (l := [(0, (ii ((gi i (0 : Int).toNat) * (gi i (1 : Int).toNat))))]) (cells := [(ii ((gi i (0 : Int).toNat) * (gi i (1 : Int).toNat)))]) (bp1 rfl) underlying22 yai rfl rfl ?_); intro g6 w21 hN; replace hS := hS.litf (n := 1) 2 rfl (fI .i64) hN ([(gi i (0 : Int).toNat) * (gi i (1 : Int).toNat)] : List Int) rfl (by decide) rfl; clear hN; refine ⟨⟨fun hh => Bool.noConfusion (show false = true from hh), ⟨fun hh => Bool.noConfusion (show false = true from hh), ⟨fun hh => Bool.noConfusion (show false = true from hh), ⟨fun hh => Bool.noConfusion (show false = true from hh), ⟨fun hh => Bool.noConfusion (show false = true from hh), ⟨fun _ => (yaw (v := (ii (gi i (1 : Int).toNat))) rfl underlying3 rfl (rd_1 (hS.rdr 0 rfl) hx2 (fun q => yar q) rfl)), ⟨fun _ => (zi underlying22 yai (yaF (hS.rdr 0 rfl) hx2)), ⟨fun _ => (yae hE1), ⟨fun _ => (zS hi4), ⟨fun _ => (yae (v := (ii (gi i (0 : Int).toNat))) hE5), ⟨fun _ => (yae (v := (ii (gi i (0 : Int).toNat))) hE5), ⟨fun _ => (zS hi3), ⟨fun _ => (yaw (v := (ii (gi i (1 : Int).toNat))) rfl underlying3 rfl (rd_1 (hS.rdr 0 rfl) hx2 (fun q => yar q) rfl)), ⟨fun _ => (zi underlying22 yai (yaF (hS.rdr 0 rfl) hx2)), ⟨fun _ => (yae hE1), trivial⟩⟩⟩⟩⟩⟩⟩⟩⟩⟩⟩⟩⟩⟩⟩, ?_⟩; refine rt_n rfl rfl rfl rfl rfl (yap rfl (am2 rfl rfl) yg6 ((ygG h (yaM _)).mono ?_)); rintro _ w22 ⟨r8, Ar4, lr4, cr4, rfl, hC, h⟩; replace hS := hS.call1 (hC.widen (ybt (yaB (fI .i64) _ _ _ _ _) ybu) hS.blt) 3 0 rfl; clear hC; refine ⟨_, rfl, ?_⟩; refine ⟨⟨fun _ => (yfm rfl rfl hi5), ⟨fun _ => (yaw (v := (ii (gi i (1 : Int).toNat))) rfl underlying3 rfl (rd_1 (hS.rdr 0 rfl) hx2 (fun q => yar q) rfl)), ⟨fun _ => (zi underlying22 yai (yaF (hS.rdr 0 rfl) hx2)), ⟨fun _ => (yae hE1), ⟨fun _ => (yae (v := (ii (gi i (0 : Int).toNat))) hE5), ⟨fun hh => Bool.noConfusion (show false = true from hh), ⟨fun hh => Bool.noConfusion (show false = true from hh), ⟨fun hh => Bool.noConfusion (show false = true from hh), ⟨fun hh => Bool.noConfusion (show false = true from hh), ⟨fun hh => Bool.noConfusion (show false = true from hh), ⟨fun hh => Bool.noConfusion (show false = true from hh), ⟨fun hh => Bool.noConfusion (show false = true from hh), ⟨fun hh => Bool.noConfusion (show false = true from hh), ⟨fun hh => Bool.noConfusion (show false = true from hh), ⟨fun hh => Bool.noConfusion (show false = true from hh), trivial⟩⟩⟩⟩⟩⟩⟩⟩⟩⟩⟩⟩⟩⟩⟩, ?_⟩; obtain ⟨hx7, h⟩ := h; refine rt_n rfl rfl rfl rfl rfl (ycB (c := cI) rfl rfl underlying22 underlying22 yai rfl rfl (by decide) hS 1 rfl (hS.yo 3 rfl) hx7 ?_); clear hS; intro A5 c5 w23 hS; refine ⟨⟨fun _ => (yfm rfl rfl hi5), ⟨fun _ => (yaw (v := (ii (gi i (1 : Int).toNat))) rfl underlying3 rfl (rd_1 (hS.rdr 0 rfl) hx2 (fun q => yar q) rfl)), ⟨fun _ => (zi underlying22 yai (yaF (hS.rdr 0 rfl) hx2)), ⟨fun _ => (yae hE1), ⟨fun _ => (yae (v := (ii (gi i (0 : Int).toNat))) hE5), ⟨fun hh => Bool.noConfusion (show false = true from hh), ⟨fun hh => Bool.noConfusion (show false = true from hh), ⟨fun hh => Bool.noConfusion (show false = true from hh), ⟨fun hh => Bool.noConfusion (show false = true from hh), ⟨fun hh => Bool.noConfusion (show false = true from hh), ⟨fun hh => Bool.noConfusion (show false = true from hh), ⟨fun hh => Bool.noConfusion (show false = true from hh), ⟨fun hh => Bool.noConfusion (show false = true from hh), ⟨fun hh => Bool.noConfusion (show false = true from hh), ⟨fun hh => Bool.noConfusion (show false = true from hh), trivial⟩⟩⟩⟩⟩⟩⟩⟩⟩⟩⟩⟩⟩⟩⟩, ?_⟩; obtain ⟨hx8, h⟩ := h; refine rt_n rfl rfl rfl rfl rfl (ycB (c := cI) rfl rfl underlying22 underlying22 yai rfl rfl (by decide) hS 1 rfl (hS.yo 2 rfl) hx8 ?_); clear hS; intro A6 c6 w24 hS; exact zb (rt_q rfl rfl rfl rfl (za (.slice A6 ((lr2 + lr4) + 1) c6)) (rt_end (j3 _ _ _ ⟨_, _, _, _, h, rfl, rfl, (hS.sel [1] (by decide))⟩)))
              replace h := h.2; refine rt_n rfl rfl rfl rfl rfl (yaD (l := [(0, (ii ((gi i (0 : Int).toNat) * (gi i (1 : Int).toNat))))]) (cells := [(ii ((gi i (0 : Int).toNat) * (gi i (1 : Int).toNat)))]) (bp1 rfl) underlying22 yai rfl rfl ?_); intro g7 w25 hN; replace hS := hS.litf (n := 1) 1 rfl (fI .i64) hN ([(gi i (0 : Int).toNat) * (gi i (1 : Int).toNat)] : List Int) rfl (by decide) rfl; clear hN; refine ⟨⟨fun hh => Bool.noConfusion (show false = true from hh), ⟨fun hh => Bool.noConfusion (show false = true from hh), ⟨fun hh => Bool.noConfusion (show false = true from hh), ⟨fun hh => Bool.noConfusion (show false = true from hh), ⟨fun hh => Bool.noConfusion (show false = true from hh), ⟨fun _ => (yaw (v := (ii (gi i (1 : Int).toNat))) rfl underlying3 rfl (rd_1 (hS.rdr 0 rfl) hx2 (fun q => yar q) rfl)), ⟨fun _ => (zi underlying22 yai (yaF (hS.rdr 0 rfl) hx2)), ⟨fun _ => (yae hE1), ⟨fun _ => (zS hi4), ⟨fun _ => (yae (v := (ii (gi i (0 : Int).toNat))) hE5), ⟨fun _ => (yae (v := (ii (gi i (0 : Int).toNat))) hE5), ⟨fun _ => (zS hi3), ⟨fun _ => (yaw (v := (ii (gi i (1 : Int).toNat))) rfl underlying3 rfl (rd_1 (hS.rdr 0 rfl) hx2 (fun q => yar q) rfl)), ⟨fun _ => (zi underlying22 yai (yaF (hS.rdr 0 rfl) hx2)), ⟨fun _ => (yae hE1), trivial⟩⟩⟩⟩⟩⟩⟩⟩⟩⟩⟩⟩⟩⟩⟩, ?_⟩; refine rt_n rfl rfl rfl rfl rfl (yap rfl (am2 rfl rfl) yg6 ((ygG h (yaM _)).mono ?_)); rintro _ w26 ⟨r9, Ar5, lr5, cr5, rfl, hC, h⟩; replace hS := hS.call1 (hC.widen (ybt (yaB (fI .i64) _ _ _ _ _) ybu) hS.blt) 2 0 rfl; clear hC; refine ⟨_, rfl, ?_⟩; refine ⟨⟨fun _ => (yfm rfl rfl hi5), ⟨fun _ => (yaw (v := (ii (gi i (1 : Int).toNat))) rfl underlying3 rfl (rd_1 (hS.rdr 0 rfl) hx2 (fun q => yar q) rfl)), ⟨fun _ => (zi underlying22 yai (yaF (hS.rdr 0 rfl) hx2)), ⟨fun _ => (yae hE1), ⟨fun _ => (yae (v := (ii (gi i (0 : Int).toNat))) hE5), ⟨fun _ => (yaw (v := (ii (gi i (1 : Int).toNat))) rfl underlying3 rfl (rd_1 (hS.rdr 0 rfl) hx2 (fun q => yar q) rfl)), ⟨fun _ => (zi underlying22 yai (yaF (hS.rdr 0 rfl) hx2)), ⟨fun _ => (yae hE1), ⟨fun _ => (zS hi4), ⟨fun _ => (yae (v := (ii (gi i (0 : Int).toNat))) hE5), ⟨fun hh => Bool.noConfusion (show false = true from hh), ⟨fun hh => Bool.noConfusion (show false = true from hh), ⟨fun hh => Bool.noConfusion (show false = true from hh), ⟨fun hh => Bool.noConfusion (show false = true from hh), ⟨fun hh => Bool.noConfusion (show false = true from hh), trivial⟩⟩⟩⟩⟩⟩⟩⟩⟩⟩⟩⟩⟩⟩⟩, ?_⟩; refine rt_n rfl rfl rfl rfl rfl (yap rfl (am2 rfl rfl) yg6 ((ygG h (yaM _)).mono ?_)); rintro _ w27 ⟨r10, Ar6, lr6, cr6, rfl, hC, h⟩; replace hS := hS.call1 (hC.widen (ybt (yaB (fI .i64) _ _ _ _ _) ybu) hS.blt) 3 0 rfl; clear hC; refine ⟨_, rfl, ?_⟩; refine ⟨⟨fun _ => (yfm rfl rfl hi5), ⟨fun _ => (yaw (v := (ii (gi i (1 : Int).toNat))) rfl underlying3 rfl (rd_1 (hS.rdr 0 rfl) hx2 (fun q => yar q) rfl)), ⟨fun _ => (zi underlying22 yai (yaF (hS.rdr 0 rfl) hx2)), ⟨fun _ => (yae hE1), ⟨fun _ => (yae (v := (ii (gi i (0 : Int).toNat))) hE5), ⟨fun hh => Bool.noConfusion (show false = true from hh), ⟨fun hh => Bool.noConfusion (show false = true from hh), ⟨fun hh => Bool.noConfusion (show false = true from hh), ⟨fun hh => Bool.noConfusion (show false = true from hh), ⟨fun hh => Bool.noConfusion (show false = true from hh), ⟨fun hh => Bool.noConfusion (show false = true from hh), ⟨fun hh => Bool.noConfusion (show false = true from hh), ⟨fun hh => Bool.noConfusion (show false = true from hh), ⟨fun hh => Bool.noConfusion (show false = true from hh), ⟨fun hh => Bool.noConfusion (show false = true from hh), trivial⟩⟩⟩⟩⟩⟩⟩⟩⟩⟩⟩⟩⟩⟩⟩, ?_⟩; obtain ⟨hx9, h⟩ := h; refine rt_n rfl rfl rfl rfl rfl (ycB (c := cI) rfl rfl underlying22 underlying22 yai rfl rfl (by decide) hS 2 rfl (hS.yo 3 rfl) hx9 ?_); clear hS; intro A7 c7 w28 hS; refine ⟨⟨fun _ => (yfm rfl rfl hi5), ⟨fun _ => (yaw (v := (ii (gi i (1 : Int).toNat))) rfl underlying3 rfl (rd_1 (hS.rdr 0 rfl) hx2 (fun q => yar q) rfl)), ⟨fun _ => (zi underlying22 yai (yaF (hS.rdr 0 rfl) hx2)), ⟨fun _ => (yae hE1), ⟨fun _ => (yae (v := (ii (gi i (0 : Int).toNat))) hE5), ⟨fun hh => Bool.noConfusion (show false = true from hh), ⟨fun hh => Bool.noConfusion (show false = true from hh), ⟨fun hh => Bool.noConfusion (show false = true from hh), ⟨fun hh => Bool.noConfusion (show false = true from hh), ⟨fun hh => Bool.noConfusion (show false = true from hh), ⟨fun hh => Bool.noConfusion (show false = true from hh), ⟨fun hh => Bool.noConfusion (show false = true from hh), ⟨fun hh => Bool.noConfusion (show false = true from hh), ⟨fun hh => Bool.noConfusion (show false = true from hh), ⟨fun hh => Bool.noConfusion (show false = true from hh), trivial⟩⟩⟩⟩⟩⟩⟩⟩⟩⟩⟩⟩⟩⟩⟩, ?_⟩; obtain ⟨hx10, h⟩ := h; refine rt_n rfl rfl rfl rfl rfl (ycB (c := cI) rfl rfl underlying22 underlying22 yai rfl rfl (by decide) hS 2 rfl (hS.yo 1 rfl) hx10 ?_); clear hS; intro A8 c8 w29 hS; exact zb (rt_q rfl rfl rfl rfl (za (.slice A8 ((lr5 + lr6) + 1) c8)) (rt_end (j3 _ _ _ ⟨_, _, _, _, h, rfl, rfl, (hS.sel [2] (by decide))⟩)))
            clear hJ; intro j2; refine zr (zq (yae (v := (ii (gi i (0 : Int).toNat))) hE5) (zq zL (zq (zm (.bool (decide ((gi i (0 : Int).toNat) < 2)))) ?_))); by_cases hp6 : (gi i (0 : Int).toNat) < 2
            · replace h := h.1 hp6; refine rl_p (yab rfl (yad rfl (congrArg Value.bool (decide_eq_true hp6))) rfl) rfl (rl_p (yab rfl (yad rfl (congrArg Value.bool (decide_eq_true hp6))) rfl) rfl (rl_p (yab rfl (yad rfl (congrArg Value.bool (decide_eq_true hp6))) rfl) rfl (rl_p (yab rfl (yad rfl (congrArg Value.bool (decide_eq_true hp6))) rfl) rfl (zq (yau (v := (.bool (true))) (congrArg Value.bool (decide_eq_true hp6)) rfl) (yaa (yaz rfl (zs (zq (za (.slice none 0 0)) (yaa ?_))))))))); replace hS := hS.nil 1 rfl cI 3; exact yas rfl rfl ⟨_, _, _, _, rfl, (hS.sel [1] (by decide)), h⟩
            · replace h := h.2 hp6; refine rl_q (yac rfl (yad rfl (congrArg Value.bool (decide_eq_false hp6)))) rfl rfl (yae hE1) ?_; obtain ⟨hx11, h⟩ := h; refine rl_q (yac rfl (yad rfl (congrArg Value.bool (decide_eq_false hp6)))) rfl rfl (zi underlying22 yai (yaF (hS.rdr 0 rfl) hx11)) (rl_q (yac rfl (yad rfl (congrArg Value.bool (decide_eq_false hp6)))) rfl rfl (yaw (v := (ii (gi i (1 : Int).toNat))) rfl underlying3 rfl (rd_1 (hS.rdr 0 rfl) hx11 (fun q => yar q) rfl)) ?_); refine rl_q (yac rfl (yad rfl (congrArg Value.bool (decide_eq_false hp6)))) rfl rfl zL (zq (yav (v := (.bool (decide ((gi i (1 : Int).toNat) < 2)))) (congrArg Value.bool (decide_eq_false hp6)) rfl) (yaa ?_)); by_cases hp7 : (gi i (1 : Int).toNat) < 2
              · replace h := h.1 hp7; refine zc hp7 (zs (zq (za (.slice none 0 0)) (yaa ?_))); replace hS := hS.nil 1 rfl cI 3; exact yas rfl rfl ⟨_, _, _, _, rfl, (hS.sel [1] (by decide)), h⟩
              · replace h := h.2 hp7; exact zd hp7 (yak (j2 _ _ _ ⟨h, rfl, hE1, hE5, (hS.sel [0] (by decide))⟩))
          · replace h := h.2 hp5; refine zd hp5 (zs (zq (yhj hE10 rfl) (zq (za (.bool (decide (d = 8)))) (yaa ?_)))); by_cases hp8 : d = 8
            · replace h := h.1 hp8; refine zc hp8 (yag (ya6 [0, 1, 2, 3, 5, 6, 7, 4, 8, 9] (fun i => match i with | 4 => [5, 6, 7] | _ => []) yaS (by kernel_rfl) (by kernel_rfl) ?_)); replace hS := hS.drew; refine zp (yae (v := (ii (gi i (0 : Int).toNat))) hE5) (zp (yae hE1) ?_); obtain ⟨hx12, h⟩ := h; refine zp (zi underlying22 yai (yaF (hS.rdr 0 rfl) hx12)) (zp (yaw (v := (ii (gi i (1 : Int).toNat))) rfl underlying3 rfl (rd_1 (hS.rdr 0 rfl) hx12 (fun q => yar q) rfl)) ?_); refine zp (yae hE1) ?_; obtain ⟨hx13, h⟩ := h; refine zp (zi underlying22 yai (yaF (hS.rdr 0 rfl) hx13)) (zp (yaw (v := (ii (gi i (2 : Int).toNat))) rfl underlying3 rfl (rd_1 (hS.rdr 0 rfl) hx13 (fun q => yar q) rfl)) ?_); refine rp_n rfl rfl rfl rfl (yap rfl (am2 rfl rfl) enter_86 ((yhs h (yaM _)).mono ?_)); rintro _ w30 ⟨r11, rfl, hC, h⟩; replace hS := hS.pur hC.pure; clear hC; refine ⟨_, rfl, ?_⟩; refine ⟨⟨fun _ => (yaw (v := (ii (gi i (2 : Int).toNat))) rfl underlying3 rfl (rd_1 (hS.rdr 0 rfl) hx13 (fun q => yar q) rfl)), ⟨fun _ => (zi underlying22 yai (yaF (hS.rdr 0 rfl) hx13)), ⟨fun _ => (yae hE1), ⟨fun hh => Bool.noConfusion (show false = true from hh), ⟨fun hh => Bool.noConfusion (show false = true from hh), ⟨fun hh => Bool.noConfusion (show false = true from hh), ⟨fun hh => Bool.noConfusion (show false = true from hh), trivial⟩⟩⟩⟩⟩⟩⟩, ?_⟩; refine rp_n rfl rfl rfl rfl (yap rfl (am2 rfl rfl) enter_86 ((yhs h (yaM _)).mono ?_)); rintro _ w31 ⟨r12, rfl, hC, h⟩; replace hS := hS.pur hC.pure; clear hC; refine ⟨_, rfl, ?_⟩; refine zb (zp (za (ii r12)) (ybk (zs (zq (zm (ii r12)) (zq (yae hE0) (zq (yae hE1) (zn (yap rfl (am2 rfl rfl) enter_39 ((yg3 h (yaM _) (hS.rdr 0 rfl)).mono ?_))))))))); rintro _ w32 ⟨r13, rfl, hC, h⟩; replace hS := hS.pur hC.pure; clear hC; refine ⟨_, rfl, ?_⟩; refine zb (zq (zm (ii r12)) ?_); obtain ⟨hz2, h⟩ := h; obtain ⟨hi6, h⟩ := h; refine zq (v_quo rfl rfl hz2 hi6) (zn (yaD (l := [(0, (ii r12)), (1, (ii (r13.tdiv r12)))]) (cells := [(ii r12), (ii (r13.tdiv r12))]) (bp2 rfl rfl) underlying22 yai rfl rfl ?_)); intro g8 w33 hN; replace hS := hS.litf (n := 2) 1 rfl (fI .i64) hN ([r12, r13.tdiv r12] : List Int) rfl (by decide) rfl; clear hN; exact zb (zq (za (.slice (some ⟨g8, 0, none⟩) 2 2)) (yaa (yas rfl rfl ⟨_, _, _, _, rfl, (hS.sel [1] (by decide)), h⟩)))
            · replace h := h.2 hp8; refine zd hp8 (yak (yan (zs (zq (za (.slice none 0 0)) (yaa ?_))))); replace hS := hS.nil 1 rfl cI 3; exact yas rfl rfl ⟨_, _, _, _, rfl, (hS.sel [1] (by decide)), h⟩
  clear hJ; intro j; by_cases hp9 : d = 1
  · replace h := h.1 hp9; exact zc hp9 (yak (j _ _ _ ⟨_, h, rfl, rfl, rfl, rfl, rfl, rfl, (hS.sel [0] (by decide))⟩))
  · replace h := h.2 hp9; exact zd hp9 (zr (zq zE (zq (za (.bool (decide (d = 4)))) (yaa (j _ _ _ ⟨_, h, rfl, rfl, rfl, rfl, rfl, rfl, (hS.sel [0] (by decide))⟩)))))
def ygO (kind : Int) (l : List Int) (R : (List Int) → Int → Prop) : Prop :=
ygJ kind l (fun r =>
((r = 0 →
ygN kind l (fun r2 =>
(∃ I2 : Nat → (List Int) → Int → Prop, (∃ m0, I2 m0 ([]) 0) ∧ ∀ m2 out i, I2 m2 out i → 
((i < ((r2.length : Nat) : Int) →
((0 ≤ i ∧ i < ((r2.length : Nat) : Int)) ∧
(((gi r2 i.toNat) = 1 →
(In64 (i + 1) ∧
∃ m3, m3 < m2 ∧ I2 m3 out (i + 1))) ∧
(¬ ((gi r2 i.toNat) = 1) →
(out.length + 1 ≤ 1000000000 ∧
(In64 (i + 1) ∧
∃ m4, m4 < m2 ∧ I2 m4 (out ++ [gi r2 i.toNat]) (i + 1))))))) ∧
(¬ (i < ((r2.length : Nat) : Int)) →
R out 0))))) ∧
(¬ (r = 0) →
R ([]) r)))
theorem pok_r11_Cyclic {O : Nat → Prop} {w : World} {kind l Al ll cl} {R : (List Int) → Int → Prop} (h : ygO kind l R) (hO : ∀ k, O k → k < w.heap.size) (hA0 : (FP.sl cI Al ll cl l).P O w) :
    Calls Try.prog 21 #[(ii kind), (.slice Al ll cl)] w fun e w' => ∃ r3 r4 Ar2 lr2 cr2, e = .returned (.tuple #[(.slice Ar2 lr2 cr2), (ii r4)]) ∧ Sep w no O w' (rl [Res.own cI 3 Ar2 lr2 cr2 r3]) ∧ R r3 r4 := by
  unfold ygO at h; have hS : Sep w no O w (rl [Res.ro (FP.sl cI Al ll cl l)]) := Sep.startl hO [(FP.sl cI Al ll cl l)] ⟨hA0, trivial⟩; refine yay (l := [(ii kind), (.slice Al ll cl)]) func21 rfl ntmps21 (Nat.le_of_ble_eq_true rfl) (zs (zq (za (.slice none 0 0)) (zq (za (ii 0)) (yaa (yag (zs (zq (zm (ii kind)) (zq (zm (.slice Al ll cl)) (zn (yap rfl (am2 rfl rfl) enter_38 ((yg4 h (yaM _) (hS.rdr 0 rfl)).mono ?_))))))))))); rintro _ w2 ⟨r, rfl, hC, h⟩; replace hS := hS.pur hC.pure; clear hC; refine ⟨_, rfl, ?_⟩; refine zb (zq (za (ii r)) (yaa (zs (zq (zm (ii r)) (zq zN (yaa ?_)))))); by_cases hp : r = 0
  · replace h := h.1 hp; refine ze hp (yak (zs (zq (zm (ii kind)) (zq (zm (.slice Al ll cl)) (zn (yap rfl (am2 rfl rfl) enter_40 ((pok_r11_orders h (yaM _) (hS.rdr 0 rfl)).mono ?_))))))); rintro _ w3 ⟨r2, Ar, lr, cr, rfl, hC, h⟩; replace hS := hS.call1 (hC.widen (ybt (yaB (fI .i64) _ _ _ _ _) ybu) hS.blt) 1 0 rfl; clear hC; refine ⟨_, rfl, ?_⟩; refine zb (zq (za (.slice Ar lr cr)) (yaa (zs (zq (za (.slice none 0 0)) (yaa (yag (zs (zq (za (ii 0)) (yaa (yam ?_)))))))))); replace hS := hS.nil 2 rfl cI 3; obtain ⟨I2, ⟨m0, h0⟩, hr⟩ := h; refine yaL (fun m E ds w' => ∃ out i Aout lout cout, I2 m out i ∧ ds = [] ∧ E 7 = (Value.slice Ar lr cr) ∧ E 8 = (Value.slice Aout lout cout) ∧ E 9 = (ii i) ∧ Sep w no O w' (rl [Res.own cI 3 Aout lout cout out, Res.own cI 3 Ar lr cr r2])) m0 ⟨_, _, _, _, _, h0, rfl, rfl, rfl, rfl, (hS.sel [2, 1] (by decide))⟩ ?_; clear h0 hS; rintro m2 E ds w4 ⟨out, i, Aout, lout, cout, h, rfl, hE7, hE8, hE9, hS⟩ again; replace h := hr m2 out i h; clear hr; refine yag (zs (zq (yae hE9) (zq (yae hE7) (zq (ybp (n := r2.length) rfl underlying22 (ybi (hS.rdo 1 rfl))) (zq zL (yaa ?_)))))); by_cases hp2 : i < ((r2.length : Nat) : Int)
    · replace h := h.1 hp2; refine zc hp2 (yak (yag (yam (zs (zq (yae hE7) (zq (yae hE9) ?_)))))); obtain ⟨hx, h⟩ := h; refine zq (zi underlying22 yai (yaF (hS.rdo 1 rfl) hx)) (zq (yaw (v := (ii (gi r2 i.toNat))) rfl underlying3 rfl (rd_1 (hS.rdo 1 rfl) hx (fun q => yar q) rfl)) ?_); refine zq zN (yaa ?_); by_cases hp3 : (gi r2 i.toNat) = 1
      · replace h := h.1 hp3; refine ze hp3 (yak (yan (zr (zq (yae hE9) ?_)))); obtain ⟨hi, h⟩ := h; refine zq (zA hi) (zq (za (ii (i + 1))) (yaa ?_)); obtain ⟨mq, hlt, h⟩ := h; exact again mq _ _ _ ⟨_, _, _, _, _, h, rfl, hE7, hE8, rfl, (hS.sel [0, 1] (by decide))⟩ hlt
      · replace h := h.2 hp3; refine zf hp3 (zr (zq (yae hE8) (zq (yae hE7) (zq (yae hE9) (zq (zi underlying22 yai (yaF (hS.rdo 1 rfl) hx)) (zq (yaw (v := (ii (gi r2 i.toNat))) rfl underlying3 rfl (rd_1 (hS.rdo 1 rfl) hx (fun q => yar q) rfl)) ?_)))))); refine zn (yaD (l := [(0, (ii (gi r2 i.toNat)))]) (cells := [(ii (gi r2 i.toNat))]) (bp1 rfl) underlying22 yai rfl rfl ?_); intro g w5 hN; replace hS := hS.litf (n := 1) 2 rfl (fI .i64) hN ([gi r2 i.toNat] : List Int) rfl (by decide) rfl; clear hN; refine zb ?_; obtain ⟨hx2, h⟩ := h; refine zn (ycB (c := cI) rfl rfl underlying22 underlying22 yai rfl rfl (by decide) hS 0 rfl (hS.yo 2 rfl) hx2 ?_); clear hS; intro A c w6 hS; refine zb (zq (za (.slice A (lout + 1) c)) (yaa (yan (zr (zq (yae hE9) ?_))))); obtain ⟨hi2, h⟩ := h; refine zq (zA hi2) (zq (za (ii (i + 1))) (yaa ?_)); obtain ⟨mq, hlt, h⟩ := h; exact again mq _ _ _ ⟨_, _, _, _, _, h, rfl, hE7, rfl, rfl, (hS.sel [0, 1] (by decide))⟩ hlt
    · replace h := h.2 hp2; exact zd hp2 (yaJ rfl (zs (zq (yae hE8) (zq (za (.slice Aout lout cout)) (zq (za (ii 0)) (yaa (yaW rfl rfl rfl ⟨_, _, _, _, _, rfl, (hS.sel [0] (by decide)), h⟩)))))))
  · replace h := h.2 hp; refine zf hp (zs (zq (zm (ii r)) (zq (za (.slice none 0 0)) (zq (za (ii r)) (yaa ?_))))); replace hS := hS.nil 1 rfl cI 3; exact yaW rfl rfl rfl ⟨_, _, _, _, _, rfl, (hS.sel [1] (by decide)), h⟩
def ydf (n : Int) (times : List (List Int)) (R : Int → (List E3) → Prop) : Prop :=
(∃ I2 : Nat → Int → (List E3) → Prop, (∃ m0, I2 m0 0 ([])) ∧ ∀ m2 a g3, I2 m2 a g3 → 
((a < n →
(∃ I3 : Nat → Int → (List E3) → Prop, (∃ m0, I3 m0 a g3) ∧ ∀ m3 b g4, I3 m3 b g4 → 
((b < n →
((0 ≤ a ∧ a < ((times.length : Nat) : Int)) ∧
((0 ≤ b ∧ b < (((gx times a.toNat).length : Nat) : Int)) ∧
((0 < (gi (gx times a.toNat) b.toNat) →
(g4.length + 1 ≤ 1000000000 ∧
(In64 (b + 1) ∧
∃ m4, m4 < m3 ∧ I3 m4 (b + 1) (g4 ++ [(a, b, gi (gx times a.toNat) b.toNat)])))) ∧
(¬ (0 < (gi (gx times a.toNat) b.toNat)) →
(In64 (b + 1) ∧
∃ m5, m5 < m3 ∧ I3 m5 (b + 1) g4)))))) ∧
(¬ (b < n) →
(In64 (a + 1) ∧
∃ m6, m6 < m2 ∧ I2 m6 (a + 1) g4))))) ∧
(¬ (a < n) →
R n g3)))
theorem pok_r08_Joined {O : Nat → Prop} {w : World} {n times Atimes ltimes ctimes} {R : Int → (List E3) → Prop} (h : ydf n times R) (hO : ∀ k, O k → k < w.heap.size) (hA0 : (FP.sl (cL cI) Atimes ltimes ctimes times).P O w) :
    Calls Try.prog 94 #[(ii n), (.slice Atimes ltimes ctimes)] w fun e w' => ∃ r r2 Ar lr cr, e = .returned (.agg #[(ii r), (.slice Ar lr cr)]) ∧ Sep w no O w' (rl [Res.own c3 75 Ar lr cr r2]) ∧ R r r2 := by
  unfold ydf at h; have hS : Sep w no O w (rl [Res.ro (FP.sl (cL cI) Atimes ltimes ctimes times)]) := Sep.startl hO [(FP.sl (cL cI) Atimes ltimes ctimes times)] ⟨hA0, trivial⟩; refine yay (l := [(ii n), (.slice Atimes ltimes ctimes)]) func94 rfl ntmps94 (Nat.le_of_ble_eq_true rfl) (zs (zn (yaH yal ?_))); intro g w2 hN; replace hS : Sep w no O w2 (stl _ 1 (Res.box 31 g [(ii 0), (.slice none 0 0)])) := hS.new 1 rfl hN; clear hN; refine zb (yaa (zs (zq (zm (ii n)) (zn (yax (l := [(0, (ii n))]) (cells := [(ii n), (.slice none 0 0)]) (places := [(0, 1), (1, 1)]) (bp1 rfl) underlying31 yal (by kernel_rfl) rfl ?_))))); refine zb (zn (yaH yal ?_)); intro g2 w3 hN; replace hS : Sep w no O w3 (stl _ 2 (Res.box 31 g2 [(ii 0), (.slice none 0 0)])) := hS.new 2 rfl hN; clear hN; refine zb (zo (yaj (b := g2) (o := 0) (cells := #[(ii n), (.slice none 0 0)]) rfl rfl yal rfl rfl (yah (hS.bx 2 rfl) (Nat.le_of_ble_eq_true rfl)) ?_)); intro w4 e1; replace hS := hS.bstn 2 rfl 0 [(ii n), (.slice none 0 0)] e1; clear e1; refine zb (yaa (yag (zs (zq (za (ii 0)) (yaa (yam ?_)))))); replace hS := hS.nil 3 rfl c3 75; obtain ⟨I2, ⟨m0, h0⟩, hr⟩ := h; refine yaL (fun m E ds w' => ∃ a g3 Ag lg cg, I2 m a g3 ∧ ds = [] ∧ E 0 = (ii n) ∧ E 1 = (Value.slice Atimes ltimes ctimes) ∧ E 4 = (Value.pointer (some (⟨g, 0, none⟩ : Addr))) ∧ E 5 = (Value.pointer (some (⟨g2, 0, none⟩ : Addr))) ∧ E 6 = (ii a) ∧ Sep w no O w' (rl [Res.ro (FP.sl (cL cI) Atimes ltimes ctimes times), Res.box 31 g [(ii 0), (.slice none 0 0)], Res.box 31 g2 [(ii n), (.slice Ag lg cg)], Res.own c3 75 Ag lg cg g3])) m0 ⟨_, _, _, _, _, h0, rfl, rfl, rfl, rfl, rfl, rfl, (hS.sel [0, 1, 2, 3] (by decide))⟩ ?_; clear h0 hS; rintro m2 E ds w5 ⟨a, g3, Ag, lg, cg, h, rfl, hE0, hE1, hE4, hE5, hE6, hS⟩ again; replace h := hr m2 a g3 h; clear hr; refine yag (zs (zq (yae hE6) (zq (yae hE0) (zq zL (yaa ?_))))); by_cases hp : a < n
  · replace h := h.1 hp; refine zc hp (yak (yag (yam (zs (zq (yae hE6) (zq (za (ii a)) (yaa (yam ?_)))))))); obtain ⟨I3, ⟨m0, h0⟩, hr⟩ := h; refine yaL (fun m E ds w' => ∃ b g4 Ag2 lg2 cg2, I3 m b g4 ∧ ds = [] ∧ E 0 = (ii n) ∧ E 1 = (Value.slice Atimes ltimes ctimes) ∧ E 4 = (Value.pointer (some (⟨g, 0, none⟩ : Addr))) ∧ E 5 = (Value.pointer (some (⟨g2, 0, none⟩ : Addr))) ∧ E 6 = (ii a) ∧ E 7 = (ii b) ∧ Sep w no O w' (rl [Res.ro (FP.sl (cL cI) Atimes ltimes ctimes times), Res.box 31 g [(ii 0), (.slice none 0 0)], Res.box 31 g2 [(ii n), (.slice Ag2 lg2 cg2)], Res.own c3 75 Ag2 lg2 cg2 g4])) m0 ⟨_, _, _, _, _, h0, rfl, hE0, hE1, hE4, hE5, hE6, rfl, (hS.sel [0, 1, 2, 3] (by decide))⟩ ?_; clear h0 hS; rintro m3 E ds w6 ⟨b, g4, Ag2, lg2, cg2, h, rfl, hE0, hE1, hE4, hE5, hE6, hE7, hS⟩ again2; replace h := hr m3 b g4 h; clear hr; refine yag (zs (zq (yae hE7) (zq (yae hE0) (zq zL (yaa ?_))))); by_cases hp2 : b < n
    · replace h := h.1 hp2; refine zc hp2 (yak (yag (yam (zs (zq (yae hE1) (zq (yae hE6) ?_)))))); obtain ⟨hx, h⟩ := h; refine zq (zi underlying108 yfx (yaF (hS.rdr 0 rfl) hx)) ?_; obtain ⟨A, l, c, hc, hq⟩ := hS.el 0 rfl hx 4 5 rfl rfl (by decide); replace hS := hq; clear hq; refine zq (yaw (v := (.slice A l c)) rfl underlying22 rfl (hS.clr 5 rfl)) (zq (yae hE7) ?_); obtain ⟨hx2, h⟩ := h; refine zq (zi underlying22 yai (yaF (hS.rdr 4 rfl) hx2)) (zq (yaw (v := (ii (gi (gx times a.toNat) b.toNat))) rfl underlying3 rfl (rd_1 (hS.rdr 4 rfl) hx2 (fun q => yar q) rfl)) ?_); refine zq zG (yaa ?_); by_cases hp3 : 0 < (gi (gx times a.toNat) b.toNat)
      · replace h := h.1 hp3; refine zc hp3 (ya6 [0, 1, 2, 3, 4, 5, 6, 7, 8, 9, 10, 11, 12, 13, 14, 15] (fun i => match i with | 11 => [0, 1] | 12 => [0, 1] | _ => []) yaS (by kernel_rfl) (by kernel_rfl) ?_); replace hS := hS.drew; refine zp (yao hE5 underlying31 rfl ybW) (zp (zl underlying29 (Row.cell (hS.bx 2 rfl) (i := 1) rfl)) (zp (yae hE6) (zp (yae hE7) (zp (yae hE1) (zp (yae hE6) (zp (zi underlying108 yfx (yaF (hS.rdr 0 rfl) hx)) ?_)))))); obtain ⟨A2, l2, c2, hc2, hq⟩ := hS.el 0 rfl hx 6 7 rfl rfl (by decide); replace hS := hq; clear hq; refine zp (yaw (v := (.slice A2 l2 c2)) rfl underlying22 rfl (hS.clr 7 rfl)) (zp (yae hE7) (zp (zi underlying22 yai (yaF (hS.rdr 6 rfl) hx2)) (zp (yaw (v := (ii (gi (gx times a.toNat) b.toNat))) rfl underlying3 rfl (rd_1 (hS.rdr 6 rfl) hx2 (fun q => yar q) rfl)) ?_))); refine rp_n rfl rfl rfl rfl (yax (l := [(0, (ii a)), (1, (ii b)), (2, (ii (gi (gx times a.toNat) b.toNat)))]) (cells := [(ii a), (ii b), (ii (gi (gx times a.toNat) b.toNat))]) (places := [(0, 1), (1, 1), (2, 1)]) (bp3 rfl rfl rfl) underlying75 ybA (by kernel_rfl) rfl ?_); refine ⟨⟨fun hh => Bool.noConfusion (show false = true from hh), ⟨fun hh => Bool.noConfusion (show false = true from hh), ⟨fun hh => Bool.noConfusion (show false = true from hh), ⟨fun hh => Bool.noConfusion (show false = true from hh), ⟨fun hh => Bool.noConfusion (show false = true from hh), ⟨fun hh => Bool.noConfusion (show false = true from hh), ⟨fun hh => Bool.noConfusion (show false = true from hh), ⟨fun hh => Bool.noConfusion (show false = true from hh), ⟨fun hh => Bool.noConfusion (show false = true from hh), ⟨fun _ => (zl underlying29 (Row.cell (hS.bx 2 rfl) (i := 1) rfl)), ⟨fun _ => (yao hE5 underlying31 rfl ybW), trivial⟩⟩⟩⟩⟩⟩⟩⟩⟩⟩⟩, ?_⟩; refine rp_n rfl rfl rfl rfl (yaD (l := [(0, (.agg #[(ii a), (ii b), (ii (gi (gx times a.toNat) b.toNat))]))]) (cells := [(ii a), (ii b), (ii (gi (gx times a.toNat) b.toNat))]) (bp1 rfl) underlying29 ybA rfl rfl ?_); intro g5 w7 hN; replace hS := hS.litf (n := 1) 8 rfl (fP (fI .i64) (fP (fI .i64) (fI .i64))) hN ([(a, b, gi (gx times a.toNat) b.toNat)] : List E3) rfl (by decide) rfl; clear hN; refine ⟨⟨fun hh => Bool.noConfusion (show false = true from hh), ⟨fun hh => Bool.noConfusion (show false = true from hh), ⟨fun hh => Bool.noConfusion (show false = true from hh), ⟨fun hh => Bool.noConfusion (show false = true from hh), ⟨fun hh => Bool.noConfusion (show false = true from hh), ⟨fun hh => Bool.noConfusion (show false = true from hh), ⟨fun hh => Bool.noConfusion (show false = true from hh), ⟨fun hh => Bool.noConfusion (show false = true from hh), ⟨fun hh => Bool.noConfusion (show false = true from hh), ⟨fun _ => (zl underlying29 (Row.cell (hS.bx 2 rfl) (i := 1) rfl)), ⟨fun _ => (yao hE5 underlying31 rfl ybW), trivial⟩⟩⟩⟩⟩⟩⟩⟩⟩⟩⟩, ?_⟩; obtain ⟨hx3, h⟩ := h; refine rp_n rfl rfl rfl rfl (ycB (c := c3) rfl rfl underlying29 underlying29 ybA rfl rfl (by decide) hS 3 rfl (hS.yo 8 rfl) hx3 ?_); clear hS; intro A3 c3 w8 hS; refine zb (zp (yao hE5 underlying31 rfl ybW) (yfN rfl rfl rfl (zt (.slice A3 (lg2 + 1) c3) ybW (hS.bwr 2 rfl (j := 1) rfl) ?_))); intro w9 e1; replace hS := hS.bst 2 rfl 1 (.slice A3 (lg2 + 1) c3) e1; clear e1; refine zb (ybk (yan (zr (zq (yae hE7) ?_)))); obtain ⟨hi, h⟩ := h; refine zq (zA hi) (zq (za (ii (b + 1))) (yaa ?_)); obtain ⟨mq, hlt, h⟩ := h; exact again2 mq _ _ _ ⟨_, _, _, _, _, h, rfl, hE0, hE1, hE4, hE5, hE6, rfl, (hS.sel [0, 1, 2, 3] (by decide))⟩ hlt
      · replace h := h.2 hp3; refine zd hp3 (yak (yan (zr (zq (yae hE7) ?_)))); obtain ⟨hi2, h⟩ := h; refine zq (zA hi2) (zq (za (ii (b + 1))) (yaa ?_)); obtain ⟨mq, hlt, h⟩ := h; exact again2 mq _ _ _ ⟨_, _, _, _, _, h, rfl, hE0, hE1, hE4, hE5, hE6, rfl, (hS.sel [0, 1, 2, 3] (by decide))⟩ hlt
    · replace h := h.2 hp2; refine zd hp2 (yaJ rfl (yan (zr (zq (yae hE6) ?_)))); obtain ⟨hi3, h⟩ := h; refine zq (zA hi3) (zq (za (ii (a + 1))) (yaa ?_)); obtain ⟨mq, hlt, h⟩ := h; exact again mq _ _ _ ⟨_, _, _, _, _, h, rfl, hE0, hE1, hE4, hE5, rfl, (hS.sel [0, 1, 2, 3] (by decide))⟩ hlt
  · replace h := h.2 hp; refine zd hp (yaJ rfl (zs (zq (yaY (vs := [(ii n), (.slice Ag lg cg)]) hE5 underlying31 rfl yal ⟨Row.cell (hS.bx 2 rfl) (i := 0) rfl, Row.cell (hS.bx 2 rfl) (i := 1) rfl, trivial⟩) (zo (yaj (b := g) (o := 0) (cells := #[(ii n), (.slice Ag lg cg)]) hE4 rfl yal rfl rfl (yah (hS.bx 1 rfl) (Nat.le_of_ble_eq_true rfl)) ?_))))); intro w10 e1; replace hS := hS.bstn 1 rfl 0 [(ii n), (.slice Ag lg cg)] e1; clear e1; exact zb (yaa (ye1 rfl (rv_n (vs := [(ii n), (.slice Ag lg cg)]) hE4 underlying31 rfl yal ⟨Row.cell (hS.bx 1 rfl) (i := 0) rfl, Row.cell (hS.bx 1 rfl) (i := 1) rfl, trivial⟩) ⟨_, _, _, _, _, rfl, (hS.sel [3] (by decide)), h⟩))
end Go.Proofs.Ytdbpajnjhgocoaa

/- Table, whose rows stay one's own; printed by tab.py. -/
namespace Go.Proofs.Ytdbpajnjhgocoaa
open Go Go.RowKit Go.Shelf Go.Proofs.Try
set_option linter.unusedVariables false
set_option maxRecDepth 100000
theorem tab_r08_Table {O : Nat → Prop} {w : World} {n : Int} (hn : 0 ≤ n ∧ n ≤ 1000) (hO : ∀ k, O k → k < w.heap.size) :
    Calls Try.prog 93 #[(Value.int .i64 n)] w fun e w' => ∃ Ar : Option Addr, ∃ lr : Nat, ∃ cr : Nat, ∃ Gr : List Nat, e = .returned (Value.slice Ar lr cr) ∧ Sep w no O w' (rl [Res.own cA 22 Ar lr cr (ows Gr (List.replicate n.toNat (List.replicate n.toNat (0 : Int)))), Res.rows 3 Gr (List.replicate n.toNat (List.replicate n.toNat (0 : Int)))]) := by
  have hS : Sep w no O w (rl []) := Sep.start w hO
  refine yay (l := [(Value.int .i64 n)]) func93 rfl ntmps93 (Nat.le_of_ble_eq_true rfl) ?_
  refine yag ?_
  refine ybV yaS ?_
  refine rl_q rfl rfl rfl (ydN (v := (Value.slice none 0 0)) rfl) ?_
  refine yaa ?_
  refine yag ?_
  refine ybV yaS ?_
  refine rl_q rfl rfl rfl (ydN (v := (Value.slice none 0 0)) rfl) ?_
  refine yaa ?_
  refine yag ?_
  refine yag ?_
  refine ybV yaS ?_
  refine rl_q rfl rfl rfl (ydN (v := (Value.int .i64 0)) rfl) ?_
  refine yaa ?_
  refine yam ?_
  replace hS := hS.tabnil 0 1 rfl rfl rfl 22 3
  refine yaL (fun m E ds w' => ∃ k : Nat, ∃ Aout : Option Addr, ∃ lout : Nat, ∃ cout : Nat, ∃ G : List Nat, k + m = n.toNat ∧ ds = [] ∧ E 0 = (Value.int .i64 n) ∧ E 3 = (Value.slice Aout lout cout) ∧ E 4 = (Value.int .i64 (k : Int)) ∧ Sep w no O w' (rl [Res.own cA 22 Aout lout cout (ows G (List.replicate k (List.replicate n.toNat (0 : Int)))), Res.rows 3 G (List.replicate k (List.replicate n.toNat (0 : Int)))])) n.toNat ⟨0, _, _, _, [], by omega, rfl, rfl, rfl, rfl, (hS.sel [0, 1] (by decide))⟩ ?_
  clear hS
  rintro m2 E ds w2 ⟨k, Aout, lout, cout, G, h, rfl, hE0, hE3, hE4, hS⟩ again
  refine yag ?_
  refine yag ?_
  refine ybV yaS ?_
  refine rl_q rfl rfl rfl (yae (v := (Value.int .i64 (k : Int))) hE4) ?_
  refine rl_q rfl rfl rfl (yae (v := (Value.int .i64 n)) hE0) ?_
  refine rl_q rfl rfl rfl (ycT rfl rfl) ?_
  refine yaa ?_
  by_cases hp : (k : Int) < n
  · have h := h
    refine yaz (congrArg Value.bool (decide_eq_true hp)) ?_
    refine yak ?_
    refine yag ?_
    refine yam ?_
    refine ybV yaS ?_
    refine rl_q rfl rfl rfl (yae (v := (Value.slice Aout lout cout)) hE3) ?_
    refine rl_q rfl rfl rfl (yae (v := (Value.int .i64 n)) hE0) ?_
    refine rl_n rfl rfl rfl rfl (n_make rfl rfl underlying22 yai (by decide) rfl (by omega) ?_)
    intro g w3 hN
    replace hS := hS.made 2 rfl cI (Value.int .i64 0) (0 : Int) (fun _ _ => rfl) hN (by omega)
    clear hN
    refine ⟨Stb.none _, ?_⟩
    refine rl_n rfl rfl rfl rfl (yaD (l := [(0, (Value.slice (some ⟨g, 0, none⟩) n.toNat n.toNat))]) (cells := [(Value.slice (some ⟨g, 0, none⟩) n.toNat n.toNat)]) (bp1 rfl) underlying108 yfx rfl rfl ?_)
    intro g2 w4 hN
    replace hS := hS.litf (n := 1) 3 rfl fA hN ([((some ⟨g, 0, none⟩ : Option Addr), n.toNat, n.toNat)]) rfl (by decide) rfl
    clear hN
    refine ⟨Stb.none _, ?_⟩
    refine rl_n rfl rfl rfl rfl (ycB (c := cA) rfl rfl underlying108 underlying108 yfx rfl rfl (by decide) hS 0 rfl (hS.yo 3 rfl) (by rw [ows_len (hS.rowsl 1 rfl)]; simp; omega) ?_)
    clear hS
    intro A c w5 hS
    replace hS := hS.rowpush 1 0 2 rfl rfl rfl rfl rfl rfl
    rw [← List.replicate_succ'] at hS
    refine ⟨Stb.none _, ?_⟩
    refine rl_q rfl rfl rfl (ydN (v := (Value.slice A (lout + 1) c)) rfl) ?_
    refine yaa ?_
    refine yan ?_
    refine ybV yaS ?_
    refine rl_q rfl rfl rfl (yae (v := (Value.int .i64 (k : Int))) hE4) ?_
    refine rl_q rfl rfl rfl (yca rfl rfl (show In64 ((k : Int) + 1) from ⟨by omega, by omega⟩)) ?_
    refine rl_q rfl rfl rfl (ydN (v := (Value.int .i64 ((k : Int) + 1))) rfl) ?_
    refine yaa ?_
    exact again (m2 - 1) _ _ _ ⟨k + 1, _, _, _, _, by omega, rfl, hE0, rfl, by simp [upd], (hS.sel [0, 1] (by decide))⟩ (by omega)
  · have h := h
    refine yaQ (congrArg Value.bool (decide_eq_false hp)) ?_
    refine yaJ rfl ?_
    refine yag ?_
    refine ybV yaS ?_
    refine rl_q rfl rfl rfl (yae (v := (Value.slice Aout lout cout)) hE3) ?_
    refine rl_q rfl rfl rfl (ydN (v := (Value.slice Aout lout cout)) rfl) ?_
    refine yaa ?_
    have hk : k = n.toNat := by omega
    subst hk
    exact yas rfl rfl ⟨_, _, _, _, rfl, (hS.sel [0, 1] (by decide))⟩
end Go.Proofs.Ytdbpajnjhgocoaa

/- Pure forms of functions, made by program (pf.py), each with the proof that the code does so. -/
namespace Go.Proofs.Ytdbpajnjhgocoaa
open Go Go.RowKit Go.Shelf Go.Proofs.Try
set_option linter.unusedVariables false
set_option maxRecDepth 100000
set_option maxHeartbeats 8000000
end Go.Proofs.Ytdbpajnjhgocoaa

/- Pure forms of functions, made by program (pf.py), each with the proof that the code does so. -/
namespace Go.Proofs.Ytdbpajnjhgocoaa
open Go Go.RowKit Go.Shelf Go.Proofs.Try
set_option linter.unusedVariables false
set_option maxRecDepth 100000
set_option maxHeartbeats 8000000
def ydU (d : Int) (i : List (Int × Int)) (R : Int → (List E3) → Int → Prop) : Prop :=
(∃ J2 : Prop, (J2 → ((4096 < ((i.length : Nat) : Int) →
R 0 ([]) 5) ∧
(¬ (4096 < ((i.length : Nat) : Int)) →
((0 ≤ d ∧ d ≤ 1000) ∧
(∃ I2 : Nat → Int → (List (List Int)) → Prop, (∃ m0, I2 m0 0 (List.replicate d.toNat (List.replicate d.toNat (0 : Int)))) ∧ ∀ m2 v v2, I2 m2 v v2 → 
((v < ((i.length : Nat) : Int) →
((0 ≤ v ∧ v < ((i.length : Nat) : Int)) ∧
((0 ≤ (0 : Int) ∧ (0 : Int) < 2) ∧
((0 ≤ (1 : Int) ∧ (1 : Int) < 2) ∧
(∃ J3 : Prop, (J3 → ((0 ≤ (mnF ((gx i v.toNat).1) ((gx i v.toNat).2)) ∧ (mnF ((gx i v.toNat).1) ((gx i v.toNat).2)) < ((v2.length : Nat) : Int)) ∧
((0 ≤ (mxF ((gx i v.toNat).1) ((gx i v.toNat).2)) ∧ (mxF ((gx i v.toNat).1) ((gx i v.toNat).2)) < (((gx v2 (mnF ((gx i v.toNat).1) ((gx i v.toNat).2)).toNat).length : Nat) : Int)) ∧
(In64 ((gi (gx v2 (mnF ((gx i v.toNat).1) ((gx i v.toNat).2)).toNat) (mxF ((gx i v.toNat).1) ((gx i v.toNat).2)).toNat) + 1) ∧
(In64 (v + 1) ∧
∃ m3, m3 < m2 ∧ I2 m3 (v + 1) (v2.set (mnF ((gx i v.toNat).1) ((gx i v.toNat).2)).toNat ((gx v2 (mnF ((gx i v.toNat).1) ((gx i v.toNat).2)).toNat).set (mxF ((gx i v.toNat).1) ((gx i v.toNat).2)).toNat ((gi (gx v2 (mnF ((gx i v.toNat).1) ((gx i v.toNat).2)).toNat) (mxF ((gx i v.toNat).1) ((gx i v.toNat).2)).toNat) + 1)))))))) ∧
((((gx i v.toNat).1) < 0 →
R 0 ([]) 2) ∧
(¬ (((gx i v.toNat).1) < 0) →
((d ≤ ((gx i v.toNat).1) →
R 0 ([]) 2) ∧
(¬ (d ≤ ((gx i v.toNat).1)) →
((((gx i v.toNat).2) < 0 →
R 0 ([]) 2) ∧
(¬ (((gx i v.toNat).2) < 0) →
((d ≤ ((gx i v.toNat).2) →
R 0 ([]) 2) ∧
(¬ (d ≤ ((gx i v.toNat).2)) →
J3))))))))))))) ∧
(¬ (v < ((i.length : Nat) : Int)) →
(∃ I3 : Nat → Int → Prop, (∃ m0, I3 m0 0) ∧ ∀ m4 v3, I3 m4 v3 → 
((v3 < d →
(∃ I4 : Nat → Int → Prop, (∃ m0, I4 m0 0) ∧ ∀ m5 v4, I4 m5 v4 → 
((v4 < d →
((0 ≤ v3 ∧ v3 < ((v2.length : Nat) : Int)) ∧
((0 ≤ v4 ∧ v4 < (((gx v2 v3.toNat).length : Nat) : Int)) ∧
((50 < (gi (gx v2 v3.toNat) v4.toNat) →
R 0 ([]) 5) ∧
(¬ (50 < (gi (gx v2 v3.toNat) v4.toNat)) →
(In64 (v4 + 1) ∧
∃ m6, m6 < m5 ∧ I4 m6 (v4 + 1))))))) ∧
(¬ (v4 < d) →
(In64 (v3 + 1) ∧
∃ m7, m7 < m4 ∧ I3 m7 (v3 + 1)))))) ∧
(¬ (v3 < d) →
ydf d v2 (fun r r2 =>
R r r2 0))))))))))) ∧
((d < 1 →
R 0 ([]) 2) ∧
(¬ (d < 1) →
((12 < d →
R 0 ([]) 2) ∧
(¬ (12 < d) →
J2)))))
theorem pok_r08_Make {O : Nat → Prop} {w : World} {d i Ai li ci} {R : Int → (List E3) → Int → Prop} (h : ydU d i R) (hO : ∀ k, O k → k < w.heap.size) (hA0 : (FP.sl c2 Ai li ci i).P O w) :
    Calls Try.prog 78 #[(ii d), (.slice Ai li ci)] w fun e w' => ∃ r3 r4 r5 Ar2 lr2 cr2, e = .returned (.tuple #[(.agg #[(ii r3), (.slice Ar2 lr2 cr2)]), (ii r5)]) ∧ Sep w no O w' (rl [Res.own c3 75 Ar2 lr2 cr2 r4]) ∧ R r3 r4 r5 := by
  unfold ydU at h; have hS : Sep w no O w (rl [Res.ro (FP.sl c2 Ai li ci i)]) := Sep.startl hO [(FP.sl c2 Ai li ci i)] ⟨hA0, trivial⟩; refine yay (l := [(ii d), (.slice Ai li ci)]) func78 rfl ntmps78 (Nat.le_of_ble_eq_true rfl) (zs (zn (yaH yal ?_))); intro g w2 hN; replace hS : Sep w no O w2 (stl _ 1 (Res.box 31 g [(ii 0), (.slice none 0 0)])) := hS.new 1 rfl hN; clear hN; refine zb (zq (za (ii 0)) (yaa (yag (yag ?_)))); obtain ⟨J2, hJ, h⟩ := h; refine ycE (fun E ds w' => J2 ∧ ds = [] ∧ E 0 = (ii d) ∧ E 1 = (Value.slice Ai li ci) ∧ E 4 = (Value.pointer (some (⟨g, 0, none⟩ : Addr))) ∧ Sep w no O w' (rl [Res.ro (FP.sl c2 Ai li ci i), Res.box 31 g [(ii 0), (.slice none 0 0)]])) ?_ ?_
  · clear h hS; rintro E ds w3 ⟨h, rfl, hE0, hE1, hE4, hS⟩; replace h := hJ h; refine yag (zs (zq (yae hE1) (zq (ybp (n := i.length) rfl underlying57 (ybi (hS.rdr 0 rfl))) (zq zG (yaa ?_))))); by_cases hp : 4096 < ((i.length : Nat) : Int)
    · replace h := h.1 hp; refine zc hp (zs (zn (yax (l := []) (cells := [(ii 0), (.slice none 0 0)]) (places := [(0, 1), (1, 1)]) (bp0) underlying31 yal (by kernel_rfl) rfl ?_))); refine zb (zo (yaj (b := g) (o := 0) (cells := #[(ii 0), (.slice none 0 0)]) hE4 rfl yal rfl rfl (yah (hS.bx 1 rfl) (Nat.le_of_ble_eq_true rfl)) ?_)); intro w4 e1; replace hS := hS.bstn 1 rfl 0 [(ii 0), (.slice none 0 0)] e1; clear e1; refine zb (zq (za (ii 5)) (yaa ?_)); replace hS := hS.nil 2 rfl c3 75; exact yaq rfl (rv_n (vs := [(ii 0), (.slice none 0 0)]) hE4 underlying31 rfl yal ⟨Row.cell (hS.bx 1 rfl) (i := 0) rfl, Row.cell (hS.bx 1 rfl) (i := 1) rfl, trivial⟩) (rv_t rfl) ⟨_, _, _, _, _, _, rfl, (hS.sel [2] (by decide)), h⟩
    · replace h := h.2 hp; refine zd hp (yak (zs (zq (yae hE0) ?_))); obtain ⟨hx, h⟩ := h; refine zn (yap rfl (am1 rfl) enter_93 ((tab_r08_Table hx hS.blt).mono ?_)); rintro _ w5 ⟨At, lt, ct, Gt, rfl, hC⟩; replace hS := hS.call2 hC 2 0 3 1 rfl rfl (by decide) (by decide); clear hC; refine ⟨_, rfl, ?_⟩; refine zb (zq (za (.slice At lt ct)) (yaa (yag (zs (zq (za (ii 0)) (yaa (yam ?_))))))); obtain ⟨I2, ⟨m0, h0⟩, hr⟩ := h; refine yaL (fun m E ds w' => ∃ v v2, I2 m v v2 ∧ ds = [] ∧ E 0 = (ii d) ∧ E 1 = (Value.slice Ai li ci) ∧ E 4 = (Value.pointer (some (⟨g, 0, none⟩ : Addr))) ∧ E 6 = (Value.slice At lt ct) ∧ E 7 = (ii v) ∧ Sep w no O w' (rl [Res.ro (FP.sl c2 Ai li ci i), Res.box 31 g [(ii 0), (.slice none 0 0)], Res.own cA 22 At lt ct (ows Gt v2), Res.rows 3 Gt v2])) m0 ⟨_, _, h0, rfl, hE0, hE1, hE4, rfl, rfl, (hS.sel [0, 1, 2, 3] (by decide))⟩ ?_; clear h0 hS; rintro m2 E ds w6 ⟨v, v2, h, rfl, hE0, hE1, hE4, hE6, hE7, hS⟩ again; replace h := hr m2 v v2 h; clear hr; refine yag (zs (zq (yae hE7) (zq (yae hE1) (zq (ybp (n := i.length) rfl underlying57 (ybi (hS.rdr 0 rfl))) (zq zL (yaa ?_)))))); by_cases hp2 : v < ((i.length : Nat) : Int)
      · replace h := h.1 hp2; refine zc hp2 (yak (yag (yam (yag (ya6 [0, 1, 2, 3, 4, 5, 6, 7, 8, 9, 10, 11] st0 yaS (by kernel_rfl) (by kernel_rfl) ?_))))); replace hS := hS.drew; refine zp (yae hE1) (zp (yae hE7) ?_); obtain ⟨hx2, h⟩ := h; refine zp (zi underlying57 yaA (yaF (hS.rdr 0 rfl) hx2)) ?_; obtain ⟨hx3, h⟩ := h; refine zp (ydV rfl rfl underlying59 yai hx3) (zp (yaw (v := (ii ((gx i v.toNat).1))) rfl underlying3 rfl (rd_f (hS.rdr 0 rfl) hx2 (fun q => ydC q) 0 rfl)) ?_); refine zp (yae hE1) (zp (yae hE7) (zp (zi underlying57 yaA (yaF (hS.rdr 0 rfl) hx2)) ?_)); obtain ⟨hx4, h⟩ := h; refine zp (ydV rfl rfl underlying59 yai hx4) (zp (yaw (v := (ii ((gx i v.toNat).2))) rfl underlying3 rfl (rd_f (hS.rdr 0 rfl) hx2 (fun q => ydC q) 1 rfl)) ?_); refine zp (za (ii ((gx i v.toNat).1))) (zp (za (ii ((gx i v.toNat).2))) (ybk (yag (yag ?_)))); obtain ⟨J3, hJ, h⟩ := h; refine ycE (fun E ds w' => J3 ∧ ds = [] ∧ E 0 = (ii d) ∧ E 1 = (Value.slice Ai li ci) ∧ E 4 = (Value.pointer (some (⟨g, 0, none⟩ : Addr))) ∧ E 6 = (Value.slice At lt ct) ∧ E 7 = (ii v) ∧ E 8 = (ii ((gx i v.toNat).1)) ∧ E 9 = (ii ((gx i v.toNat).2)) ∧ Sep w no O w' (rl [Res.ro (FP.sl c2 Ai li ci i), Res.box 31 g [(ii 0), (.slice none 0 0)], Res.own cA 22 At lt ct (ows Gt v2), Res.rows 3 Gt v2])) ?_ ?_
        · clear h hS; rintro E ds w7 ⟨h, rfl, hE0, hE1, hE4, hE6, hE7, hE8, hE9, hS⟩; replace h := hJ h; refine zr (zq (yae hE6) (zq (yae (v := (ii ((gx i v.toNat).1))) hE8) (zq (yae (v := (ii ((gx i v.toNat).2))) hE9) (zq (v_min2 rfl rfl) ?_)))); obtain ⟨hx5, h⟩ := h; refine zq (zi underlying108 yfx (hS.rowix 3 2 rfl rfl hx5)) (zq (yaw (v := (.slice (rowA Gt (mnF ((gx i v.toNat).1) ((gx i v.toNat).2))) ((gx v2 (mnF ((gx i v.toNat).1) ((gx i v.toNat).2)).toNat).length) ((gx v2 (mnF ((gx i v.toNat).1) ((gx i v.toNat).2)).toNat).length))) rfl underlying22 rfl (hS.rowcell 3 2 rfl rfl hx5)) (zq (yae (v := (ii ((gx i v.toNat).1))) hE8) (zq (yae (v := (ii ((gx i v.toNat).2))) hE9) (zq (v_max2 rfl rfl) ?_)))); obtain ⟨hx6, h⟩ := h; refine zq (zi underlying22 yai (yaF (hS.rowfp 3 rfl hx5) hx6)) (zq (yaw (v := (ii (gi (gx v2 (mnF ((gx i v.toNat).1) ((gx i v.toNat).2)).toNat) (mxF ((gx i v.toNat).1) ((gx i v.toNat).2)).toNat))) rfl underlying3 rfl (rd_1 (f := fI .i64) (hS.rowfp 3 rfl hx5) hx6 (fun q => yar q) rfl)) ?_); obtain ⟨hi, h⟩ := h; refine zq (zA hi) (zq (zi underlying22 yai (yaF (hS.rowfp 3 rfl hx5) hx6)) (zo (zt (ii ((gi (gx v2 (mnF ((gx i v.toNat).1) ((gx i v.toNat).2)).toNat) (mxF ((gx i v.toNat).1) ((gx i v.toNat).2)).toNat) + 1)) yai (hS.rowwr 3 rfl hx5 hx6) ?_))); intro w8 e1; replace hS := hS.rowst 3 rfl hx5 hx6 ((gi (gx v2 (mnF ((gx i v.toNat).1) ((gx i v.toNat).2)).toNat) (mxF ((gx i v.toNat).1) ((gx i v.toNat).2)).toNat) + 1) e1; clear e1; replace hS := hS.rowre 2 rfl (T' := (v2.set (mnF ((gx i v.toNat).1) ((gx i v.toNat).2)).toNat ((gx v2 (mnF ((gx i v.toNat).1) ((gx i v.toNat).2)).toNat).set (mxF ((gx i v.toNat).1) ((gx i v.toNat).2)).toNat ((gi (gx v2 (mnF ((gx i v.toNat).1) ((gx i v.toNat).2)).toNat) (mxF ((gx i v.toNat).1) ((gx i v.toNat).2)).toNat) + 1)))) (ows_set (ydC (tn_lt hx5)) (List.length_set ..)); refine zb (yaa (yan (zr (zq (yae hE7) ?_)))); obtain ⟨hi2, h⟩ := h; refine zq (zA hi2) (zq (za (ii (v + 1))) (yaa ?_)); obtain ⟨mq, hlt, h⟩ := h; exact again mq _ _ _ ⟨_, _, h, rfl, hE0, hE1, hE4, hE6, rfl, (hS.sel [0, 1, 2, 3] (by decide))⟩ hlt
        clear hJ; intro j2; refine zr (zq (zm (ii ((gx i v.toNat).1))) (zq zL (zq (zm (.bool (decide (((gx i v.toNat).1) < 0)))) ?_))); by_cases hp3 : ((gx i v.toNat).1) < 0
        · replace h := h.1 hp3; refine rl_p (yab rfl (yad rfl (congrArg Value.bool (decide_eq_true hp3))) rfl) rfl (rl_p (yab rfl (yad rfl (congrArg Value.bool (decide_eq_true hp3))) rfl) rfl (rl_p (yab rfl (yad rfl (congrArg Value.bool (decide_eq_true hp3))) rfl) rfl (zq (yau (v := (.bool (true))) (congrArg Value.bool (decide_eq_true hp3)) rfl) (zq (zm (.bool (true))) (rl_p (yab rfl (yad rfl rfl) rfl) rfl (rl_p (yab rfl (yad rfl rfl) rfl) rfl (zq (yau (v := (.bool (true))) rfl rfl) (zq (zm (.bool (true))) (rl_p (yab rfl (yad rfl rfl) rfl) rfl (rl_p (yab rfl (yad rfl rfl) rfl) rfl (rl_p (yab rfl (yad rfl rfl) rfl) rfl (zq (yau (v := (.bool (true))) rfl rfl) (yaa (yaz rfl (zs (zn (yax (l := []) (cells := [(ii 0), (.slice none 0 0)]) (places := [(0, 1), (1, 1)]) (bp0) underlying31 yal (by kernel_rfl) rfl ?_))))))))))))))))); refine zb (zo (yaj (b := g) (o := 0) (cells := #[(ii 0), (.slice none 0 0)]) hE4 rfl yal rfl rfl (yah (hS.bx 1 rfl) (Nat.le_of_ble_eq_true rfl)) ?_)); intro w9 e1; replace hS := hS.bstn 1 rfl 0 [(ii 0), (.slice none 0 0)] e1; clear e1; refine zb (zq (za (ii 2)) (yaa ?_)); replace hS := hS.nil 4 rfl c3 75; exact yaq rfl (rv_n (vs := [(ii 0), (.slice none 0 0)]) hE4 underlying31 rfl yal ⟨Row.cell (hS.bx 1 rfl) (i := 0) rfl, Row.cell (hS.bx 1 rfl) (i := 1) rfl, trivial⟩) (rv_t rfl) ⟨_, _, _, _, _, _, rfl, (hS.sel [4] (by decide)), h⟩
        · replace h := h.2 hp3; refine rl_q (yac rfl (yad rfl (congrArg Value.bool (decide_eq_false hp3)))) rfl rfl (zm (ii ((gx i v.toNat).1))) (rl_q (yac rfl (yad rfl (congrArg Value.bool (decide_eq_false hp3)))) rfl rfl (yae hE0) (rl_q (yac rfl (yad rfl (congrArg Value.bool (decide_eq_false hp3)))) rfl rfl (v_geq rfl rfl) (zq (yav (v := (.bool (decide (d ≤ ((gx i v.toNat).1))))) (congrArg Value.bool (decide_eq_false hp3)) rfl) (zq (zm (.bool (decide (d ≤ ((gx i v.toNat).1))))) ?_)))); by_cases hp4 : d ≤ ((gx i v.toNat).1)
          · replace h := h.1 hp4; refine rl_p (yab rfl (yad rfl (congrArg Value.bool (decide_eq_true hp4))) rfl) rfl (rl_p (yab rfl (yad rfl (congrArg Value.bool (decide_eq_true hp4))) rfl) rfl (zq (yau (v := (.bool (true))) (congrArg Value.bool (decide_eq_true hp4)) rfl) (zq (zm (.bool (true))) (rl_p (yab rfl (yad rfl rfl) rfl) rfl (rl_p (yab rfl (yad rfl rfl) rfl) rfl (rl_p (yab rfl (yad rfl rfl) rfl) rfl (zq (yau (v := (.bool (true))) rfl rfl) (yaa (yaz rfl (zs (zn (yax (l := []) (cells := [(ii 0), (.slice none 0 0)]) (places := [(0, 1), (1, 1)]) (bp0) underlying31 yal (by kernel_rfl) rfl ?_)))))))))))); refine zb (zo (yaj (b := g) (o := 0) (cells := #[(ii 0), (.slice none 0 0)]) hE4 rfl yal rfl rfl (yah (hS.bx 1 rfl) (Nat.le_of_ble_eq_true rfl)) ?_)); intro w10 e1; replace hS := hS.bstn 1 rfl 0 [(ii 0), (.slice none 0 0)] e1; clear e1; refine zb (zq (za (ii 2)) (yaa ?_)); replace hS := hS.nil 4 rfl c3 75; exact yaq rfl (rv_n (vs := [(ii 0), (.slice none 0 0)]) hE4 underlying31 rfl yal ⟨Row.cell (hS.bx 1 rfl) (i := 0) rfl, Row.cell (hS.bx 1 rfl) (i := 1) rfl, trivial⟩) (rv_t rfl) ⟨_, _, _, _, _, _, rfl, (hS.sel [4] (by decide)), h⟩
          · replace h := h.2 hp4; refine rl_q (yac rfl (yad rfl (congrArg Value.bool (decide_eq_false hp4)))) rfl rfl (zm (ii ((gx i v.toNat).2))) (rl_q (yac rfl (yad rfl (congrArg Value.bool (decide_eq_false hp4)))) rfl rfl zL (zq (yav (v := (.bool (decide (((gx i v.toNat).2) < 0)))) (congrArg Value.bool (decide_eq_false hp4)) rfl) (zq (zm (.bool (decide (((gx i v.toNat).2) < 0)))) ?_))); by_cases hp5 : ((gx i v.toNat).2) < 0
            · replace h := h.1 hp5; refine rl_p (yab rfl (yad rfl (congrArg Value.bool (decide_eq_true hp5))) rfl) rfl (rl_p (yab rfl (yad rfl (congrArg Value.bool (decide_eq_true hp5))) rfl) rfl (rl_p (yab rfl (yad rfl (congrArg Value.bool (decide_eq_true hp5))) rfl) rfl (zq (yau (v := (.bool (true))) (congrArg Value.bool (decide_eq_true hp5)) rfl) (yaa (yaz rfl (zs (zn (yax (l := []) (cells := [(ii 0), (.slice none 0 0)]) (places := [(0, 1), (1, 1)]) (bp0) underlying31 yal (by kernel_rfl) rfl ?_)))))))); refine zb (zo (yaj (b := g) (o := 0) (cells := #[(ii 0), (.slice none 0 0)]) hE4 rfl yal rfl rfl (yah (hS.bx 1 rfl) (Nat.le_of_ble_eq_true rfl)) ?_)); intro w11 e1; replace hS := hS.bstn 1 rfl 0 [(ii 0), (.slice none 0 0)] e1; clear e1; refine zb (zq (za (ii 2)) (yaa ?_)); replace hS := hS.nil 4 rfl c3 75; exact yaq rfl (rv_n (vs := [(ii 0), (.slice none 0 0)]) hE4 underlying31 rfl yal ⟨Row.cell (hS.bx 1 rfl) (i := 0) rfl, Row.cell (hS.bx 1 rfl) (i := 1) rfl, trivial⟩) (rv_t rfl) ⟨_, _, _, _, _, _, rfl, (hS.sel [4] (by decide)), h⟩
            · replace h := h.2 hp5; refine rl_q (yac rfl (yad rfl (congrArg Value.bool (decide_eq_false hp5)))) rfl rfl (zm (ii ((gx i v.toNat).2))) (rl_q (yac rfl (yad rfl (congrArg Value.bool (decide_eq_false hp5)))) rfl rfl (yae hE0) (rl_q (yac rfl (yad rfl (congrArg Value.bool (decide_eq_false hp5)))) rfl rfl (v_geq rfl rfl) (zq (yav (v := (.bool (decide (d ≤ ((gx i v.toNat).2))))) (congrArg Value.bool (decide_eq_false hp5)) rfl) (yaa ?_)))); by_cases hp6 : d ≤ ((gx i v.toNat).2)
              · replace h := h.1 hp6; refine zc hp6 (zs (zn (yax (l := []) (cells := [(ii 0), (.slice none 0 0)]) (places := [(0, 1), (1, 1)]) (bp0) underlying31 yal (by kernel_rfl) rfl ?_))); refine zb (zo (yaj (b := g) (o := 0) (cells := #[(ii 0), (.slice none 0 0)]) hE4 rfl yal rfl rfl (yah (hS.bx 1 rfl) (Nat.le_of_ble_eq_true rfl)) ?_)); intro w12 e1; replace hS := hS.bstn 1 rfl 0 [(ii 0), (.slice none 0 0)] e1; clear e1; refine zb (zq (za (ii 2)) (yaa ?_)); replace hS := hS.nil 4 rfl c3 75; exact yaq rfl (rv_n (vs := [(ii 0), (.slice none 0 0)]) hE4 underlying31 rfl yal ⟨Row.cell (hS.bx 1 rfl) (i := 0) rfl, Row.cell (hS.bx 1 rfl) (i := 1) rfl, trivial⟩) (rv_t rfl) ⟨_, _, _, _, _, _, rfl, (hS.sel [4] (by decide)), h⟩
              · replace h := h.2 hp6; exact zd hp6 (yak (j2 _ _ _ ⟨h, rfl, hE0, hE1, hE4, hE6, hE7, rfl, rfl, (hS.sel [0, 1, 2, 3] (by decide))⟩))
      · replace h := h.2 hp2; refine zd hp2 (yaJ rfl (yag (zs (zq (za (ii 0)) (yaa (yam ?_)))))); obtain ⟨I3, ⟨m0, h0⟩, hr⟩ := h; refine yaL (fun m E ds w' => ∃ v3, I3 m v3 ∧ ds = [] ∧ E 0 = (ii d) ∧ E 4 = (Value.pointer (some (⟨g, 0, none⟩ : Addr))) ∧ E 6 = (Value.slice At lt ct) ∧ E 10 = (ii v3) ∧ Sep w no O w' (rl [Res.box 31 g [(ii 0), (.slice none 0 0)], Res.own cA 22 At lt ct (ows Gt v2), Res.rows 3 Gt v2])) m0 ⟨_, h0, rfl, hE0, hE4, hE6, rfl, (hS.sel [1, 2, 3] (by decide))⟩ ?_; clear h0 hS; rintro m4 E ds w13 ⟨v3, h, rfl, hE0, hE4, hE6, hE10, hS⟩ again2; replace h := hr m4 v3 h; clear hr; refine yag (zs (zq (yae hE10) (zq (yae hE0) (zq zL (yaa ?_))))); by_cases hp7 : v3 < d
        · replace h := h.1 hp7; refine zc hp7 (yak (yag (yam (zs (zq (za (ii 0)) (yaa (yam ?_))))))); obtain ⟨I4, ⟨m0, h0⟩, hr⟩ := h; refine yaL (fun m E ds w' => ∃ v4, I4 m v4 ∧ ds = [] ∧ E 0 = (ii d) ∧ E 4 = (Value.pointer (some (⟨g, 0, none⟩ : Addr))) ∧ E 6 = (Value.slice At lt ct) ∧ E 10 = (ii v3) ∧ E 11 = (ii v4) ∧ Sep w no O w' (rl [Res.box 31 g [(ii 0), (.slice none 0 0)], Res.own cA 22 At lt ct (ows Gt v2), Res.rows 3 Gt v2])) m0 ⟨_, h0, rfl, hE0, hE4, hE6, hE10, rfl, (hS.sel [0, 1, 2] (by decide))⟩ ?_; clear h0 hS; rintro m5 E ds w14 ⟨v4, h, rfl, hE0, hE4, hE6, hE10, hE11, hS⟩ again3; replace h := hr m5 v4 h; clear hr; refine yag (zs (zq (yae hE11) (zq (yae hE0) (zq zL (yaa ?_))))); by_cases hp8 : v4 < d
          · replace h := h.1 hp8; refine zc hp8 (yak (yag (yam (zs (zq (yae hE6) (zq (yae hE10) ?_)))))); obtain ⟨hx7, h⟩ := h; refine zq (zi underlying108 yfx (hS.rowix 2 1 rfl rfl hx7)) (zq (yaw (v := (.slice (rowA Gt v3) ((gx v2 v3.toNat).length) ((gx v2 v3.toNat).length))) rfl underlying22 rfl (hS.rowcell 2 1 rfl rfl hx7)) (zq (yae hE11) ?_)); obtain ⟨hx8, h⟩ := h; refine zq (zi underlying22 yai (yaF (hS.rowfp 2 rfl hx7) hx8)) (zq (yaw (v := (ii (gi (gx v2 v3.toNat) v4.toNat))) rfl underlying3 rfl (rd_1 (f := fI .i64) (hS.rowfp 2 rfl hx7) hx8 (fun q => yar q) rfl)) ?_); refine zq zG (yaa ?_); by_cases hp9 : 50 < (gi (gx v2 v3.toNat) v4.toNat)
            · replace h := h.1 hp9; refine zc hp9 (zs (zn (yax (l := []) (cells := [(ii 0), (.slice none 0 0)]) (places := [(0, 1), (1, 1)]) (bp0) underlying31 yal (by kernel_rfl) rfl ?_))); refine zb (zo (yaj (b := g) (o := 0) (cells := #[(ii 0), (.slice none 0 0)]) hE4 rfl yal rfl rfl (yah (hS.bx 0 rfl) (Nat.le_of_ble_eq_true rfl)) ?_)); intro w15 e1; replace hS := hS.bstn 0 rfl 0 [(ii 0), (.slice none 0 0)] e1; clear e1; refine zb (zq (za (ii 5)) (yaa ?_)); replace hS := hS.nil 3 rfl c3 75; exact yaq rfl (rv_n (vs := [(ii 0), (.slice none 0 0)]) hE4 underlying31 rfl yal ⟨Row.cell (hS.bx 0 rfl) (i := 0) rfl, Row.cell (hS.bx 0 rfl) (i := 1) rfl, trivial⟩) (rv_t rfl) ⟨_, _, _, _, _, _, rfl, (hS.sel [3] (by decide)), h⟩
            · replace h := h.2 hp9; refine zd hp9 (yak (yan (zr (zq (yae hE11) ?_)))); obtain ⟨hi3, h⟩ := h; refine zq (zA hi3) (zq (za (ii (v4 + 1))) (yaa ?_)); obtain ⟨mq, hlt, h⟩ := h; exact again3 mq _ _ _ ⟨_, h, rfl, hE0, hE4, hE6, hE10, rfl, (hS.sel [0, 1, 2] (by decide))⟩ hlt
          · replace h := h.2 hp8; refine zd hp8 (yaJ rfl (yan (zr (zq (yae hE10) ?_)))); obtain ⟨hi4, h⟩ := h; refine zq (zA hi4) (zq (za (ii (v3 + 1))) (yaa ?_)); obtain ⟨mq, hlt, h⟩ := h; exact again2 mq _ _ _ ⟨_, h, rfl, hE0, hE4, hE6, rfl, (hS.sel [0, 1, 2] (by decide))⟩ hlt
        · replace h := h.2 hp7; refine zd hp7 (yaJ rfl (zs (zq (yae hE0) (zq (yae hE6) ?_)))); replace hS := hS.rowfrz 2 1 rfl rfl rfl; refine zn (yap rfl (am2 rfl rfl) enter_94 ((pok_r08_Joined h (yaM _) (hS.rdo 1 rfl)).mono ?_)); rintro _ w16 ⟨r, r2, Ar, lr, cr, rfl, hC, h⟩; replace hS := hS.call1 (hC.widen (ybt (yaB (fP (fI .i64) (fP (fI .i64) (fI .i64))) _ _ _ _ _) ybu) hS.blt) 3 0 rfl; clear hC; refine ⟨_, rfl, ?_⟩; refine zb (zo (yaj (b := g) (o := 0) (cells := #[(ii r), (.slice Ar lr cr)]) hE4 rfl yal rfl rfl (yah (hS.bx 0 rfl) (Nat.le_of_ble_eq_true rfl)) ?_)); intro w17 e1; replace hS := hS.bstn 0 rfl 0 [(ii r), (.slice Ar lr cr)] e1; clear e1; exact zb (zq (za (ii 0)) (yaa (yaq rfl (rv_n (vs := [(ii r), (.slice Ar lr cr)]) hE4 underlying31 rfl yal ⟨Row.cell (hS.bx 0 rfl) (i := 0) rfl, Row.cell (hS.bx 0 rfl) (i := 1) rfl, trivial⟩) (rv_t rfl) ⟨_, _, _, _, _, _, rfl, (hS.sel [3] (by decide)), h⟩)))
  clear hJ; intro j; refine zr (zq (zm (ii d)) (zq zL (zq (zm (.bool (decide (d < 1)))) ?_))); by_cases hp10 : d < 1
  · replace h := h.1 hp10; refine rl_p (yab rfl (yad rfl (congrArg Value.bool (decide_eq_true hp10))) rfl) rfl (rl_p (yab rfl (yad rfl (congrArg Value.bool (decide_eq_true hp10))) rfl) rfl (zq (yau (v := (.bool (true))) (congrArg Value.bool (decide_eq_true hp10)) rfl) (yaa (yaz rfl (zs (zn (yax (l := []) (cells := [(ii 0), (.slice none 0 0)]) (places := [(0, 1), (1, 1)]) (bp0) underlying31 yal (by kernel_rfl) rfl ?_))))))); refine zb (zo (yaj (b := g) (o := 0) (cells := #[(ii 0), (.slice none 0 0)]) rfl rfl yal rfl rfl (yah (hS.bx 1 rfl) (Nat.le_of_ble_eq_true rfl)) ?_)); intro w18 e1; replace hS := hS.bstn 1 rfl 0 [(ii 0), (.slice none 0 0)] e1; clear e1; refine zb (zq (za (ii 2)) (yaa ?_)); replace hS := hS.nil 2 rfl c3 75; exact yaq rfl (rv_n (vs := [(ii 0), (.slice none 0 0)]) rfl underlying31 rfl yal ⟨Row.cell (hS.bx 1 rfl) (i := 0) rfl, Row.cell (hS.bx 1 rfl) (i := 1) rfl, trivial⟩) (rv_t rfl) ⟨_, _, _, _, _, _, rfl, (hS.sel [2] (by decide)), h⟩
  · replace h := h.2 hp10; refine rl_q (yac rfl (yad rfl (congrArg Value.bool (decide_eq_false hp10)))) rfl rfl (zm (ii d)) (rl_q (yac rfl (yad rfl (congrArg Value.bool (decide_eq_false hp10)))) rfl rfl zG (zq (yav (v := (.bool (decide (12 < d)))) (congrArg Value.bool (decide_eq_false hp10)) rfl) (yaa ?_))); by_cases hp11 : 12 < d
    · replace h := h.1 hp11; refine zc hp11 (zs (zn (yax (l := []) (cells := [(ii 0), (.slice none 0 0)]) (places := [(0, 1), (1, 1)]) (bp0) underlying31 yal (by kernel_rfl) rfl ?_))); refine zb (zo (yaj (b := g) (o := 0) (cells := #[(ii 0), (.slice none 0 0)]) rfl rfl yal rfl rfl (yah (hS.bx 1 rfl) (Nat.le_of_ble_eq_true rfl)) ?_)); intro w19 e1; replace hS := hS.bstn 1 rfl 0 [(ii 0), (.slice none 0 0)] e1; clear e1; refine zb (zq (za (ii 2)) (yaa ?_)); replace hS := hS.nil 2 rfl c3 75; exact yaq rfl (rv_n (vs := [(ii 0), (.slice none 0 0)]) rfl underlying31 rfl yal ⟨Row.cell (hS.bx 1 rfl) (i := 0) rfl, Row.cell (hS.bx 1 rfl) (i := 1) rfl, trivial⟩) (rv_t rfl) ⟨_, _, _, _, _, _, rfl, (hS.sel [2] (by decide)), h⟩
    · replace h := h.2 hp11; exact zd hp11 (yak (j _ _ _ ⟨h, rfl, rfl, rfl, rfl, (hS.sel [0, 1] (by decide))⟩))
end Go.Proofs.Ytdbpajnjhgocoaa

/- Pure forms of functions, made by program (pf.py), each with the proof that the code does so. -/
namespace Go.Proofs.Ytdbpajnjhgocoaa
open Go Go.RowKit Go.Shelf Go.Proofs.Try
set_option linter.unusedVariables false
set_option maxRecDepth 100000
set_option maxHeartbeats 8000000
def ydM (kind : Int) (l : List Int) (R : Int → (List E3) → Prop) : Prop :=
yce kind l (fun r =>
yaX kind l (fun r2 =>
ydU r r2 (fun r3 r4 r5 =>
R r3 r4)))
theorem pok_r11_Made {O : Nat → Prop} {w : World} {kind l Al ll cl} {R : Int → (List E3) → Prop} (h : ydM kind l R) (hO : ∀ k, O k → k < w.heap.size) (hA0 : (FP.sl cI Al ll cl l).P O w) :
    Calls Try.prog 35 #[(ii kind), (.slice Al ll cl)] w fun e w' => ∃ r6 r7 Ar3 lr3 cr3, e = .returned (.agg #[(ii r6), (.slice Ar3 lr3 cr3)]) ∧ Sep w no O w' (rl [Res.own c3 75 Ar3 lr3 cr3 r7]) ∧ R r6 r7 := by
  unfold ydM at h; have hS : Sep w no O w (rl [Res.ro (FP.sl cI Al ll cl l)]) := Sep.startl hO [(FP.sl cI Al ll cl l)] ⟨hA0, trivial⟩; refine yay (l := [(ii kind), (.slice Al ll cl)]) func35 rfl ntmps35 (Nat.le_of_ble_eq_true rfl) (zs (zn (yaH yal ?_))); intro g w2 hN; replace hS : Sep w no O w2 (stl _ 1 (Res.box 31 g [(ii 0), (.slice none 0 0)])) := hS.new 1 rfl hN; clear hN; refine zb (yaa (zs (zq (zm (ii kind)) (zq (zm (.slice Al ll cl)) (zn (yap rfl (am2 rfl rfl) enter_41 ((yd3 h (yaM _) (hS.rdr 0 rfl)).mono ?_))))))); rintro _ w3 ⟨r, rfl, hC, h⟩; replace hS := hS.pur hC.pure; clear hC; refine ⟨_, rfl, ?_⟩; refine zb (zq (zm (ii kind)) (zq (zm (.slice Al ll cl)) (zn (yap rfl (am2 rfl rfl) enter_79 ((pok_r11_ends h (yaM _) (hS.rdr 0 rfl)).mono ?_))))); rintro _ w4 ⟨r2, Ar, lr, cr, rfl, hC, h⟩; replace hS := hS.call1 (hC.widen (ybt (yaB (fP (fI .i64) (fI .i64)) _ _ _ _ _) ybu) hS.blt) 2 0 rfl; clear hC; refine ⟨_, rfl, ?_⟩; refine zb (zn (yap rfl (am2 rfl rfl) enter_78 ((pok_r08_Make h (yaM _) (hS.rdo 2 rfl)).mono ?_))); rintro _ w5 ⟨r3, r4, r5, Ar2, lr2, cr2, rfl, hC, h⟩; replace hS := hS.call1 (hC.widen (ybt (yaB (fP (fI .i64) (fP (fI .i64) (fI .i64))) _ _ _ _ _) ybu) hS.blt) 3 0 rfl; clear hC; refine ⟨_, rfl, ?_⟩; refine zb (zq (zm (.tuple #[(.agg #[(ii r3), (.slice Ar2 lr2 cr2)]), (ii r5)])) (zq (zx (.agg #[(ii r3), (.slice Ar2 lr2 cr2)])) (zq (zx (ii r5)) (zn (yaH yal ?_))))); intro g2 w6 hN; replace hS : Sep w no O w6 (stl _ 4 (Res.box 31 g2 [(ii 0), (.slice none 0 0)])) := hS.new 4 rfl hN; clear hN; refine zb (zo (yaj (b := g2) (o := 0) (cells := #[(ii r3), (.slice Ar2 lr2 cr2)]) rfl rfl yal rfl rfl (yah (hS.bx 4 rfl) (Nat.le_of_ble_eq_true rfl)) ?_)); intro w7 e1; replace hS := hS.bstn 4 rfl 0 [(ii r3), (.slice Ar2 lr2 cr2)] e1; clear e1; refine zb (zq (za (ii r5)) (yaa (zs (zq (yaY (vs := [(ii r3), (.slice Ar2 lr2 cr2)]) rfl underlying31 rfl yal ⟨Row.cell (hS.bx 4 rfl) (i := 0) rfl, Row.cell (hS.bx 4 rfl) (i := 1) rfl, trivial⟩) (zo (yaj (b := g) (o := 0) (cells := #[(ii r3), (.slice Ar2 lr2 cr2)]) rfl rfl yal rfl rfl (yah (hS.bx 1 rfl) (Nat.le_of_ble_eq_true rfl)) ?_)))))); intro w8 e1; replace hS := hS.bstn 1 rfl 0 [(ii r3), (.slice Ar2 lr2 cr2)] e1; clear e1; exact zb (yaa (ye1 rfl (rv_n (vs := [(ii r3), (.slice Ar2 lr2 cr2)]) rfl underlying31 rfl yal ⟨Row.cell (hS.bx 1 rfl) (i := 0) rfl, Row.cell (hS.bx 1 rfl) (i := 1) rfl, trivial⟩) ⟨_, _, _, _, _, rfl, (hS.sel [3] (by decide)), h⟩))
def ygV (kind : Int) (l : List Int) (R : Int → Int → Prop) : Prop :=
ydu kind l (fun r =>
((r = 0 →
ydM kind l (fun r2 r3 =>
ygU r2 r3 (fun r4 =>
R r4 0))) ∧
(¬ (r = 0) →
R 0 r)))
theorem pok_r11_Genus {O : Nat → Prop} {w : World} {kind l Al ll cl} {R : Int → Int → Prop} (h : ygV kind l R) (hO : ∀ k, O k → k < w.heap.size) (hA0 : (FP.sl cI Al ll cl l).P O w) :
    Calls Try.prog 17 #[(ii kind), (.slice Al ll cl)] w fun e w' => ∃ r5 r6, e = .returned (.tuple #[(ii r5), (ii r6)]) ∧ Sep w no O w' (rl []) ∧ R r5 r6 := by
  unfold ygV at h; have hS : Sep w no O w (rl [Res.ro (FP.sl cI Al ll cl l)]) := Sep.startl hO [(FP.sl cI Al ll cl l)] ⟨hA0, trivial⟩; refine yay (l := [(ii kind), (.slice Al ll cl)]) func17 rfl ntmps17 (Nat.le_of_ble_eq_true rfl) (zs (zq (za (ii 0)) (zq (za (ii 0)) (yaa (yag (zs (zq (zm (ii kind)) (zq (zm (.slice Al ll cl)) (zn (yap rfl (am2 rfl rfl) enter_23 ((yha h (yaM _) (hS.rdr 0 rfl)).mono ?_))))))))))); rintro _ w2 ⟨r, rfl, hC, h⟩; replace hS := hS.pur hC.pure; clear hC; refine ⟨_, rfl, ?_⟩; refine zb (zq (za (ii r)) (yaa (zs (zq (zm (ii r)) (zq zN (yaa ?_)))))); by_cases hp : r = 0
  · replace h := h.1 hp; refine ze hp (yak (zs (zq (zm (ii kind)) (zq (zm (.slice Al ll cl)) (zn (yap rfl (am2 rfl rfl) enter_35 ((pok_r11_Made h (yaM _) (hS.rdr 0 rfl)).mono ?_))))))); rintro _ w3 ⟨r2, r3, Ar, lr, cr, rfl, hC, h⟩; replace hS := hS.call1 (hC.widen (ybt (yaB (fP (fI .i64) (fP (fI .i64) (fI .i64))) _ _ _ _ _) ybu) hS.blt) 1 0 rfl; clear hC; refine ⟨_, rfl, ?_⟩; refine zb (zn (yap rfl (am1 rfl) enter_37 ((pok_r08_Genus h (yaM _) (hS.rdo 1 rfl)).mono ?_))); rintro _ w4 ⟨r4, rfl, hC, h⟩; replace hS := hS.pur hC.pure; clear hC; refine ⟨_, rfl, ?_⟩; exact zb (zq (za (ii r4)) (zq (za (ii 0)) (yaa (yaW rfl rfl rfl ⟨_, _, rfl, (hS.sel [] (by decide)), h⟩))))
  · replace h := h.2 hp; exact zf hp (zs (zq (zm (ii r)) (zq (za (ii 0)) (zq (za (ii r)) (yaa (yaW rfl rfl rfl ⟨_, _, rfl, (hS.sel [] (by decide)), h⟩))))))
def yc4 (R : Bool → Prop) : Prop :=
ybl 5 ([4]) (fun r r2 r3 =>
ybU 5 ([4]) (fun r4 r5 =>
yba 5 ([4]) (fun r6 r7 =>
ycf 5 ([4]) (fun r8 r9 =>
ybl 8 ([2, 2, 4]) (fun r10 r11 r12 =>
yba 8 ([2, 2, 4]) (fun r13 r14 =>
ybU 6 ([2, 3]) (fun r15 r16 =>
yba 6 ([2, 3]) (fun r17 r18 =>
(∃ J2 : Prop, (J2 → ycV r r2 (fun r19 =>
ycg r19 ([(0, 1), (0, 2), (0, 3), (0, 4), (1, 2), (1, 4), (2, 3), (3, 4)]) (fun r20 =>
((r20 = true →
(∃ J3 : Prop, (J3 → ya8 r6 ([3, 15]) (fun r21 =>
((r21 = true →
ya8 r13 ([2, 10]) (fun r22 =>
((r22 = true →
ya8 r17 ([2, 6]) (fun r23 =>
R r23)) ∧
(¬ (r22 = true) →
R false)))) ∧
(¬ (r21 = true) →
R false)))) ∧
((r10 = 7 →
ycV r10 r11 (fun r24 =>
ycg r24 ([(0, 2), (0, 3), (0, 4), (1, 2), (1, 3), (1, 6), (4, 5), (5, 6)]) (fun r25 =>
((r25 = true →
J3) ∧
(¬ (r25 = true) →
R false))))) ∧
(¬ (r10 = 7) →
R false)))) ∧
(¬ (r20 = true) →
R false))))) ∧
(In64 (r3 + r5) ∧
(In64 ((r3 + r5) + r7) ∧
(In64 (((r3 + r5) + r7) + r9) ∧
(In64 ((((r3 + r5) + r7) + r9) + r12) ∧
(In64 (((((r3 + r5) + r7) + r9) + r12) + r14) ∧
(In64 ((((((r3 + r5) + r7) + r9) + r12) + r14) + r16) ∧
(In64 (((((((r3 + r5) + r7) + r9) + r12) + r14) + r16) + r18) ∧
(((((((((r3 + r5) + r7) + r9) + r12) + r14) + r16) + r18) = 0 →
((r4 = 45 →
((r8 = 4 →
((r15 = 12 →
J2) ∧
(¬ (r15 = 12) →
R false))) ∧
(¬ (r8 = 4) →
R false))) ∧
(¬ (r4 = 45) →
R false))) ∧
(¬ ((((((((r3 + r5) + r7) + r9) + r12) + r14) + r16) + r18) = 0) →
R false))))))))))))))))))
theorem ye3 {O : Nat → Prop} {w : World} {R : Bool → Prop} (h : yc4 R) (hO : ∀ k, O k → k < w.heap.size) :
    Calls Try.prog 10 #[] w fun e w' => ∃ r26, e = .returned (.bool (r26)) ∧ Sep w no O w' (rl []) ∧ R r26 := by
  unfold yc4 at h; have hS : Sep w no O w (rl []) := Sep.start w hO; refine yay (l := []) func10 rfl ntmps10 (Nat.le_of_ble_eq_true rfl) (zs (zq (za (.bool (false))) (yaa (zs (zn (yaD (l := [(0, (ii 4))]) (cells := [(ii 4)]) (bp1 rfl) underlying22 yai rfl rfl ?_)))))); intro g w2 hN; replace hS := hS.litf (n := 1) 0 rfl (fI .i64) hN ([4] : List Int) rfl (by decide) rfl; clear hN; refine zb (zn (yap rfl (am2 rfl rfl) yfZ ((ycH h (yaM _) (hS.rdo 0 rfl)).mono ?_))); rintro _ w3 ⟨r, r2, r3, Ar, lr, cr, rfl, hC, h⟩; replace hS := hS.call1 (hC.widen (ybt (yaB (fP (fI .i64) (fP (fI .i64) (fI .i64))) _ _ _ _ _) ybu) hS.blt) 1 0 rfl; clear hC; refine ⟨_, rfl, ?_⟩; refine zb (zq (zm (.tuple #[(.agg #[(ii r), (.slice Ar lr cr)]), (ii r3)])) (zq (zx (.agg #[(ii r), (.slice Ar lr cr)])) (zq (zx (ii r3)) (zn (yaH yal ?_))))); intro g2 w4 hN; replace hS : Sep w no O w4 (stl _ 2 (Res.box 31 g2 [(ii 0), (.slice none 0 0)])) := hS.new 2 rfl hN; clear hN; refine zb (zo (yaj (b := g2) (o := 0) (cells := #[(ii r), (.slice Ar lr cr)]) rfl rfl yal rfl rfl (yah (hS.bx 2 rfl) (Nat.le_of_ble_eq_true rfl)) ?_)); intro w5 e1; replace hS := hS.bstn 2 rfl 0 [(ii r), (.slice Ar lr cr)] e1; clear e1; refine zb (zq (za (ii r3)) (yaa (zs (zn (yaD (l := [(0, (ii 4))]) (cells := [(ii 4)]) (bp1 rfl) underlying22 yai rfl rfl ?_))))); intro g3 w6 hN; replace hS := hS.litf (n := 1) 3 rfl (fI .i64) hN ([4] : List Int) rfl (by decide) rfl; clear hN; refine zb (zn (yap rfl (am2 rfl rfl) yia ((yd5 h (yaM _) (hS.rdo 3 rfl)).mono ?_))); rintro _ w7 ⟨r4, r5, rfl, hC, h⟩; replace hS := hS.pur hC.pure; clear hC; refine ⟨_, rfl, ?_⟩; refine zb (zq (zm (.tuple #[(ii r4), (ii r5)])) (zq (zx (ii r4)) (zq (zx (ii r5)) (zq (za (ii r4)) (zq (za (ii r5)) (yaa (zs (zn (yaD (l := [(0, (ii 4))]) (cells := [(ii 4)]) (bp1 rfl) underlying22 yai rfl rfl ?_))))))))); intro g4 w8 hN; replace hS := hS.litf (n := 1) 4 rfl (fI .i64) hN ([4] : List Int) rfl (by decide) rfl; clear hN; refine zb (zn (yap rfl (am2 rfl rfl) yfT ((ycn h (yaM _) (hS.rdo 4 rfl)).mono ?_))); rintro _ w9 ⟨r6, r7, Ar2, lr2, cr2, rfl, hC, h⟩; replace hS := hS.call1 (hC.widen (ybt (yaB (fI .i64) _ _ _ _ _) ybu) hS.blt) 5 0 rfl; clear hC; refine ⟨_, rfl, ?_⟩; refine zb (zq (zm (.tuple #[(.slice Ar2 lr2 cr2), (ii r7)])) (zq (zx (.slice Ar2 lr2 cr2)) (zq (zx (ii r7)) (zq (za (.slice Ar2 lr2 cr2)) (zq (za (ii r7)) (yaa (zs (zn (yaD (l := [(0, (ii 4))]) (cells := [(ii 4)]) (bp1 rfl) underlying22 yai rfl rfl ?_))))))))); intro g5 w10 hN; replace hS := hS.litf (n := 1) 6 rfl (fI .i64) hN ([4] : List Int) rfl (by decide) rfl; clear hN; refine zb (zn (yap rfl (am2 rfl rfl) enter_16 ((yfO h (yaM _) (hS.rdo 6 rfl)).mono ?_))); rintro _ w11 ⟨r8, r9, rfl, hC, h⟩; replace hS := hS.pur hC.pure; clear hC; refine ⟨_, rfl, ?_⟩; refine zb (zq (zm (.tuple #[(ii r8), (ii r9)])) (zq (zx (ii r8)) (zq (zx (ii r9)) (zq (za (ii r8)) (zq (za (ii r9)) (yaa (zs (zn (yaD (l := [(0, (ii 2)), (1, (ii 2)), (2, (ii 4))]) (cells := [(ii 2), (ii 2), (ii 4)]) (bp3 rfl rfl rfl) underlying22 yai rfl rfl ?_))))))))); intro g6 w12 hN; replace hS := hS.litf (n := 3) 7 rfl (fI .i64) hN ([2, 2, 4] : List Int) rfl (by decide) rfl; clear hN; refine zb (zn (yap rfl (am2 rfl rfl) yfZ ((ycH h (yaM _) (hS.rdo 7 rfl)).mono ?_))); rintro _ w13 ⟨r10, r11, r12, Ar3, lr3, cr3, rfl, hC, h⟩; replace hS := hS.call1 (hC.widen (ybt (yaB (fP (fI .i64) (fP (fI .i64) (fI .i64))) _ _ _ _ _) ybu) hS.blt) 8 0 rfl; clear hC; refine ⟨_, rfl, ?_⟩; refine zb (zq (zm (.tuple #[(.agg #[(ii r10), (.slice Ar3 lr3 cr3)]), (ii r12)])) (zq (zx (.agg #[(ii r10), (.slice Ar3 lr3 cr3)])) (zq (zx (ii r12)) (zn (yaH yal ?_))))); intro g7 w14 hN; replace hS : Sep w no O w14 (stl _ 9 (Res.box 31 g7 [(ii 0), (.slice none 0 0)])) := hS.new 9 rfl hN; clear hN; refine zb (zo (yaj (b := g7) (o := 0) (cells := #[(ii r10), (.slice Ar3 lr3 cr3)]) rfl rfl yal rfl rfl (yah (hS.bx 9 rfl) (Nat.le_of_ble_eq_true rfl)) ?_)); intro w15 e1; replace hS := hS.bstn 9 rfl 0 [(ii r10), (.slice Ar3 lr3 cr3)] e1; clear e1; refine zb (zq (za (ii r12)) (yaa (zs (zn (yaD (l := [(0, (ii 2)), (1, (ii 2)), (2, (ii 4))]) (cells := [(ii 2), (ii 2), (ii 4)]) (bp3 rfl rfl rfl) underlying22 yai rfl rfl ?_))))); intro g8 w16 hN; replace hS := hS.litf (n := 3) 10 rfl (fI .i64) hN ([2, 2, 4] : List Int) rfl (by decide) rfl; clear hN; refine zb (zn (yap rfl (am2 rfl rfl) yfT ((ycn h (yaM _) (hS.rdo 10 rfl)).mono ?_))); rintro _ w17 ⟨r13, r14, Ar4, lr4, cr4, rfl, hC, h⟩; replace hS := hS.call1 (hC.widen (ybt (yaB (fI .i64) _ _ _ _ _) ybu) hS.blt) 11 0 rfl; clear hC; refine ⟨_, rfl, ?_⟩; refine zb (zq (zm (.tuple #[(.slice Ar4 lr4 cr4), (ii r14)])) (zq (zx (.slice Ar4 lr4 cr4)) (zq (zx (ii r14)) (zq (za (.slice Ar4 lr4 cr4)) (zq (za (ii r14)) (yaa (zs (zn (yaD (l := [(0, (ii 2)), (1, (ii 3))]) (cells := [(ii 2), (ii 3)]) (bp2 rfl rfl) underlying22 yai rfl rfl ?_))))))))); intro g9 w18 hN; replace hS := hS.litf (n := 2) 12 rfl (fI .i64) hN ([2, 3] : List Int) rfl (by decide) rfl; clear hN; refine zb (zn (yap rfl (am2 rfl rfl) yia ((yd5 h (yaM _) (hS.rdo 12 rfl)).mono ?_))); rintro _ w19 ⟨r15, r16, rfl, hC, h⟩; replace hS := hS.pur hC.pure; clear hC; refine ⟨_, rfl, ?_⟩; refine zb (zq (zm (.tuple #[(ii r15), (ii r16)])) (zq (zx (ii r15)) (zq (zx (ii r16)) (zq (za (ii r15)) (zq (za (ii r16)) (yaa (zs (zn (yaD (l := [(0, (ii 2)), (1, (ii 3))]) (cells := [(ii 2), (ii 3)]) (bp2 rfl rfl) underlying22 yai rfl rfl ?_))))))))); intro g10 w20 hN; replace hS := hS.litf (n := 2) 13 rfl (fI .i64) hN ([2, 3] : List Int) rfl (by decide) rfl; clear hN
  refine zb (zn (yap rfl (am2 rfl rfl) yfT ((ycn h (yaM _) (hS.rdo 13 rfl)).mono ?_))); rintro _ w21 ⟨r17, r18, Ar5, lr5, cr5, rfl, hC, h⟩; replace hS := hS.call1 (hC.widen (ybt (yaB (fI .i64) _ _ _ _ _) ybu) hS.blt) 14 0 rfl; clear hC; refine ⟨_, rfl, ?_⟩; refine zb (zq (zm (.tuple #[(.slice Ar5 lr5 cr5), (ii r18)])) (zq (zx (.slice Ar5 lr5 cr5)) (zq (zx (ii r18)) (zq (za (.slice Ar5 lr5 cr5)) (zq (za (ii r18)) (yaa (yag (yag ?_)))))))); obtain ⟨J2, hJ, h⟩ := h; refine ycE (fun E ds w' => J2 ∧ ds = [] ∧ E 1 = (Value.pointer (some (⟨g2, 0, none⟩ : Addr))) ∧ E 5 = (Value.slice Ar2 lr2 cr2) ∧ E 9 = (Value.pointer (some (⟨g7, 0, none⟩ : Addr))) ∧ E 11 = (Value.slice Ar4 lr4 cr4) ∧ E 15 = (Value.slice Ar5 lr5 cr5) ∧ Sep w no O w' (rl [Res.box 31 g2 [(ii r), (.slice Ar lr cr)], Res.own c3 75 Ar lr cr r2, Res.own cI 3 Ar2 lr2 cr2 r6, Res.box 31 g7 [(ii r10), (.slice Ar3 lr3 cr3)], Res.own c3 75 Ar3 lr3 cr3 r11, Res.own cI 3 Ar4 lr4 cr4 r13, Res.own cI 3 Ar5 lr5 cr5 r17])) ?_ ?_
  · clear h hS; rintro E ds w22 ⟨h, rfl, hE1, hE5, hE9, hE11, hE15, hS⟩; replace h := hJ h; refine yag (zs (zq (yaY (vs := [(ii r), (.slice Ar lr cr)]) hE1 underlying31 rfl yal ⟨Row.cell (hS.bx 0 rfl) (i := 0) rfl, Row.cell (hS.bx 0 rfl) (i := 1) rfl, trivial⟩) (zn (yap rfl (am1 rfl) yhQ ((yfF h (yaM _) (hS.rdo 1 rfl)).mono ?_))))); rintro _ w23 ⟨r19, Ar6, lr6, cr6, rfl, hC, h⟩; replace hS := hS.call1 (hC.widen (ybt (yaB (fP (fI .i64) (fI .i64)) _ _ _ _ _) ybu) hS.blt) 7 0 rfl; clear hC; refine ⟨_, rfl, ?_⟩; refine zb (zn (ya2 (l := [(0, (ii 0)), (1, (ii 1))]) (cells := [(ii 0), (ii 1)]) (bp2 rfl rfl) underlying59 yaA yai (by kernel_rfl) ?_)); refine zb (zn (ya2 (l := [(0, (ii 0)), (1, (ii 2))]) (cells := [(ii 0), (ii 2)]) (bp2 rfl rfl) underlying59 yaA yai (by kernel_rfl) ?_)); refine zb (zn (ya2 (l := [(0, (ii 0)), (1, (ii 3))]) (cells := [(ii 0), (ii 3)]) (bp2 rfl rfl) underlying59 yaA yai (by kernel_rfl) ?_)); refine zb (zn (ya2 (l := [(0, (ii 0)), (1, (ii 4))]) (cells := [(ii 0), (ii 4)]) (bp2 rfl rfl) underlying59 yaA yai (by kernel_rfl) ?_)); refine zb (zn (ya2 (l := [(0, (ii 1)), (1, (ii 2))]) (cells := [(ii 1), (ii 2)]) (bp2 rfl rfl) underlying59 yaA yai (by kernel_rfl) ?_)); refine zb (zn (ya2 (l := [(0, (ii 1)), (1, (ii 4))]) (cells := [(ii 1), (ii 4)]) (bp2 rfl rfl) underlying59 yaA yai (by kernel_rfl) ?_)); refine zb (zn (ya2 (l := [(0, (ii 2)), (1, (ii 3))]) (cells := [(ii 2), (ii 3)]) (bp2 rfl rfl) underlying59 yaA yai (by kernel_rfl) ?_)); refine zb (zn (ya2 (l := [(0, (ii 3)), (1, (ii 4))]) (cells := [(ii 3), (ii 4)]) (bp2 rfl rfl) underlying59 yaA yai (by kernel_rfl) ?_)); refine zb (zn (yaD (l := [(0, (.agg #[(ii 0), (ii 1)])), (1, (.agg #[(ii 0), (ii 2)])), (2, (.agg #[(ii 0), (ii 3)])), (3, (.agg #[(ii 0), (ii 4)])), (4, (.agg #[(ii 1), (ii 2)])), (5, (.agg #[(ii 1), (ii 4)])), (6, (.agg #[(ii 2), (ii 3)])), (7, (.agg #[(ii 3), (ii 4)]))]) (cells := [(ii 0), (ii 1), (ii 0), (ii 2), (ii 0), (ii 3), (ii 0), (ii 4), (ii 1), (ii 2), (ii 1), (ii 4), (ii 2), (ii 3), (ii 3), (ii 4)]) (bp8 rfl rfl rfl rfl rfl rfl rfl rfl) underlying57 yaA rfl rfl ?_)); intro g11 w24 hN; replace hS := hS.litf (n := 8) 8 rfl (fP (fI .i64) (fI .i64)) hN ([(0, 1), (0, 2), (0, 3), (0, 4), (1, 2), (1, 4), (2, 3), (3, 4)] : List (Int × Int)) rfl (by decide) rfl; clear hN; refine zb (zn (yap rfl (am2 rfl rfl) enter_30 ((yd1 h (yaM _) (hS.rdo 7 rfl) (hS.rdo 8 rfl)).mono ?_))); rintro _ w25 ⟨r20, rfl, hC, h⟩; replace hS := hS.pur hC.pure; clear hC; refine ⟨_, rfl, ?_⟩; refine zb (zq (yhW rfl) (yaa ?_)); by_cases hp : r20 = true
    · replace h := h.1 hp; refine yaQ (congrArg Value.bool (congrArg Bool.not hp)) (yak (yag (yag ?_))); obtain ⟨J3, hJ, h⟩ := h; refine ycE (fun E ds w' => J3 ∧ ds = [] ∧ E 5 = (Value.slice Ar2 lr2 cr2) ∧ E 11 = (Value.slice Ar4 lr4 cr4) ∧ E 15 = (Value.slice Ar5 lr5 cr5) ∧ Sep w no O w' (rl [Res.own cI 3 Ar2 lr2 cr2 r6, Res.own cI 3 Ar4 lr4 cr4 r13, Res.own cI 3 Ar5 lr5 cr5 r17])) ?_ ?_
      · clear h hS; rintro E ds w26 ⟨h, rfl, hE5, hE11, hE15, hS⟩; replace h := hJ h; refine zs (zq (yae hE5) (zn (yaD (l := [(0, (ii 3)), (1, (ii 15))]) (cells := [(ii 3), (ii 15)]) (bp2 rfl rfl) underlying22 yai rfl rfl ?_))); intro g12 w27 hN; replace hS := hS.litf (n := 2) 3 rfl (fI .i64) hN ([3, 15] : List Int) rfl (by decide) rfl; clear hN; refine zb (zn (yap rfl (am2 rfl rfl) yhk ((ych h (yaM _) (hS.rdo 0 rfl) (hS.rdo 3 rfl)).mono ?_))); rintro _ w28 ⟨r21, rfl, hC, h⟩; replace hS := hS.pur hC.pure; clear hC; refine ⟨_, rfl, ?_⟩; refine zb (zq (zm (.bool (r21))) ?_); by_cases hp2 : r21 = true
        · replace h := h.1 hp2; refine rl_q (yac rfl (yad rfl (congrArg Value.bool hp2))) rfl rfl (yae hE11) (rl_n (yac rfl (yad rfl (congrArg Value.bool hp2))) rfl rfl rfl (yaD (l := [(0, (ii 2)), (1, (ii 10))]) (cells := [(ii 2), (ii 10)]) (bp2 rfl rfl) underlying22 yai rfl rfl ?_)); intro g13 w29 hN; replace hS := hS.litf (n := 2) 4 rfl (fI .i64) hN ([2, 10] : List Int) rfl (by decide) rfl; clear hN; refine zb (rl_n (yac rfl (yad rfl (congrArg Value.bool hp2))) rfl rfl rfl (yap rfl (am2 rfl rfl) yhk ((ych h (yaM _) (hS.rdo 1 rfl) (hS.rdo 4 rfl)).mono ?_))); rintro _ w30 ⟨r22, rfl, hC, h⟩; replace hS := hS.pur hC.pure; clear hC; refine ⟨_, rfl, ?_⟩; refine zb (zq (yau (v := (.bool (r22))) (congrArg Value.bool hp2) rfl) (zq (zm (.bool (r22))) ?_)); by_cases hp3 : r22 = true
          · replace h := h.1 hp3; refine rl_q (yac rfl (yad rfl (congrArg Value.bool hp3))) rfl rfl (yae hE15) (rl_n (yac rfl (yad rfl (congrArg Value.bool hp3))) rfl rfl rfl (yaD (l := [(0, (ii 2)), (1, (ii 6))]) (cells := [(ii 2), (ii 6)]) (bp2 rfl rfl) underlying22 yai rfl rfl ?_)); intro g14 w31 hN; replace hS := hS.litf (n := 2) 5 rfl (fI .i64) hN ([2, 6] : List Int) rfl (by decide) rfl; clear hN; refine zb (rl_n (yac rfl (yad rfl (congrArg Value.bool hp3))) rfl rfl rfl (yap rfl (am2 rfl rfl) yhk ((ych h (yaM _) (hS.rdo 2 rfl) (hS.rdo 5 rfl)).mono ?_))); rintro _ w32 ⟨r23, rfl, hC, h⟩; replace hS := hS.pur hC.pure; clear hC; refine ⟨_, rfl, ?_⟩; exact zb (zq (yau (v := (.bool (r23))) (congrArg Value.bool hp3) rfl) (zq (za (.bool (r23))) (yaa (yas rfl rfl ⟨_, rfl, (hS.sel [] (by decide)), h⟩))))
          · replace h := h.2 hp3; exact rl_p (yab rfl (yad rfl (congrArg Value.bool (Bool.eq_false_iff.2 hp3))) rfl) rfl (rl_p (yab rfl (yad rfl (congrArg Value.bool (Bool.eq_false_iff.2 hp3))) rfl) rfl (rl_p (yab rfl (yad rfl (congrArg Value.bool (Bool.eq_false_iff.2 hp3))) rfl) rfl (zq (yav (v := (.bool (false))) (congrArg Value.bool (Bool.eq_false_iff.2 hp3)) rfl) (zq (za (.bool (false))) (yaa (yas rfl rfl ⟨_, rfl, (hS.sel [] (by decide)), h⟩))))))
        · replace h := h.2 hp2; exact rl_p (yab rfl (yad rfl (congrArg Value.bool (Bool.eq_false_iff.2 hp2))) rfl) rfl (rl_p (yab rfl (yad rfl (congrArg Value.bool (Bool.eq_false_iff.2 hp2))) rfl) rfl (rl_p (yab rfl (yad rfl (congrArg Value.bool (Bool.eq_false_iff.2 hp2))) rfl) rfl (zq (yav (v := (.bool (false))) (congrArg Value.bool (Bool.eq_false_iff.2 hp2)) rfl) (zq (zm (.bool (false))) (rl_p (yab rfl (yad rfl rfl) rfl) rfl (rl_p (yab rfl (yad rfl rfl) rfl) rfl (rl_p (yab rfl (yad rfl rfl) rfl) rfl (zq (yav (v := (.bool (false))) rfl rfl) (zq (za (.bool (false))) (yaa (yas rfl rfl ⟨_, rfl, (hS.sel [] (by decide)), h⟩)))))))))))
      clear hJ; intro j2; refine zr (zq (yao hE9 underlying31 rfl yai) (zq (zl underlying3 (Row.cell (hS.bx 3 rfl) (i := 0) rfl)) (zq zN (zq (zm (.bool (!(decide (r10 = 7))))) ?_)))); by_cases hp4 : r10 = 7
      · replace h := h.1 hp4; refine rl_q (yac rfl (yad rfl (congrArg Value.bool (congrArg Bool.not (decide_eq_true hp4))))) rfl rfl (yaY (vs := [(ii r10), (.slice Ar3 lr3 cr3)]) hE9 underlying31 rfl yal ⟨Row.cell (hS.bx 3 rfl) (i := 0) rfl, Row.cell (hS.bx 3 rfl) (i := 1) rfl, trivial⟩) (rl_n (yac rfl (yad rfl (congrArg Value.bool (congrArg Bool.not (decide_eq_true hp4))))) rfl rfl rfl (yap rfl (am1 rfl) yhQ ((yfF h (yaM _) (hS.rdo 4 rfl)).mono ?_))); rintro _ w33 ⟨r24, Ar7, lr7, cr7, rfl, hC, h⟩; replace hS := hS.call1 (hC.widen (ybt (yaB (fP (fI .i64) (fI .i64)) _ _ _ _ _) ybu) hS.blt) 9 0 rfl; clear hC; refine ⟨_, rfl, ?_⟩; refine zb (rl_n (yac rfl (yad rfl (congrArg Value.bool (congrArg Bool.not (decide_eq_true hp4))))) rfl rfl rfl (ya2 (l := [(0, (ii 0)), (1, (ii 2))]) (cells := [(ii 0), (ii 2)]) (bp2 rfl rfl) underlying59 yaA yai (by kernel_rfl) ?_)); refine zb (rl_n (yac rfl (yad rfl (congrArg Value.bool (congrArg Bool.not (decide_eq_true hp4))))) rfl rfl rfl (ya2 (l := [(0, (ii 0)), (1, (ii 3))]) (cells := [(ii 0), (ii 3)]) (bp2 rfl rfl) underlying59 yaA yai (by kernel_rfl) ?_)); refine zb (rl_n (yac rfl (yad rfl (congrArg Value.bool (congrArg Bool.not (decide_eq_true hp4))))) rfl rfl rfl (ya2 (l := [(0, (ii 0)), (1, (ii 4))]) (cells := [(ii 0), (ii 4)]) (bp2 rfl rfl) underlying59 yaA yai (by kernel_rfl) ?_)); refine zb (rl_n (yac rfl (yad rfl (congrArg Value.bool (congrArg Bool.not (decide_eq_true hp4))))) rfl rfl rfl (ya2 (l := [(0, (ii 1)), (1, (ii 2))]) (cells := [(ii 1), (ii 2)]) (bp2 rfl rfl) underlying59 yaA yai (by kernel_rfl) ?_)); refine zb (rl_n (yac rfl (yad rfl (congrArg Value.bool (congrArg Bool.not (decide_eq_true hp4))))) rfl rfl rfl (ya2 (l := [(0, (ii 1)), (1, (ii 3))]) (cells := [(ii 1), (ii 3)]) (bp2 rfl rfl) underlying59 yaA yai (by kernel_rfl) ?_)); refine zb (rl_n (yac rfl (yad rfl (congrArg Value.bool (congrArg Bool.not (decide_eq_true hp4))))) rfl rfl rfl (ya2 (l := [(0, (ii 1)), (1, (ii 6))]) (cells := [(ii 1), (ii 6)]) (bp2 rfl rfl) underlying59 yaA yai (by kernel_rfl) ?_)); refine zb (rl_n (yac rfl (yad rfl (congrArg Value.bool (congrArg Bool.not (decide_eq_true hp4))))) rfl rfl rfl (ya2 (l := [(0, (ii 4)), (1, (ii 5))]) (cells := [(ii 4), (ii 5)]) (bp2 rfl rfl) underlying59 yaA yai (by kernel_rfl) ?_)); refine zb (rl_n (yac rfl (yad rfl (congrArg Value.bool (congrArg Bool.not (decide_eq_true hp4))))) rfl rfl rfl (ya2 (l := [(0, (ii 5)), (1, (ii 6))]) (cells := [(ii 5), (ii 6)]) (bp2 rfl rfl) underlying59 yaA yai (by kernel_rfl) ?_)); refine zb (rl_n (yac rfl (yad rfl (congrArg Value.bool (congrArg Bool.not (decide_eq_true hp4))))) rfl rfl rfl (yaD (l := [(0, (.agg #[(ii 0), (ii 2)])), (1, (.agg #[(ii 0), (ii 3)])), (2, (.agg #[(ii 0), (ii 4)])), (3, (.agg #[(ii 1), (ii 2)])), (4, (.agg #[(ii 1), (ii 3)])), (5, (.agg #[(ii 1), (ii 6)])), (6, (.agg #[(ii 4), (ii 5)])), (7, (.agg #[(ii 5), (ii 6)]))]) (cells := [(ii 0), (ii 2), (ii 0), (ii 3), (ii 0), (ii 4), (ii 1), (ii 2), (ii 1), (ii 3), (ii 1), (ii 6), (ii 4), (ii 5), (ii 5), (ii 6)]) (bp8 rfl rfl rfl rfl rfl rfl rfl rfl) underlying57 yaA rfl rfl ?_)); intro g15 w34 hN; replace hS := hS.litf (n := 8) 10 rfl (fP (fI .i64) (fI .i64)) hN ([(0, 2), (0, 3), (0, 4), (1, 2), (1, 3), (1, 6), (4, 5), (5, 6)] : List (Int × Int)) rfl (by decide) rfl; clear hN; refine zb (rl_n (yac rfl (yad rfl (congrArg Value.bool (congrArg Bool.not (decide_eq_true hp4))))) rfl rfl rfl (yap rfl (am2 rfl rfl) enter_30 ((yd1 h (yaM _) (hS.rdo 9 rfl) (hS.rdo 10 rfl)).mono ?_))); rintro _ w35 ⟨r25, rfl, hC, h⟩; replace hS := hS.pur hC.pure; clear hC; refine ⟨_, rfl, ?_⟩; refine zb (rl_q (yac rfl (yad rfl (congrArg Value.bool (congrArg Bool.not (decide_eq_true hp4))))) rfl rfl (yhW rfl) (zq (yav (v := (.bool (!(r25)))) (congrArg Value.bool (congrArg Bool.not (decide_eq_true hp4))) rfl) (yaa ?_))); by_cases hp5 : r25 = true
        · replace h := h.1 hp5; exact yaQ (congrArg Value.bool (congrArg Bool.not hp5)) (yak (j2 _ _ _ ⟨h, rfl, hE5, hE11, hE15, (hS.sel [2, 5, 6] (by decide))⟩))
        · replace h := h.2 hp5; exact yaz (congrArg Value.bool (congrArg Bool.not (Bool.eq_false_iff.2 hp5))) (zs (zq (za (.bool (false))) (yaa (yas rfl rfl ⟨_, rfl, (hS.sel [] (by decide)), h⟩))))
      · replace h := h.2 hp4; exact rl_p (yab rfl (yad rfl (congrArg Value.bool (congrArg Bool.not (decide_eq_false hp4)))) rfl) rfl (rl_p (yab rfl (yad rfl (congrArg Value.bool (congrArg Bool.not (decide_eq_false hp4)))) rfl) rfl (rl_p (yab rfl (yad rfl (congrArg Value.bool (congrArg Bool.not (decide_eq_false hp4)))) rfl) rfl (rl_p (yab rfl (yad rfl (congrArg Value.bool (congrArg Bool.not (decide_eq_false hp4)))) rfl) rfl (rl_p (yab rfl (yad rfl (congrArg Value.bool (congrArg Bool.not (decide_eq_false hp4)))) rfl) rfl (rl_p (yab rfl (yad rfl (congrArg Value.bool (congrArg Bool.not (decide_eq_false hp4)))) rfl) rfl (rl_p (yab rfl (yad rfl (congrArg Value.bool (congrArg Bool.not (decide_eq_false hp4)))) rfl) rfl (rl_p (yab rfl (yad rfl (congrArg Value.bool (congrArg Bool.not (decide_eq_false hp4)))) rfl) rfl (rl_p (yab rfl (yad rfl (congrArg Value.bool (congrArg Bool.not (decide_eq_false hp4)))) rfl) rfl (rl_p (yab rfl (yad rfl (congrArg Value.bool (congrArg Bool.not (decide_eq_false hp4)))) rfl) rfl (rl_p (yab rfl (yad rfl (congrArg Value.bool (congrArg Bool.not (decide_eq_false hp4)))) rfl) rfl (rl_p (yab rfl (yad rfl (congrArg Value.bool (congrArg Bool.not (decide_eq_false hp4)))) rfl) rfl (rl_p (yab rfl (yad rfl (congrArg Value.bool (congrArg Bool.not (decide_eq_false hp4)))) rfl) rfl (zq (yau (v := (.bool (true))) (congrArg Value.bool (congrArg Bool.not (decide_eq_false hp4))) rfl) (yaa (yaz rfl (zs (zq (za (.bool (false))) (yaa (yas rfl rfl ⟨_, rfl, (hS.sel [] (by decide)), h⟩)))))))))))))))))))
    · replace h := h.2 hp; exact yaz (congrArg Value.bool (congrArg Bool.not (Bool.eq_false_iff.2 hp))) (zs (zq (za (.bool (false))) (yaa (yas rfl rfl ⟨_, rfl, (hS.sel [] (by decide)), h⟩))))
  clear hJ; intro j; refine zr (zq (zm (ii r3)) (zq (zm (ii r5)) ?_)); obtain ⟨hi, h⟩ := h; refine zq (zA hi) (zq (zm (ii r7)) ?_); obtain ⟨hi2, h⟩ := h; refine zq (zA hi2) (zq (zm (ii r9)) ?_); obtain ⟨hi3, h⟩ := h; refine zq (zA hi3) (zq (zm (ii r12)) ?_); obtain ⟨hi4, h⟩ := h; refine zq (zA hi4) (zq (zm (ii r14)) ?_); obtain ⟨hi5, h⟩ := h; refine zq (zA hi5) (zq (zm (ii r16)) ?_); obtain ⟨hi6, h⟩ := h; refine zq (zA hi6) (zq (zm (ii r18)) ?_); obtain ⟨hi7, h⟩ := h; refine zq (zA hi7) (zq zN (zq (zm (.bool (!(decide ((((((((r3 + r5) + r7) + r9) + r12) + r14) + r16) + r18) = 0))))) ?_)); by_cases hp6 : (((((((r3 + r5) + r7) + r9) + r12) + r14) + r16) + r18) = 0
  · replace h := h.1 hp6; refine rl_q (yac rfl (yad rfl (congrArg Value.bool (congrArg Bool.not (decide_eq_true hp6))))) rfl rfl (zm (ii r4)) (rl_q (yac rfl (yad rfl (congrArg Value.bool (congrArg Bool.not (decide_eq_true hp6))))) rfl rfl zN (zq (yav (v := (.bool (!(decide (r4 = 45))))) (congrArg Value.bool (congrArg Bool.not (decide_eq_true hp6))) rfl) (zq (zm (.bool (!(decide (r4 = 45))))) ?_))); by_cases hp7 : r4 = 45
    · replace h := h.1 hp7; refine rl_q (yac rfl (yad rfl (congrArg Value.bool (congrArg Bool.not (decide_eq_true hp7))))) rfl rfl (zm (ii r8)) (rl_q (yac rfl (yad rfl (congrArg Value.bool (congrArg Bool.not (decide_eq_true hp7))))) rfl rfl zN (zq (yav (v := (.bool (!(decide (r8 = 4))))) (congrArg Value.bool (congrArg Bool.not (decide_eq_true hp7))) rfl) (zq (zm (.bool (!(decide (r8 = 4))))) ?_))); by_cases hp8 : r8 = 4
      · replace h := h.1 hp8; refine rl_q (yac rfl (yad rfl (congrArg Value.bool (congrArg Bool.not (decide_eq_true hp8))))) rfl rfl (zm (ii r15)) (rl_q (yac rfl (yad rfl (congrArg Value.bool (congrArg Bool.not (decide_eq_true hp8))))) rfl rfl zN (zq (yav (v := (.bool (!(decide (r15 = 12))))) (congrArg Value.bool (congrArg Bool.not (decide_eq_true hp8))) rfl) (yaa ?_))); by_cases hp9 : r15 = 12
        · replace h := h.1 hp9; exact ze hp9 (yak (j _ _ _ ⟨h, rfl, rfl, rfl, rfl, rfl, rfl, (hS.sel [2, 1, 5, 9, 8, 11, 14] (by decide))⟩))
        · replace h := h.2 hp9; exact zf hp9 (zs (zq (za (.bool (false))) (yaa (yas rfl rfl ⟨_, rfl, (hS.sel [] (by decide)), h⟩))))
      · replace h := h.2 hp8; exact rl_p (yab rfl (yad rfl (congrArg Value.bool (congrArg Bool.not (decide_eq_false hp8)))) rfl) rfl (rl_p (yab rfl (yad rfl (congrArg Value.bool (congrArg Bool.not (decide_eq_false hp8)))) rfl) rfl (zq (yau (v := (.bool (true))) (congrArg Value.bool (congrArg Bool.not (decide_eq_false hp8))) rfl) (yaa (yaz rfl (zs (zq (za (.bool (false))) (yaa (yas rfl rfl ⟨_, rfl, (hS.sel [] (by decide)), h⟩))))))))
    · replace h := h.2 hp7; exact rl_p (yab rfl (yad rfl (congrArg Value.bool (congrArg Bool.not (decide_eq_false hp7)))) rfl) rfl (rl_p (yab rfl (yad rfl (congrArg Value.bool (congrArg Bool.not (decide_eq_false hp7)))) rfl) rfl (zq (yau (v := (.bool (true))) (congrArg Value.bool (congrArg Bool.not (decide_eq_false hp7))) rfl) (zq (zm (.bool (true))) (rl_p (yab rfl (yad rfl rfl) rfl) rfl (rl_p (yab rfl (yad rfl rfl) rfl) rfl (zq (yau (v := (.bool (true))) rfl rfl) (yaa (yaz rfl (zs (zq (za (.bool (false))) (yaa (yas rfl rfl ⟨_, rfl, (hS.sel [] (by decide)), h⟩))))))))))))
  · replace h := h.2 hp6; exact rl_p (yab rfl (yad rfl (congrArg Value.bool (congrArg Bool.not (decide_eq_false hp6)))) rfl) rfl (rl_p (yab rfl (yad rfl (congrArg Value.bool (congrArg Bool.not (decide_eq_false hp6)))) rfl) rfl (zq (yau (v := (.bool (true))) (congrArg Value.bool (congrArg Bool.not (decide_eq_false hp6))) rfl) (zq (zm (.bool (true))) (rl_p (yab rfl (yad rfl rfl) rfl) rfl (rl_p (yab rfl (yad rfl rfl) rfl) rfl (zq (yau (v := (.bool (true))) rfl rfl) (zq (zm (.bool (true))) (rl_p (yab rfl (yad rfl rfl) rfl) rfl (rl_p (yab rfl (yad rfl rfl) rfl) rfl (zq (yau (v := (.bool (true))) rfl rfl) (yaa (yaz rfl (zs (zq (za (.bool (false))) (yaa (yas rfl rfl ⟨_, rfl, (hS.sel [] (by decide)), h⟩))))))))))))))))
def ygM (d : Int) (i : List Int) (R : Bool → Prop) : Prop :=
((40 < ((i.length : Nat) : Int) →
yc4 (fun r =>
R r)) ∧
(¬ (40 < ((i.length : Nat) : Int)) →
ycf d i (fun r2 r3 =>
ygV d i (fun r4 r5 =>
ybU d i (fun r6 r7 =>
ygS d i (fun r8 r9 =>
yba d i (fun r10 r11 =>
ygO d i (fun r12 r13 =>
yc4 (fun r14 =>
((r14 = true →
((r2 = r4 →
((r3 = r5 →
((r6 = r8 →
((r7 = r9 →
ya8 r10 r12 (fun r15 =>
((r15 = true →
R (decide (r11 = r13))) ∧
(¬ (r15 = true) →
R false)))) ∧
(¬ (r7 = r9) →
R false))) ∧
(¬ (r6 = r8) →
R false))) ∧
(¬ (r3 = r5) →
R false))) ∧
(¬ (r2 = r4) →
R false))) ∧
(¬ (r14 = true) →
R false)))))))))))
theorem pok_l11_FamilyTells {O : Nat → Prop} {w : World} {d i Ai li ci} {R : Bool → Prop} (h : ygM d i R) (hO : ∀ k, O k → k < w.heap.size) (hA0 : (FP.sl cI Ai li ci i).P O w) :
    Calls Try.prog 4 #[(ii d), (.slice Ai li ci)] w fun e w' => ∃ r16, e = .returned (.bool (r16)) ∧ Sep w no O w' (rl []) ∧ R r16 := by
  unfold ygM at h; have hS : Sep w no O w (rl [Res.ro (FP.sl cI Ai li ci i)]) := Sep.startl hO [(FP.sl cI Ai li ci i)] ⟨hA0, trivial⟩; refine yay (l := [(ii d), (.slice Ai li ci)]) func4 rfl ntmps4 (Nat.le_of_ble_eq_true rfl) (zs (zq (za (.bool (false))) (yaa (yag (zs (zq (zm (.slice Ai li ci)) (zq (ybp (n := i.length) rfl underlying22 (ybi (hS.rdr 0 rfl))) (zq zG (yaa ?_))))))))); by_cases hp : 40 < ((i.length : Nat) : Int)
  · replace h := h.1 hp; refine zc hp (zs (zn (yap rfl (am0) yhG ((ye3 h (yaM _)).mono ?_)))); rintro _ w2 ⟨r, rfl, hC, h⟩; replace hS := hS.pur hC.pure; clear hC; refine ⟨_, rfl, ?_⟩; exact zb (zq (za (.bool (r))) (yaa (yas rfl rfl ⟨_, rfl, (hS.sel [] (by decide)), h⟩)))
  · replace h := h.2 hp; refine zd hp (yak (zs (zq (zm (ii d)) (zq (zm (.slice Ai li ci)) (zn (yap rfl (am2 rfl rfl) enter_16 ((yfO h (yaM _) (hS.rdr 0 rfl)).mono ?_))))))); rintro _ w3 ⟨r2, r3, rfl, hC, h⟩; replace hS := hS.pur hC.pure; clear hC; refine ⟨_, rfl, ?_⟩; refine zb (zq (zm (.tuple #[(ii r2), (ii r3)])) (zq (zx (ii r2)) (zq (zx (ii r3)) (zq (za (ii r2)) (zq (za (ii r3)) (yaa (zs (zq (zm (ii d)) (zq (zm (.slice Ai li ci)) (zn (yap rfl (am2 rfl rfl) enter_17 ((pok_r11_Genus h (yaM _) (hS.rdr 0 rfl)).mono ?_)))))))))))); rintro _ w4 ⟨r4, r5, rfl, hC, h⟩; replace hS := hS.pur hC.pure; clear hC; refine ⟨_, rfl, ?_⟩; refine zb (zq (zm (.tuple #[(ii r4), (ii r5)])) (zq (zx (ii r4)) (zq (zx (ii r5)) (zq (za (ii r4)) (zq (za (ii r5)) (yaa (zs (zq (zm (ii d)) (zq (zm (.slice Ai li ci)) (zn (yap rfl (am2 rfl rfl) yia ((yd5 h (yaM _) (hS.rdr 0 rfl)).mono ?_)))))))))))); rintro _ w5 ⟨r6, r7, rfl, hC, h⟩; replace hS := hS.pur hC.pure; clear hC; refine ⟨_, rfl, ?_⟩; refine zb (zq (zm (.tuple #[(ii r6), (ii r7)])) (zq (zx (ii r6)) (zq (zx (ii r7)) (zq (za (ii r6)) (zq (za (ii r7)) (yaa (zs (zq (zm (ii d)) (zq (zm (.slice Ai li ci)) (zn (yap rfl (am2 rfl rfl) enter_19 ((pok_r11_Trees h (yaM _) (hS.rdr 0 rfl)).mono ?_)))))))))))); rintro _ w6 ⟨r8, r9, rfl, hC, h⟩; replace hS := hS.pur hC.pure; clear hC; refine ⟨_, rfl, ?_⟩; refine zb (zq (zm (.tuple #[(ii r8), (ii r9)])) (zq (zx (ii r8)) (zq (zx (ii r9)) (zq (za (ii r8)) (zq (za (ii r9)) (yaa (zs (zq (zm (ii d)) (zq (zm (.slice Ai li ci)) (zn (yap rfl (am2 rfl rfl) yfT ((ycn h (yaM _) (hS.rdr 0 rfl)).mono ?_)))))))))))); rintro _ w7 ⟨r10, r11, Ar, lr, cr, rfl, hC, h⟩; replace hS := hS.call1 (hC.widen (ybt (yaB (fI .i64) _ _ _ _ _) ybu) hS.blt) 1 0 rfl; clear hC; refine ⟨_, rfl, ?_⟩; refine zb (zq (zm (.tuple #[(.slice Ar lr cr), (ii r11)])) (zq (zx (.slice Ar lr cr)) (zq (zx (ii r11)) (zq (za (.slice Ar lr cr)) (zq (za (ii r11)) (yaa (zs (zq (zm (ii d)) (zq (zm (.slice Ai li ci)) (zn (yap rfl (am2 rfl rfl) enter_21 ((pok_r11_Cyclic h (yaM _) (hS.rdr 0 rfl)).mono ?_)))))))))))); rintro _ w8 ⟨r12, r13, Ar2, lr2, cr2, rfl, hC, h⟩; replace hS := hS.call1 (hC.widen (ybt (yaB (fI .i64) _ _ _ _ _) ybu) hS.blt) 2 0 rfl; clear hC; refine ⟨_, rfl, ?_⟩; refine zb (zq (zm (.tuple #[(.slice Ar2 lr2 cr2), (ii r13)])) (zq (zx (.slice Ar2 lr2 cr2)) (zq (zx (ii r13)) (zq (za (.slice Ar2 lr2 cr2)) (zq (za (ii r13)) (yaa (zs (zn (yap rfl (am0) yhG ((ye3 h (yaM _)).mono ?_)))))))))); rintro _ w9 ⟨r14, rfl, hC, h⟩; replace hS := hS.pur hC.pure; clear hC; refine ⟨_, rfl, ?_⟩; refine zb (zq (zm (.bool (r14))) ?_); by_cases hp2 : r14 = true
    · replace h := h.1 hp2; refine rl_q (yac rfl (yad rfl (congrArg Value.bool hp2))) rfl rfl (zm (ii r2)) (rl_q (yac rfl (yad rfl (congrArg Value.bool hp2))) rfl rfl (zm (ii r4)) (rl_q (yac rfl (yad rfl (congrArg Value.bool hp2))) rfl rfl zE (zq (yau (v := (.bool (decide (r2 = r4)))) (congrArg Value.bool hp2) rfl) (zq (zm (.bool (decide (r2 = r4)))) ?_)))); by_cases hp3 : r2 = r4
      · replace h := h.1 hp3; refine rl_q (yac rfl (yad rfl (congrArg Value.bool (decide_eq_true hp3)))) rfl rfl (zm (ii r3)) (rl_q (yac rfl (yad rfl (congrArg Value.bool (decide_eq_true hp3)))) rfl rfl (zm (ii r5)) (rl_q (yac rfl (yad rfl (congrArg Value.bool (decide_eq_true hp3)))) rfl rfl zE (zq (yau (v := (.bool (decide (r3 = r5)))) (congrArg Value.bool (decide_eq_true hp3)) rfl) (zq (zm (.bool (decide (r3 = r5)))) ?_)))); by_cases hp4 : r3 = r5
        · replace h := h.1 hp4; refine rl_q (yac rfl (yad rfl (congrArg Value.bool (decide_eq_true hp4)))) rfl rfl (zm (ii r6)) (rl_q (yac rfl (yad rfl (congrArg Value.bool (decide_eq_true hp4)))) rfl rfl (zm (ii r8)) (rl_q (yac rfl (yad rfl (congrArg Value.bool (decide_eq_true hp4)))) rfl rfl zE (zq (yau (v := (.bool (decide (r6 = r8)))) (congrArg Value.bool (decide_eq_true hp4)) rfl) (zq (zm (.bool (decide (r6 = r8)))) ?_)))); by_cases hp5 : r6 = r8
          · replace h := h.1 hp5; refine rl_q (yac rfl (yad rfl (congrArg Value.bool (decide_eq_true hp5)))) rfl rfl (zm (ii r7)) (rl_q (yac rfl (yad rfl (congrArg Value.bool (decide_eq_true hp5)))) rfl rfl (zm (ii r9)) (rl_q (yac rfl (yad rfl (congrArg Value.bool (decide_eq_true hp5)))) rfl rfl zE (zq (yau (v := (.bool (decide (r7 = r9)))) (congrArg Value.bool (decide_eq_true hp5)) rfl) (zq (zm (.bool (decide (r7 = r9)))) ?_)))); by_cases hp6 : r7 = r9
            · replace h := h.1 hp6; refine rl_q (yac rfl (yad rfl (congrArg Value.bool (decide_eq_true hp6)))) rfl rfl (zm (.slice Ar lr cr)) (rl_q (yac rfl (yad rfl (congrArg Value.bool (decide_eq_true hp6)))) rfl rfl (zm (.slice Ar2 lr2 cr2)) (rl_n (yac rfl (yad rfl (congrArg Value.bool (decide_eq_true hp6)))) rfl rfl rfl (yap rfl (am2 rfl rfl) yhk ((ych h (yaM _) (hS.rdo 1 rfl) (hS.rdo 2 rfl)).mono ?_)))); rintro _ w10 ⟨r15, rfl, hC, h⟩; replace hS := hS.pur hC.pure; clear hC; refine ⟨_, rfl, ?_⟩; refine zb (zq (yau (v := (.bool (r15))) (congrArg Value.bool (decide_eq_true hp6)) rfl) (zq (zm (.bool (r15))) ?_)); by_cases hp7 : r15 = true
              · replace h := h.1 hp7; exact rl_q (yac rfl (yad rfl (congrArg Value.bool hp7))) rfl rfl (zm (ii r11)) (rl_q (yac rfl (yad rfl (congrArg Value.bool hp7))) rfl rfl (zm (ii r13)) (rl_q (yac rfl (yad rfl (congrArg Value.bool hp7))) rfl rfl zE (zq (yau (v := (.bool (decide (r11 = r13)))) (congrArg Value.bool hp7) rfl) (zq (za (.bool (decide (r11 = r13)))) (yaa (yas rfl rfl ⟨_, rfl, (hS.sel [] (by decide)), h⟩))))))
              · replace h := h.2 hp7; exact rl_p (yab rfl (yad rfl (congrArg Value.bool (Bool.eq_false_iff.2 hp7))) rfl) rfl (rl_p (yab rfl (yad rfl (congrArg Value.bool (Bool.eq_false_iff.2 hp7))) rfl) rfl (rl_p (yab rfl (yad rfl (congrArg Value.bool (Bool.eq_false_iff.2 hp7))) rfl) rfl (zq (yav (v := (.bool (false))) (congrArg Value.bool (Bool.eq_false_iff.2 hp7)) rfl) (zq (za (.bool (false))) (yaa (yas rfl rfl ⟨_, rfl, (hS.sel [] (by decide)), h⟩))))))
            · replace h := h.2 hp6; exact rl_p (yab rfl (yad rfl (congrArg Value.bool (decide_eq_false hp6))) rfl) rfl (rl_p (yab rfl (yad rfl (congrArg Value.bool (decide_eq_false hp6))) rfl) rfl (rl_p (yab rfl (yad rfl (congrArg Value.bool (decide_eq_false hp6))) rfl) rfl (zq (yav (v := (.bool (false))) (congrArg Value.bool (decide_eq_false hp6)) rfl) (zq (zm (.bool (false))) (rl_p (yab rfl (yad rfl rfl) rfl) rfl (rl_p (yab rfl (yad rfl rfl) rfl) rfl (rl_p (yab rfl (yad rfl rfl) rfl) rfl (zq (yav (v := (.bool (false))) rfl rfl) (zq (za (.bool (false))) (yaa (yas rfl rfl ⟨_, rfl, (hS.sel [] (by decide)), h⟩)))))))))))
          · replace h := h.2 hp5; exact rl_p (yab rfl (yad rfl (congrArg Value.bool (decide_eq_false hp5))) rfl) rfl (rl_p (yab rfl (yad rfl (congrArg Value.bool (decide_eq_false hp5))) rfl) rfl (rl_p (yab rfl (yad rfl (congrArg Value.bool (decide_eq_false hp5))) rfl) rfl (zq (yav (v := (.bool (false))) (congrArg Value.bool (decide_eq_false hp5)) rfl) (zq (zm (.bool (false))) (rl_p (yab rfl (yad rfl rfl) rfl) rfl (rl_p (yab rfl (yad rfl rfl) rfl) rfl (rl_p (yab rfl (yad rfl rfl) rfl) rfl (zq (yav (v := (.bool (false))) rfl rfl) (zq (zm (.bool (false))) (rl_p (yab rfl (yad rfl rfl) rfl) rfl (rl_p (yab rfl (yad rfl rfl) rfl) rfl (rl_p (yab rfl (yad rfl rfl) rfl) rfl (zq (yav (v := (.bool (false))) rfl rfl) (zq (za (.bool (false))) (yaa (yas rfl rfl ⟨_, rfl, (hS.sel [] (by decide)), h⟩))))))))))))))))
        · replace h := h.2 hp4; exact rl_p (yab rfl (yad rfl (congrArg Value.bool (decide_eq_false hp4))) rfl) rfl (rl_p (yab rfl (yad rfl (congrArg Value.bool (decide_eq_false hp4))) rfl) rfl (rl_p (yab rfl (yad rfl (congrArg Value.bool (decide_eq_false hp4))) rfl) rfl (zq (yav (v := (.bool (false))) (congrArg Value.bool (decide_eq_false hp4)) rfl) (zq (zm (.bool (false))) (rl_p (yab rfl (yad rfl rfl) rfl) rfl (rl_p (yab rfl (yad rfl rfl) rfl) rfl (rl_p (yab rfl (yad rfl rfl) rfl) rfl (zq (yav (v := (.bool (false))) rfl rfl) (zq (zm (.bool (false))) (rl_p (yab rfl (yad rfl rfl) rfl) rfl (rl_p (yab rfl (yad rfl rfl) rfl) rfl (rl_p (yab rfl (yad rfl rfl) rfl) rfl (zq (yav (v := (.bool (false))) rfl rfl) (zq (zm (.bool (false))) (rl_p (yab rfl (yad rfl rfl) rfl) rfl (rl_p (yab rfl (yad rfl rfl) rfl) rfl (rl_p (yab rfl (yad rfl rfl) rfl) rfl (zq (yav (v := (.bool (false))) rfl rfl) (zq (za (.bool (false))) (yaa (yas rfl rfl ⟨_, rfl, (hS.sel [] (by decide)), h⟩)))))))))))))))))))))
      · replace h := h.2 hp3; exact rl_p (yab rfl (yad rfl (congrArg Value.bool (decide_eq_false hp3))) rfl) rfl (rl_p (yab rfl (yad rfl (congrArg Value.bool (decide_eq_false hp3))) rfl) rfl (rl_p (yab rfl (yad rfl (congrArg Value.bool (decide_eq_false hp3))) rfl) rfl (zq (yav (v := (.bool (false))) (congrArg Value.bool (decide_eq_false hp3)) rfl) (zq (zm (.bool (false))) (rl_p (yab rfl (yad rfl rfl) rfl) rfl (rl_p (yab rfl (yad rfl rfl) rfl) rfl (rl_p (yab rfl (yad rfl rfl) rfl) rfl (zq (yav (v := (.bool (false))) rfl rfl) (zq (zm (.bool (false))) (rl_p (yab rfl (yad rfl rfl) rfl) rfl (rl_p (yab rfl (yad rfl rfl) rfl) rfl (rl_p (yab rfl (yad rfl rfl) rfl) rfl (zq (yav (v := (.bool (false))) rfl rfl) (zq (zm (.bool (false))) (rl_p (yab rfl (yad rfl rfl) rfl) rfl (rl_p (yab rfl (yad rfl rfl) rfl) rfl (rl_p (yab rfl (yad rfl rfl) rfl) rfl (zq (yav (v := (.bool (false))) rfl rfl) (zq (zm (.bool (false))) (rl_p (yab rfl (yad rfl rfl) rfl) rfl (rl_p (yab rfl (yad rfl rfl) rfl) rfl (rl_p (yab rfl (yad rfl rfl) rfl) rfl (zq (yav (v := (.bool (false))) rfl rfl) (zq (za (.bool (false))) (yaa (yas rfl rfl ⟨_, rfl, (hS.sel [] (by decide)), h⟩))))))))))))))))))))))))))
    · replace h := h.2 hp2; exact rl_p (yab rfl (yad rfl (congrArg Value.bool (Bool.eq_false_iff.2 hp2))) rfl) rfl (rl_p (yab rfl (yad rfl (congrArg Value.bool (Bool.eq_false_iff.2 hp2))) rfl) rfl (rl_p (yab rfl (yad rfl (congrArg Value.bool (Bool.eq_false_iff.2 hp2))) rfl) rfl (zq (yav (v := (.bool (false))) (congrArg Value.bool (Bool.eq_false_iff.2 hp2)) rfl) (zq (zm (.bool (false))) (rl_p (yab rfl (yad rfl rfl) rfl) rfl (rl_p (yab rfl (yad rfl rfl) rfl) rfl (rl_p (yab rfl (yad rfl rfl) rfl) rfl (zq (yav (v := (.bool (false))) rfl rfl) (zq (zm (.bool (false))) (rl_p (yab rfl (yad rfl rfl) rfl) rfl (rl_p (yab rfl (yad rfl rfl) rfl) rfl (rl_p (yab rfl (yad rfl rfl) rfl) rfl (zq (yav (v := (.bool (false))) rfl rfl) (zq (zm (.bool (false))) (rl_p (yab rfl (yad rfl rfl) rfl) rfl (rl_p (yab rfl (yad rfl rfl) rfl) rfl (rl_p (yab rfl (yad rfl rfl) rfl) rfl (zq (yav (v := (.bool (false))) rfl rfl) (zq (zm (.bool (false))) (rl_p (yab rfl (yad rfl rfl) rfl) rfl (rl_p (yab rfl (yad rfl rfl) rfl) rfl (rl_p (yab rfl (yad rfl rfl) rfl) rfl (zq (yav (v := (.bool (false))) rfl rfl) (zq (zm (.bool (false))) (rl_p (yab rfl (yad rfl rfl) rfl) rfl (rl_p (yab rfl (yad rfl rfl) rfl) rfl (rl_p (yab rfl (yad rfl rfl) rfl) rfl (zq (yav (v := (.bool (false))) rfl rfl) (zq (za (.bool (false))) (yaa (yas rfl rfl ⟨_, rfl, (hS.sel [] (by decide)), h⟩)))))))))))))))))))))))))))))))
end Go.Proofs.Ytdbpajnjhgocoaa

/- The graph with some single edges: the reference and the program. -/
namespace Go.Proofs.Ytdbpajnjhgocoaa
open Go Go.RowKit Go.Shelf Go.Proofs.Try
set_option linter.unusedVariables false
set_option linter.unusedSimpArgs false
def yfP (T : List (List Int)) (k j : Nat) : Option E3 := if 0 < gi (gx T k) (k + j) then some ((k : Int), ((k + j : Nat) : Int), gi (gx T k) (k + j)) else none
def rowJ (d : Nat) (T : List (List Int)) (k : Nat) : List E3 := (List.range (d - k)).filterMap (yfP T k)
def yed (d : Nat) (T : List (List Int)) : List E3 := (List.range d).flatMap (rowJ d T)
theorem p_r08_Joined {d : Nat} (hd : d ≤ 12) {T : List (List Int)} (hT : T.length = d) (hr : ∀ a, a < d → (gx T a).length = d) {R : Int → List E3 → Prop} (h : R d (yed d T)) : ydf d T R := by
  refine ⟨fun m a g => ∃ k : Nat, a = k ∧ k + m = d ∧ g = (List.range k).flatMap (rowJ d T) ∧ g.length ≤ k * 12, ⟨d, 0, rfl, by omega, rfl, by simp⟩, ?_⟩
  rintro m a g ⟨k, rfl, hk, rfl, hl⟩
  refine ⟨fun hlt => ?_, fun hge => ?_⟩
  · refine ⟨fun m b g4 => ∃ j : Nat, b = ((k + j : Nat) : Int) ∧ k + j + m = d ∧ g4 = (List.range k).flatMap (rowJ d T) ++ (List.range j).filterMap (yfP T k) ∧ g4.length ≤ k * 12 + j, ⟨d - k, 0, by simp, by omega, by simp, by simpa using hl⟩, ?_⟩
    rintro m' b g4 ⟨j, rfl, hj, rfl, hl4⟩
    refine ⟨fun hb => ?_, fun hb => ?_⟩
    · have hrow := hr k (by omega)
      refine ⟨⟨by omega, by omega⟩, ⟨by omega, by rw [Int.toNat_natCast, hrow]; omega⟩, ?_⟩
      rw [Int.toNat_natCast, Int.toNat_natCast]
      refine ⟨fun hp => ⟨by omega, ⟨by omega, by omega⟩, m' - 1, by omega, j + 1, by omega, by omega, ?_, ?_⟩, fun hp => ⟨⟨by omega, by omega⟩, m' - 1, by omega, j + 1, by omega, by omega, ?_, by omega⟩⟩
      · rw [List.range_succ, List.filterMap_append, List.append_assoc]
        simp [yfP, hp]
      · rw [List.length_append, List.length_singleton]; omega
      · rw [List.range_succ, List.filterMap_append]
        simp [yfP, hp]
    · have hj2 : j = d - k := by omega
      subst hj2
      refine ⟨⟨by omega, by omega⟩, m - 1, by omega, k + 1, by omega, by omega, ?_, by omega⟩
      rw [List.range_succ, List.flatMap_append]
      simp [rowJ]
  · have : k = d := by omega
    subst this
    exact h
def isE (a b : Int) (e : Int × Int) : Bool := decide (mnF e.1 e.2 = a ∧ mxF e.1 e.2 = b)
def cntE (l : List (Int × Int)) (a b : Int) : Int := (l.countP (isE a b) : Int)
def rowT (d : Nat) (l : List (Int × Int)) (a : Nat) : List Int := (List.range d).map fun (b : Nat) => cntE l (a : Int) (b : Int)
def tabE (d : Nat) (l : List (Int × Int)) : List (List Int) := (List.range d).map (rowT d l)
theorem yeL (d : Nat) (l : List (Int × Int)) (a : Nat) : (rowT d l a).length = d := by simp [rowT]
theorem yfk (d : Nat) (l : List (Int × Int)) : (tabE d l).length = d := by simp [tabE]
theorem ydY {d : Nat} {l : List (Int × Int)} {a : Nat} (h : a < d) : gx (tabE d l) a = rowT d l a := by
  rw [yeG (by rw [yfk]; exact h)]; simp [tabE]
theorem yeh {d : Nat} {l : List (Int × Int)} {a b : Nat} (h : b < d) : gi (rowT d l a) b = cntE l a b := by
  rw [ybz (by rw [yeL]; exact h)]; simp [rowT]
theorem ydq (l : List (Int × Int)) (e : Int × Int) (a b : Int) : cntE (l ++ [e]) a b = cntE l a b + if mnF e.1 e.2 = a ∧ mxF e.1 e.2 = b then 1 else 0 := by
  unfold cntE
  rw [List.countP_append]
  by_cases h : mnF e.1 e.2 = a ∧ mxF e.1 e.2 = b
  · simp [List.countP_cons, isE, h]
  · simp [List.countP_cons, isE, h]
theorem tabE_nil (d : Nat) : tabE d [] = List.replicate d (List.replicate d 0) := by
  apply List.ext_getElem?
  intro k
  by_cases h : k < d
  · simp only [tabE, List.getElem?_map, List.getElem?_range h, Option.map_some, List.getElem?_replicate, h, if_true]
    congr 1
    apply List.ext_getElem?
    intro j
    by_cases h2 : j < d
    · simp [rowT, List.getElem?_replicate, h2, cntE]
    · simp [rowT, h2]
  · simp [tabE, h]
theorem tabE_set {d : Nat} {l : List (Int × Int)} {e : Int × Int} {a b : Nat} (ha : a < d) (hb : b < d) (h1 : mnF e.1 e.2 = a) (h2 : mxF e.1 e.2 = b) : (tabE d l).set a ((gx (tabE d l) a).set b (gi (gx (tabE d l) a) b + 1)) = tabE d (l ++ [e]) := by
  rw [ydY ha, yeh hb]
  apply List.ext_getElem?
  intro k
  rw [List.getElem?_set, yfk]
  by_cases hk : a = k
  · subst hk
    rw [if_pos rfl, if_pos ha]
    simp only [tabE, List.getElem?_map, List.getElem?_range ha, Option.map_some]
    congr 1
    apply List.ext_getElem?
    intro j
    rw [List.getElem?_set, yeL]
    by_cases hj : b = j
    · subst hj
      rw [if_pos rfl, if_pos hb]
      simp [rowT, hb, ydq, h1, h2]
    · rw [if_neg hj]
      by_cases hjd : j < d
      · have : ¬ ((b : Int) = (j : Int)) := fun q => hj (by omega)
        simp [rowT, hjd, ydq, h1, h2, this]
      · simp [rowT, hjd]
  · rw [if_neg hk]
    by_cases hkd : k < d
    · have : ¬ ((a : Int) = (k : Int)) := fun q => hk (by omega)
      simp only [tabE, List.getElem?_map, List.getElem?_range hkd, Option.map_some]
      congr 1
      unfold rowT
      refine List.map_congr_left fun j _ => ?_
      simp [ydq, h1, this]
    · simp [tabE, hkd]
theorem ygz (l : List (Int × Int)) (a b : Int) : 0 ≤ cntE l a b := Int.natCast_nonneg _
theorem cntE_le (l : List (Int × Int)) (a b : Int) : cntE l a b ≤ l.length := Int.ofNat_le.2 List.countP_le_length
theorem p_r08_Make {d : Nat} (h1 : 1 ≤ d) (hd : d ≤ 12) {l : List (Int × Int)} (hl : ∀ e ∈ l, (0 ≤ e.1 ∧ e.1 < d) ∧ 0 ≤ e.2 ∧ e.2 < d) (hn : l.length ≤ 4096) (hm : ∀ a b, cntE l a b ≤ 50) {R : Int → List E3 → Int → Prop} (h : R d (yed d (tabE d l)) 0) : ydU d l R := by
  refine ⟨True, fun _ => ⟨fun q => by omega, fun _ => ⟨by omega, ?_⟩⟩, fun q => by omega, fun _ => ⟨fun q => by omega, fun _ => trivial⟩⟩
  refine ⟨fun m v T => ∃ k : Nat, v = k ∧ k + m = l.length ∧ T = tabE d (l.take k), ⟨l.length, 0, rfl, by omega, by simp [tabE_nil]⟩, ?_⟩
  rintro m v T ⟨k, rfl, hk, rfl⟩
  refine ⟨fun hlt => ?_, fun hge => ?_⟩
  · have hkl : k < l.length := by omega
    rw [Int.toNat_natCast]
    have hx := hl (gx l k) (by rw [yeG hkl]; exact List.getElem_mem hkl)
    have htk : l.take (k + 1) = l.take k ++ [gx l k] := by rw [List.take_add_one, List.getElem?_eq_getElem hkl, yeG hkl]; rfl
    generalize gx l k = e at hx htk ⊢
    obtain ⟨a, ha⟩ : ∃ a : Nat, mnF e.1 e.2 = a := ⟨(mnF e.1 e.2).toNat, by unfold mnF; split <;> omega⟩
    obtain ⟨b, hb⟩ : ∃ b : Nat, mxF e.1 e.2 = b := ⟨(mxF e.1 e.2).toNat, by unfold mxF; split <;> omega⟩
    have had : a < d := by unfold mnF at ha; split at ha <;> omega
    have hbd : b < d := by unfold mxF at hb; split at hb <;> omega
    refine ⟨by omega, by decide, by decide, True, fun _ => ?_, fun q => by omega, fun _ => ⟨fun q => by omega, fun _ => ⟨fun q => by omega, fun _ => ⟨fun q => by omega, fun _ => trivial⟩⟩⟩⟩
    rw [ha, hb, Int.toNat_natCast, Int.toNat_natCast, yfk, ydY had, yeL, yeh hbd]
    have hc1 := ygz (l.take k) a b
    have hc2 := cntE_le (l.take k) a b
    have hc3 : (l.take k).length ≤ 4096 := by rw [List.length_take]; omega
    refine ⟨⟨by omega, by omega⟩, ⟨by omega, by omega⟩, ⟨by omega, by omega⟩, ⟨by omega, by omega⟩, m - 1, by omega, k + 1, by omega, by omega, ?_⟩
    have := tabE_set (l := l.take k) had hbd ha hb
    rw [ydY had, yeh hbd] at this
    rw [htk]
    exact this
  · have hk2 : l.take k = l := List.take_of_length_le (by omega)
    rw [hk2]
    refine ⟨fun m v => ∃ k : Nat, v = k ∧ k + m = d, ⟨d, 0, rfl, by omega⟩, ?_⟩
    rintro m v ⟨a, rfl, ha⟩
    refine ⟨fun hlt => ?_, fun _ => p_r08_Joined hd (yfk d l) (fun a ha => by rw [ydY ha, yeL]) h⟩
    refine ⟨fun m v => ∃ k : Nat, v = k ∧ k + m = d, ⟨d, 0, rfl, by omega⟩, ?_⟩
    rintro m' v ⟨b, rfl, hb⟩
    refine ⟨fun hlt2 => ?_, fun _ => ⟨⟨by omega, by omega⟩, m - 1, by omega, a + 1, by omega, by omega⟩⟩
    rw [Int.toNat_natCast, Int.toNat_natCast, yfk, ydY (by omega), yeL, yeh (by omega)]
    have := hm a b
    exact ⟨⟨by omega, by omega⟩, ⟨by omega, by omega⟩, fun q => by omega, fun _ => ⟨⟨by omega, by omega⟩, m' - 1, by omega, b + 1, by omega, by omega⟩⟩
structure BagOk (d : Nat) (l : List (Int × Int)) (M : List (List Int × Int)) : Prop where
  key : KOk 2 M
  at_ : ∀ p ∈ M, ∃ a b : Nat, a ≤ b ∧ b < d ∧ p.1 = [(a : Int), (b : Int)] ∧ p.2 = cntE l a b ∧ 0 < p.2
  get : ∀ a b : Int, (mget M [a, b]).getD 0 = cntE l a b
  len : M.length ≤ l.length
theorem BagOk.nil (d : Nat) : BagOk d [] [] := ⟨KOk.nil 2, fun p h => by simp at h, fun a b => by simp [mget, cntE], Nat.le_refl _⟩
theorem keyOk2 {d a b : Nat} (hd : d ≤ 12) (h1 : a ≤ b) (h2 : b < d) : yf5 2 [(a : Int), (b : Int)] := by
  refine ⟨rfl, fun x hx => ?_⟩
  simp only [List.mem_cons, List.not_mem_nil, or_false] at hx
  rcases hx with rfl | rfl <;> exact ⟨by omega, by omega⟩
theorem BagOk.put {d : Nat} {l : List (Int × Int)} {M : List (List Int × Int)} (h : BagOk d l M) (hd : d ≤ 12) {e : Int × Int} {a b : Nat} (h1 : a ≤ b) (h2 : b < d) (ha : mnF e.1 e.2 = a) (hb : mxF e.1 e.2 = b) : BagOk d (l ++ [e]) (mput M [(a : Int), (b : Int)] (cntE l a b + 1)) := by
  have hk := h.key.put (keyOk2 hd h1 h2) (cntE l a b + 1)
  refine ⟨hk, fun p hp => ?_, fun x y => ?_, by have := h.len; rw [mput_length, List.length_append, List.length_singleton]; split <;> omega⟩
  · obtain ⟨j, hj⟩ := List.getElem?_of_mem hp
    have hg := mget_at hk.1 (k := p.1) (v := p.2) hj
    rw [yfV] at hg
    by_cases q : [(a : Int), (b : Int)] = p.1
    · rw [if_pos q] at hg
      refine ⟨a, b, h1, h2, q.symm, ?_, ?_⟩
      · rw [ydq, if_pos ⟨ha, hb⟩]; exact (Option.some.inj hg).symm
      · rw [← Option.some.inj hg]; have := ygz l a b; omega
    · rw [if_neg q] at hg
      obtain ⟨x, y, h3, h4, h5, h6, h7⟩ := h.at_ _ (mget_mem hg)
      refine ⟨x, y, h3, h4, h5, ?_, h7⟩
      rw [ydq, if_neg, Int.add_zero]
      · exact h6
      · rintro ⟨q1, q2⟩
        rw [ha] at q1; rw [hb] at q2
        have h5 : p.1 = [(x : Int), (y : Int)] := h5
        exact q (by rw [h5, q1, q2])
  · rw [yfV, ydq, ha, hb, ← h.get x y]
    by_cases q : (a : Int) = x ∧ (b : Int) = y
    · rw [if_pos (by rw [q.1, q.2]), if_pos q, h.get x y, ← q.1, ← q.2]; rfl
    · rw [if_neg (fun z => q (by simpa using z)), if_neg q, Int.add_zero]
def eM (p : List Int × Int) : E3 := (gi p.1 0, gi p.1 1, p.2)
theorem nodupN_le : ∀ {l K : List Nat}, l.Nodup → (∀ x ∈ l, x ∈ K) → l.length ≤ K.length
  | [], K, _, _ => Nat.zero_le _
  | a :: t, K, hn, hs => by
    rw [List.nodup_cons] at hn
    have ha : a ∈ K := hs a (by simp)
    have h2 := nodupN_le (l := t) (K := K.erase a) hn.2 fun x hx => (List.mem_erase_of_ne (by rintro rfl; exact hn.1 hx)).2 (hs x (by simp [hx]))
    rw [List.length_erase_of_mem ha] at h2
    have : 0 < K.length := List.length_pos_of_mem ha
    rw [List.length_cons]; omega
theorem seen_lt {n j : Nat} {seen : List Nat} (hn : seen.Nodup) (hs : ∀ x ∈ seen, x < n) (hj : j < n) (hnj : j ∉ seen) : seen.length < n := by
  have := nodupN_le (l := j :: seen) (K := List.range n) (List.nodup_cons.2 ⟨hnj, hn⟩) fun x hx => by
    rcases List.mem_cons.1 hx with rfl | hx
    · exact List.mem_range.2 hj
    · exact List.mem_range.2 (hs x hx)
  simp at this; omega
theorem yen {d : Nat} {l : List (Int × Int)} {x : E3} : x ∈ yed d (tabE d l) ↔ ∃ a b : Nat, a ≤ b ∧ b < d ∧ 0 < cntE l a b ∧ x = ((a : Int), (b : Int), cntE l a b) := by
  unfold yed
  simp only [List.mem_flatMap, List.mem_range, rowJ, List.mem_filterMap]
  constructor
  · rintro ⟨a, ha, j, hj, hx⟩
    unfold yfP at hx
    rw [ydY ha, yeh (by omega)] at hx
    split at hx
    · rename_i hp
      exact ⟨a, a + j, by omega, by omega, hp, (Option.some.inj hx).symm⟩
    · cases hx
  · rintro ⟨a, b, h1, h2, h3, rfl⟩
    refine ⟨a, by omega, b - a, by omega, ?_⟩
    unfold yfP
    rw [ydY (by omega), yeh (by omega), show a + (b - a) = b by omega, if_pos h3]
def ltE (x y : E3) : Prop := x.1 < y.1 ∨ x.1 = y.1 ∧ x.2.1 < y.2.1
theorem yes {d : Nat} {T : List (List Int)} : (yed d T).Pairwise ltE := by
  unfold yed
  rw [List.pairwise_flatMap]
  refine ⟨fun a _ => ?_, ?_⟩
  · unfold rowJ
    refine List.Pairwise.filterMap (R := fun a b => a < b) (S := ltE) (yfP T a) ?_ List.pairwise_lt_range
    intro x y hxy u hu v hv
    unfold yfP at hu hv
    split at hu
    · split at hv
      · cases hu; cases hv
        refine .inr ⟨rfl, ?_⟩
        show ((a + x : Nat) : Int) < ((a + y : Nat) : Int)
        omega
      · cases hv
    · cases hu
  · refine List.pairwise_lt_range.imp ?_
    intro a b hab u hu v hv
    simp only [rowJ, List.mem_filterMap] at hu hv
    obtain ⟨x, _, hu⟩ := hu
    obtain ⟨y, _, hv⟩ := hv
    unfold yfP at hu hv
    split at hu
    · split at hv
      · cases hu; cases hv
        refine .inl ?_
        show (a : Int) < (b : Int)
        omega
      · cases hv
    · cases hu
theorem BagOk.mem {d : Nat} {l : List (Int × Int)} {M : List (List Int × Int)} (h : BagOk d l M) (x : E3) : x ∈ M.map eM ↔ x ∈ yed d (tabE d l) := by
  rw [yen, List.mem_map]
  constructor
  · rintro ⟨p, hp, rfl⟩
    obtain ⟨a, b, h1, h2, h3, h4, h5⟩ := h.at_ p hp
    exact ⟨a, b, h1, h2, by rw [← h4]; exact h5, by unfold eM; rw [h3, h4]; rfl⟩
  · rintro ⟨a, b, h1, h2, h3, rfl⟩
    have hg := h.get a b
    cases hq : mget M [(a : Int), (b : Int)] with
    | none => rw [hq] at hg; simp at hg; omega
    | some v =>
      rw [hq] at hg
      have hg : v = cntE l a b := hg
      exact ⟨_, mget_mem hq, by unfold eM; rw [hg]; rfl⟩
theorem BagOk.nodup {d : Nat} {l : List (Int × Int)} {M : List (List Int × Int)} (h : BagOk d l M) : (M.map eM).Nodup := by
  unfold List.Nodup
  rw [List.pairwise_map]
  refine h.key.1.imp_of_mem ?_
  intro p q hp hq hne he
  obtain ⟨a, b, _, _, h3, _, _⟩ := h.at_ p hp
  obtain ⟨a', b', _, _, h3', _, _⟩ := h.at_ q hq
  apply hne
  unfold eM at he
  rw [h3, h3'] at he ⊢
  have e1 : (a : Int) = a' := congrArg Prod.fst he
  have e2 : (b : Int) = b' := congrArg (fun z : E3 => z.2.1) he
  rw [e1, e2]
theorem sorted_unique {d : Nat} {T : List (List Int)} {zs : List E3} (hp : zs.Perm (yed d T)) (hs : zs.Pairwise (fun a b => ¬ ydP b.1 b.2.1 a.1 a.2.1 < 0)) : zs = yed d T := by
  have hsd := yes (d := d) (T := T)
  have hJ : (yed d T).Pairwise (fun a b : E3 => ¬ ydP b.1 b.2.1 a.1 a.2.1 < 0) := hsd.imp fun {a b} h => by
    rw [ydO]
    unfold ltE at h
    omega
  refine List.Perm.eq_of_pairwise (le := fun a b : E3 => ¬ ydP b.1 b.2.1 a.1 a.2.1 < 0) (fun a b ha hb h1 h2 => ?_) hs hJ hp
  rw [ydO] at h1 h2
  have ha := hp.subset ha
  have e : a.1 = b.1 ∧ a.2.1 = b.2.1 := by omega
  rcases Classical.em (a = b) with q | q
  · exact q
  · exfalso
    have key : ∀ x y : E3, x ∈ yed d T → y ∈ yed d T → x ≠ y → x.1 = y.1 ∧ x.2.1 = y.2.1 → False := by
      intro x y hx hy hne he
      have p1 : (yed d T).Pairwise (fun x y : E3 => x ≠ y → ¬ (x.1 = y.1 ∧ x.2.1 = y.2.1)) := hsd.imp fun {a b} h _ he => by unfold ltE at h; omega
      have p2 : (yed d T).Pairwise (flip fun x y : E3 => x ≠ y → ¬ (x.1 = y.1 ∧ x.2.1 = y.2.1)) := hsd.imp fun {a b} h => by
        show b ≠ a → ¬ (b.1 = a.1 ∧ b.2.1 = a.2.1)
        intro _ he; unfold ltE at h; omega
      have := List.Pairwise.forall_of_forall_of_flip (R := fun x y : E3 => x ≠ y → ¬ (x.1 = y.1 ∧ x.2.1 = y.2.1)) (fun z _ h => absurd rfl h) p1 p2
      exact this hx hy hne he
    exact key a b ha hb q e
theorem p_bag_graph {d : Nat} {l : List (Int × Int)} {M : List (List Int × Int)} (h : BagOk d l M) (hn : l.length ≤ 4096) {R : Int → List E3 → Prop} (hR : R d (yed d (tabE d l))) : yb8 M d R := by
  have hML := h.len
  refine ⟨fun m g seen => seen.Nodup ∧ (∀ j ∈ seen, j < M.length) ∧ g = seen.map (fun j => eM (M.getD j default)) ∧ m + seen.length = M.length, ⟨M.length, List.nodup_nil, by simp, rfl, by simp⟩, ?_⟩
  rintro m g seen ⟨h1, h2, rfl, h3⟩
  refine ⟨h.key, fun j ka kb kv hj hns => ?_, fun hall => ?_⟩
  · have hjl : j < M.length := (List.getElem?_eq_some_iff.1 hj).1
    have hlt := seen_lt h1 h2 hjl hns
    refine ⟨by rw [List.length_map]; omega, m - 1, by omega, ?_, ?_, ?_, ?_⟩
    · rw [List.nodup_append]
      exact ⟨h1, by simp, fun a ha b hb => by rw [List.mem_singleton] at hb; subst hb; exact fun q => hns (q ▸ ha)⟩
    · intro x hx
      rcases List.mem_append.1 hx with hx | hx
      · exact h2 x hx
      · rw [List.mem_singleton] at hx; subst hx; exact hjl
    · rw [List.map_append]
      simp [List.getD_eq_getElem?_getD, hj, eM, gi]
    · rw [List.length_append, List.length_singleton]; omega
  · have hp : seen.Perm (List.range M.length) := (List.perm_ext_iff_of_nodup h1 List.nodup_range).2 fun a => ⟨fun q => List.mem_range.2 (h2 a q), fun q => hall a (List.mem_range.1 q)⟩
    have he : (List.range M.length).map (fun j => eM (M.getD j default)) = M.map eM := by
      apply List.ext_getElem?
      intro k
      by_cases hk : k < M.length
      · simp [hk, List.getD_eq_getElem?_getD]
      · simp [hk]
    have hp2 : (seen.map fun j => eM (M.getD j default)).Perm (yed d (tabE d l)) := by
      refine (hp.map _).trans ?_
      rw [he]
      exact (List.perm_ext_iff_of_nodup h.nodup (yes.imp fun {a b} q => by rintro rfl; unfold ltE at q; omega)).2 h.mem
    refine ⟨by rw [List.length_map]; have := seen.length; omega, fun zs hz hs => ?_⟩
    rw [sorted_unique (hz.trans hp2) hs]
    exact hR
theorem p_graph_Make {d : Nat} (h1 : 1 ≤ d) (hd : d ≤ 12) {l : List (Int × Int)} (hl : ∀ e ∈ l, (0 ≤ e.1 ∧ e.1 < d) ∧ 0 ≤ e.2 ∧ e.2 < d) (hn : l.length ≤ 4096) (hm : ∀ a b, cntE l a b ≤ 50) {R : Int → List E3 → Int → Prop} (h : R d (yed d (tabE d l)) 0) : ya3 d l R := by
  refine ⟨True, fun _ => ⟨fun q => by omega, fun _ => ?_⟩, fun q => by omega, fun _ => ⟨fun q => by omega, fun _ => trivial⟩⟩
  refine ⟨fun m v M => ∃ k : Nat, v = k ∧ k + m = l.length ∧ BagOk d (l.take k) M, ⟨l.length, 0, rfl, by omega, BagOk.nil d⟩, ?_⟩
  rintro m v M ⟨k, rfl, hk, hM⟩
  refine ⟨fun hlt => ?_, fun hge => ?_⟩
  · have hkl : k < l.length := by omega
    rw [Int.toNat_natCast]
    have hx := hl (gx l k) (by rw [yeG hkl]; exact List.getElem_mem hkl)
    have htk : l.take (k + 1) = l.take k ++ [gx l k] := by rw [List.take_add_one, List.getElem?_eq_getElem hkl, yeG hkl]; rfl
    generalize gx l k = e at hx htk ⊢
    obtain ⟨a, ha⟩ : ∃ a : Nat, mnF e.1 e.2 = a := ⟨(mnF e.1 e.2).toNat, by unfold mnF; split <;> omega⟩
    obtain ⟨b, hb⟩ : ∃ b : Nat, mxF e.1 e.2 = b := ⟨(mxF e.1 e.2).toNat, by unfold mxF; split <;> omega⟩
    have hab : a ≤ b := by unfold mnF at ha; unfold mxF at hb; split at ha <;> split at hb <;> omega
    have hbd : b < d := by unfold mxF at hb; split at hb <;> omega
    have hg : (mget M [(a : Int), (b : Int)]).getD 0 = cntE (l.take k) a b := hM.get a b
    have hput := hM.put hd hab hbd ha hb
    have hc1 := ygz (l.take k) a b
    have hc2 := cntE_le (l.take k) a b
    have hc3 : (l.take k).length ≤ 4096 := by rw [List.length_take]; omega
    have hK := keyOk2 hd hab hbd
    have hin : In64 (cntE (l.take k) a b + 1) := ⟨by omega, by omega⟩
    refine ⟨by omega, True, fun _ => ?_, by decide, ?_⟩
    · refine ⟨fun M' => M' = mput M [(a : Int), (b : Int)] (cntE (l.take k) a b + 1), fun M' hM' => ?_, by decide, by decide, ?_⟩
      · subst hM'
        exact ⟨⟨by omega, by omega⟩, m - 1, by omega, k + 1, by omega, by omega, by rw [htk]; exact hput⟩
      · unfold ycG
        rw [ha, hb]
        refine ⟨⟨hM.key, hK, by rw [hg]; exact hin, by rw [hg]⟩, hM.key, hK, hM.key.put hK _, ?_, ?_⟩
        · rw [yfV, if_pos rfl, Option.getD_some, hg]; exact hin
        · show _ = _
          rw [yfV, if_pos rfl, Option.getD_some, hg]
    · unfold ybe
      obtain ⟨⟨x1, x2⟩, x3, x4⟩ := hx
      exact ⟨fun _ => ⟨fun _ => ⟨by decide, fun _ => ⟨fun _ => trivial, fun q => absurd (decide_eq_true x4) q⟩, fun q => absurd x3 q⟩, fun q => absurd (decide_eq_true x2) q⟩, fun q => absurd x1 q⟩
  · have hk2 : l.take k = l := List.take_of_length_le (by omega)
    rw [hk2] at hM
    refine ⟨fun m seen => seen.Nodup ∧ (∀ j ∈ seen, j < M.length) ∧ m + seen.length = M.length, ⟨M.length, List.nodup_nil, by simp, by simp⟩, ?_⟩
    rintro m seen ⟨q1, q2, q3⟩
    refine ⟨hM.key, fun j ka kb kv hj hns => ?_, fun _ => p_bag_graph hM hn h⟩
    have hjl : j < M.length := (List.getElem?_eq_some_iff.1 hj).1
    have hlt := seen_lt q1 q2 hjl hns
    have h50 : kv ≤ 50 := by
      obtain ⟨a, b, _, _, _, h6, _⟩ := hM.at_ _ (List.mem_of_getElem? hj)
      have h6 : kv = cntE l a b := h6
      rw [h6]; exact hm a b
    refine ⟨fun q => by omega, fun _ => ⟨m - 1, by omega, ?_, ?_, ?_⟩⟩
    · rw [List.nodup_append]
      exact ⟨q1, by simp, fun a ha b hb => by rw [List.mem_singleton] at hb; subst hb; exact fun q => hns (q ▸ ha)⟩
    · intro x hx
      rcases List.mem_append.1 hx with hx | hx
      · exact q2 x hx
      · rw [List.mem_singleton] at hx; subst hx; exact hjl
    · rw [List.length_append, List.length_singleton]; omega
end Go.Proofs.Ytdbpajnjhgocoaa
