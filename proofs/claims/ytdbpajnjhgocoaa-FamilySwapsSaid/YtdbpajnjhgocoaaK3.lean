/- Texts laid together: Pa, Pb, Pe, Pg, SpA, SpB, SpC, SpE, SpG. -/
import Derived.Test.YtdbpajnjhgocoaaK2
/- Pure forms of functions, made by program (pf.py), each with the proof that the code does so. -/
namespace Go.Proofs.Ytdbpajnjhgocoaa
open Go Go.RowKit Go.Shelf Go.Proofs.Try
set_option linter.unusedVariables false
set_option maxRecDepth 100000
set_option maxHeartbeats 8000000
def ycV (g : Int) (g2 : List E3) (R : (List (Int × Int)) → Prop) : Prop :=
(∃ I2 : Nat → (List (Int × Int)) → Int → Prop, (∃ m0, I2 m0 ([]) 0) ∧ ∀ m2 out i, I2 m2 out i → 
((i < ((g2.length : Nat) : Int) →
(∃ I3 : Nat → (List (Int × Int)) → Int → Prop, (∃ m0, I3 m0 out 0) ∧ ∀ m3 out2 k, I3 m3 out2 k → 
((0 ≤ i ∧ i < ((g2.length : Nat) : Int)) ∧
((k < ((ge g2 i.toNat).2.2) →
(out2.length + 1 ≤ 1000000000 ∧
(In64 (k + 1) ∧
∃ m4, m4 < m3 ∧ I3 m4 (out2 ++ [((ge g2 i.toNat).1, (ge g2 i.toNat).2.1)]) (k + 1)))) ∧
(¬ (k < ((ge g2 i.toNat).2.2)) →
(In64 (i + 1) ∧
∃ m5, m5 < m2 ∧ I2 m5 out2 (i + 1))))))) ∧
(¬ (i < ((g2.length : Nat) : Int)) →
R out)))
theorem yfF {O : Nat → Prop} {w : World} {g g2 Ag lg cg} {R : (List (Int × Int)) → Prop} (h : ycV g g2 R) (hO : ∀ k, O k → k < w.heap.size) (hA0 : (FP.sl c3 Ag lg cg g2).P O w) :
    Calls Try.prog 31 #[(.agg #[(ii g), (.slice Ag lg cg)])] w fun e w' => ∃ r Ar lr cr, e = .returned (.slice Ar lr cr) ∧ Sep w no O w' (rl [Res.own c2 59 Ar lr cr r]) ∧ R r := by
  unfold ycV at h; have hS : Sep w no O w (rl [Res.ro (FP.sl c3 Ag lg cg g2)]) := Sep.startl hO [(FP.sl c3 Ag lg cg g2)] ⟨hA0, trivial⟩; refine yay (l := [(.agg #[(ii g), (.slice Ag lg cg)])]) func31 rfl ntmps31 (Nat.le_of_ble_eq_true rfl) (zs (zn (yec (v := (.agg #[(ii g), (.slice Ag lg cg)])) rfl ?_))); intro g3 w2 hN; replace hS : Sep w no O w2 (stl _ 1 (Res.box 31 g3 [(ii g), (.slice Ag lg cg)])) := hS.new 1 rfl hN; clear hN; refine zb (zq (za (.slice none 0 0)) (yaa (zs (zq (za (.slice none 0 0)) (yaa (yag (zs (zq (za (ii 0)) (yaa (yam ?_)))))))))); replace hS := hS.nil 2 rfl c2 59; obtain ⟨I2, ⟨m0, h0⟩, hr⟩ := h; refine yaL (fun m E ds w' => ∃ out i Aout lout cout, I2 m out i ∧ ds = [] ∧ E 1 = (Value.pointer (some (⟨g3, 0, none⟩ : Addr))) ∧ E 3 = (Value.slice Aout lout cout) ∧ E 4 = (ii i) ∧ Sep w no O w' (rl [Res.own c2 59 Aout lout cout out, Res.box 31 g3 [(ii g), (.slice Ag lg cg)], Res.ro (FP.sl c3 Ag lg cg g2)])) m0 ⟨_, _, _, _, _, h0, rfl, rfl, rfl, rfl, (hS.sel [2, 1, 0] (by decide))⟩ ?_; clear h0 hS; rintro m2 E ds w3 ⟨out, i, Aout, lout, cout, h, rfl, hE1, hE3, hE4, hS⟩ again; replace h := hr m2 out i h; clear hr; refine yag (zs (zq (yae hE4) (zq (yao hE1 underlying31 rfl ybW) (zq (zl underlying29 (Row.cell (hS.bx 1 rfl) (i := 1) rfl)) (zq (ybp (n := g2.length) rfl underlying29 (ybi (hS.rdr 2 rfl))) (zq zL (yaa ?_))))))); by_cases hp : i < ((g2.length : Nat) : Int)
  · replace h := h.1 hp; refine zc hp (yak (yag (yam (zs (zq (za (ii 0)) (yaa (yam ?_))))))); obtain ⟨I3, ⟨m0, h0⟩, hr⟩ := h; refine yaL (fun m E ds w' => ∃ out2 k Aout2 lout2 cout2, I3 m out2 k ∧ ds = [] ∧ E 1 = (Value.pointer (some (⟨g3, 0, none⟩ : Addr))) ∧ E 3 = (Value.slice Aout2 lout2 cout2) ∧ E 4 = (ii i) ∧ E 5 = (ii k) ∧ Sep w no O w' (rl [Res.own c2 59 Aout2 lout2 cout2 out2, Res.box 31 g3 [(ii g), (.slice Ag lg cg)], Res.ro (FP.sl c3 Ag lg cg g2)])) m0 ⟨_, _, _, _, _, h0, rfl, hE1, hE3, hE4, rfl, (hS.sel [0, 1, 2] (by decide))⟩ ?_; clear h0 hS; rintro m3 E ds w4 ⟨out2, k, Aout2, lout2, cout2, h, rfl, hE1, hE3, hE4, hE5, hS⟩ again2; replace h := hr m3 out2 k h; clear hr; refine yag (zs (zq (yae hE5) (zq (yao hE1 underlying31 rfl ybW) (zq (zl underlying29 (Row.cell (hS.bx 1 rfl) (i := 1) rfl)) (zq (yae hE4) ?_))))); obtain ⟨hx, h⟩ := h; refine zq (zi underlying29 ybA (yaF (hS.rdr 2 rfl) hx)) (zq (yao rfl underlying75 rfl yai) (zq (yaw (v := (ii ((ge g2 i.toNat).2.2))) rfl underlying3 rfl (rd_f (hS.rdr 2 rfl) hx (fun q => yev q) 2 rfl)) ?_)); refine zq zL (yaa ?_); by_cases hp2 : k < ((ge g2 i.toNat).2.2)
    · replace h := h.1 hp2; refine zc hp2 (yak (yag (yam (ya6 [0, 1, 2, 3, 4, 5, 6, 7, 8, 9, 10, 11, 12, 13, 14, 15, 16] (fun i => match i with | 13 => [0] | 14 => [0] | _ => []) yaS (by kernel_rfl) (by kernel_rfl) ?_)))); replace hS := hS.drew; refine zp (yae hE3) (zp (yao hE1 underlying31 rfl ybW) (zp (zl underlying29 (Row.cell (hS.bx 1 rfl) (i := 1) rfl)) (zp (yae hE4) (zp (zi underlying29 ybA (yaF (hS.rdr 2 rfl) hx)) (zp (yao rfl underlying75 rfl yai) (zp (yaw (v := (ii ((ge g2 i.toNat).1))) rfl underlying3 rfl (rd_f (hS.rdr 2 rfl) hx (fun q => yev q) 0 rfl)) ?_)))))); refine zp (yao hE1 underlying31 rfl ybW) (zp (zl underlying29 (Row.cell (hS.bx 1 rfl) (i := 1) rfl)) (zp (yae hE4) (zp (zi underlying29 ybA (yaF (hS.rdr 2 rfl) hx)) (zp (yao rfl underlying75 rfl yai) (zp (yaw (v := (ii ((ge g2 i.toNat).2.1))) rfl underlying3 rfl (rd_f (hS.rdr 2 rfl) hx (fun q => yev q) 1 rfl)) ?_))))); refine rp_n rfl rfl rfl rfl (ya2 (l := [(0, (ii ((ge g2 i.toNat).1))), (1, (ii ((ge g2 i.toNat).2.1)))]) (cells := [(ii ((ge g2 i.toNat).1)), (ii ((ge g2 i.toNat).2.1))]) (bp2 rfl rfl) underlying59 yaA yai (by kernel_rfl) ?_); refine ⟨⟨fun hh => Bool.noConfusion (show false = true from hh), ⟨fun hh => Bool.noConfusion (show false = true from hh), ⟨fun hh => Bool.noConfusion (show false = true from hh), ⟨fun hh => Bool.noConfusion (show false = true from hh), ⟨fun hh => Bool.noConfusion (show false = true from hh), ⟨fun hh => Bool.noConfusion (show false = true from hh), ⟨fun hh => Bool.noConfusion (show false = true from hh), ⟨fun hh => Bool.noConfusion (show false = true from hh), ⟨fun hh => Bool.noConfusion (show false = true from hh), ⟨fun hh => Bool.noConfusion (show false = true from hh), ⟨fun hh => Bool.noConfusion (show false = true from hh), ⟨fun hh => Bool.noConfusion (show false = true from hh), ⟨fun _ => (yae hE3), trivial⟩⟩⟩⟩⟩⟩⟩⟩⟩⟩⟩⟩⟩, ?_⟩; refine rp_n rfl rfl rfl rfl (yaD (l := [(0, (.agg #[(ii ((ge g2 i.toNat).1)), (ii ((ge g2 i.toNat).2.1))]))]) (cells := [(ii ((ge g2 i.toNat).1)), (ii ((ge g2 i.toNat).2.1))]) (bp1 rfl) underlying57 yaA rfl rfl ?_); intro g4 w5 hN; replace hS := hS.litf (n := 1) 3 rfl (fP (fI .i64) (fI .i64)) hN ([((ge g2 i.toNat).1, (ge g2 i.toNat).2.1)] : List (Int × Int)) rfl (by decide) rfl; clear hN; refine ⟨⟨fun hh => Bool.noConfusion (show false = true from hh), ⟨fun hh => Bool.noConfusion (show false = true from hh), ⟨fun hh => Bool.noConfusion (show false = true from hh), ⟨fun hh => Bool.noConfusion (show false = true from hh), ⟨fun hh => Bool.noConfusion (show false = true from hh), ⟨fun hh => Bool.noConfusion (show false = true from hh), ⟨fun hh => Bool.noConfusion (show false = true from hh), ⟨fun hh => Bool.noConfusion (show false = true from hh), ⟨fun hh => Bool.noConfusion (show false = true from hh), ⟨fun hh => Bool.noConfusion (show false = true from hh), ⟨fun hh => Bool.noConfusion (show false = true from hh), ⟨fun hh => Bool.noConfusion (show false = true from hh), ⟨fun _ => (yae hE3), trivial⟩⟩⟩⟩⟩⟩⟩⟩⟩⟩⟩⟩⟩, ?_⟩; obtain ⟨hx2, h⟩ := h; refine rp_n rfl rfl rfl rfl (ycB (c := c2) rfl rfl underlying57 underlying57 yaA rfl rfl (by decide) hS 0 rfl (hS.yo 3 rfl) hx2 ?_); clear hS; intro A c w6 hS; refine zb (zp (za (.slice A (lout2 + 1) c)) (ybk (yan (zr (zq (yae hE5) ?_))))); obtain ⟨hi, h⟩ := h; refine zq (zA hi) (zq (za (ii (k + 1))) (yaa ?_)); obtain ⟨mq, hlt, h⟩ := h; exact again2 mq _ _ _ ⟨_, _, _, _, _, h, rfl, hE1, rfl, hE4, rfl, (hS.sel [0, 1, 2] (by decide))⟩ hlt
    · replace h := h.2 hp2; refine zd hp2 (yaJ rfl (yan (zr (zq (yae hE4) ?_)))); obtain ⟨hi2, h⟩ := h; refine zq (zA hi2) (zq (za (ii (i + 1))) (yaa ?_)); obtain ⟨mq, hlt, h⟩ := h; exact again mq _ _ _ ⟨_, _, _, _, _, h, rfl, hE1, hE3, rfl, (hS.sel [0, 1, 2] (by decide))⟩ hlt
  · replace h := h.2 hp; exact zd hp (yaJ rfl (zs (zq (yae hE3) (zq (za (.slice Aout lout cout)) (yaa (yas rfl rfl ⟨_, _, _, _, rfl, (hS.sel [0] (by decide)), h⟩))))))
end Go.Proofs.Ytdbpajnjhgocoaa

/- Pure forms of functions, made by program (pf.py), each with the proof that the code does so. -/
namespace Go.Proofs.Ytdbpajnjhgocoaa
open Go Go.RowKit Go.Shelf Go.Proofs.Try
set_option linter.unusedVariables false
set_option maxRecDepth 100000
set_option maxHeartbeats 8000000
def ya8 (s1 : List Int) (s2 : List Int) (R : Bool → Prop) : Prop :=
((((s1.length : Nat) : Int) = ((s2.length : Nat) : Int) →
(∃ I2 : Nat → Int → Prop, (∃ m0, I2 m0 0) ∧ ∀ m2 v, I2 m2 v → 
((v < ((s1.length : Nat) : Int) →
((0 ≤ v ∧ v < ((s1.length : Nat) : Int)) ∧
((0 ≤ v ∧ v < ((s2.length : Nat) : Int)) ∧
(((gi s1 v.toNat) = (gi s2 v.toNat) →
(In64 (v + 1) ∧
∃ m3, m3 < m2 ∧ I2 m3 (v + 1))) ∧
(¬ ((gi s1 v.toNat) = (gi s2 v.toNat)) →
R false))))) ∧
(¬ (v < ((s1.length : Nat) : Int)) →
R true)))) ∧
(¬ (((s1.length : Nat) : Int) = ((s2.length : Nat) : Int)) →
R false))
theorem ych {O : Nat → Prop} {w : World} {s1 s2 As1 ls1 cs1 As2 ls2 cs2} {R : Bool → Prop} (h : ya8 s1 s2 R) (hO : ∀ k, O k → k < w.heap.size) (hA0 : (FP.sl cI As1 ls1 cs1 s1).P O w) (hA1 : (FP.sl cI As2 ls2 cs2 s2).P O w) :
    Calls Try.prog 22 #[(.slice As1 ls1 cs1), (.slice As2 ls2 cs2)] w fun e w' => ∃ r, e = .returned (.bool (r)) ∧ Sep w no O w' (rl []) ∧ R r := by
  unfold ya8 at h; have hS : Sep w no O w (rl [Res.ro (FP.sl cI As1 ls1 cs1 s1), Res.ro (FP.sl cI As2 ls2 cs2 s2)]) := Sep.startl hO [(FP.sl cI As1 ls1 cs1 s1), (FP.sl cI As2 ls2 cs2 s2)] ⟨hA0, hA1, trivial⟩; refine yay (l := [(.slice As1 ls1 cs1), (.slice As2 ls2 cs2)]) func22 rfl ntmps22 (Nat.le_of_ble_eq_true rfl) (zs (zq (za (.bool (false))) (yaa (yag (zs (zq (zm (.slice As1 ls1 cs1)) (zq (ybp (n := s1.length) rfl underlying22 (ybi (hS.rdr 0 rfl))) (zq (zm (.slice As2 ls2 cs2)) (zq (ybp (n := s2.length) rfl underlying22 (ybi (hS.rdr 1 rfl))) (zq zN (yaa ?_))))))))))); by_cases hp : ((s1.length : Nat) : Int) = ((s2.length : Nat) : Int)
  · replace h := h.1 hp; refine ze hp (yak (yag (zs (zq (zm (.slice As1 ls1 cs1)) (zq (ybp (n := s1.length) rfl underlying22 (ybi (hS.rdr 0 rfl))) (zq (zm (ii 0)) (yaa (yam ?_)))))))); obtain ⟨I2, ⟨m0, h0⟩, hr⟩ := h; refine yaL (fun m E ds w' => ∃ v, I2 m v ∧ ds = [] ∧ E 0 = (Value.slice As1 ls1 cs1) ∧ E 1 = (Value.slice As2 ls2 cs2) ∧ E 12 = (ii ((s1.length : Nat) : Int)) ∧ E 13 = (ii v) ∧ Sep w no O w' (rl [Res.ro (FP.sl cI As1 ls1 cs1 s1), Res.ro (FP.sl cI As2 ls2 cs2 s2)])) m0 ⟨_, h0, rfl, rfl, rfl, rfl, rfl, (hS.sel [0, 1] (by decide))⟩ ?_; clear h0 hS; rintro m2 E ds w2 ⟨v, h, rfl, hE0, hE1, hE12, hE13, hS⟩ again; replace h := hr m2 v h; clear hr; refine zs (zq (ycT hE13 hE12) (yaa (yag ?_))); by_cases hp2 : v < ((s1.length : Nat) : Int)
    · replace h := h.1 hp2; refine zc hp2 (yak (yag (yam (zs (zq (yae hE13) (zq (za (ii v)) (yaa (yag (ya6 [0, 1, 2, 3, 4, 5, 6, 7, 8] st0 yaS (by kernel_rfl) (by kernel_rfl) ?_))))))))); replace hS := hS.drew; refine zp (yae hE0) (zp (zm (ii v)) ?_); obtain ⟨hx, h⟩ := h; refine zp (zi underlying22 yai (yaF (hS.rdr 0 rfl) hx)) (zp (yaw (v := (ii (gi s1 v.toNat))) rfl underlying3 rfl (rd_1 (hS.rdr 0 rfl) hx (fun q => yar q) rfl)) ?_); refine zp (yae hE1) (zp (zm (ii v)) ?_); obtain ⟨hx2, h⟩ := h; refine zp (zi underlying22 yai (yaF (hS.rdr 1 rfl) hx2)) (zp (yaw (v := (ii (gi s2 v.toNat))) rfl underlying3 rfl (rd_1 (hS.rdr 1 rfl) hx2 (fun q => yar q) rfl)) ?_); refine zp zN (ybk ?_); by_cases hp3 : (gi s1 v.toNat) = (gi s2 v.toNat)
      · replace h := h.1 hp3; refine ze hp3 (yak (yan (zr ?_))); obtain ⟨hi, h⟩ := h; refine zq (yca hE13 rfl hi) (zq (zm (ii (v + 1))) (yaa ?_)); obtain ⟨mq, hlt, h⟩ := h; exact again mq _ _ _ ⟨_, h, rfl, hE0, hE1, hE12, rfl, (hS.sel [0, 1] (by decide))⟩ hlt
      · replace h := h.2 hp3; exact zf hp3 (zs (zq (za (.bool (false))) (yaa (yas rfl rfl ⟨_, rfl, (hS.sel [] (by decide)), h⟩))))
    · replace h := h.2 hp2; exact zd hp2 (yaJ rfl (zs (zq (za (.bool (true))) (yaa (yas rfl rfl ⟨_, rfl, (hS.sel [] (by decide)), h⟩)))))
  · replace h := h.2 hp; exact zf hp (zs (zq (za (.bool (false))) (yaa (yas rfl rfl ⟨_, rfl, (hS.sel [] (by decide)), h⟩))))
end Go.Proofs.Ytdbpajnjhgocoaa

/- Pure forms of functions, made by program (pf.py), each with the proof that the code does so. -/
namespace Go.Proofs.Ytdbpajnjhgocoaa
open Go Go.RowKit Go.Shelf Go.Proofs.Try
set_option linter.unusedVariables false
set_option maxRecDepth 100000
set_option maxHeartbeats 8000000
def yb2 (x : Int) (R : Bool → Prop) : Prop :=
R (!(decide (x = x)))
theorem ydG {O : Nat → Prop} {w : World} {x} {R : Bool → Prop} (h : yb2 x R) (hO : ∀ k, O k → k < w.heap.size) :
    Calls Try.prog 115 #[(ii x)] w fun e w' => ∃ r, e = .returned (.bool (r)) ∧ Sep w no O w' (rl []) ∧ R r := by
  unfold yb2 at h; have hS : Sep w no O w (rl []) := Sep.start w hO; exact yay (l := [(ii x)]) func115 rfl ntmps115 (Nat.le_of_ble_eq_true rfl) (zs (zq (za (.bool (false))) (yaa (zs (zq (zm (ii x)) (zq (zm (ii x)) (zq zN (zq (za (.bool (!(decide (x = x))))) (yaa (yas rfl rfl ⟨_, rfl, (hS.sel [] (by decide)), h⟩))))))))))
end Go.Proofs.Ytdbpajnjhgocoaa

/- Pure forms of functions, made by program (pf.py), each with the proof that the code does so. -/
namespace Go.Proofs.Ytdbpajnjhgocoaa
open Go Go.RowKit Go.Shelf Go.Proofs.Try
set_option linter.unusedVariables false
set_option maxRecDepth 100000
set_option maxHeartbeats 8000000
def ybe (n : Int) (v : Int) (R : Bool → Prop) : Prop :=
((0 ≤ v →
R (decide (v < n))) ∧
(¬ (0 ≤ v) →
R false))
theorem ycx {O : Nat → Prop} {w : World} {n v} {R : Bool → Prop} (h : ybe n v R) (hO : ∀ k, O k → k < w.heap.size) :
    Calls Try.prog 75 #[(ii n), (ii v)] w fun e w' => ∃ r, e = .returned (.bool (r)) ∧ Sep w no O w' (rl []) ∧ R r := by
  unfold ybe at h; have hS : Sep w no O w (rl []) := Sep.start w hO; refine yay (l := [(ii n), (ii v)]) func75 rfl ntmps75 (Nat.le_of_ble_eq_true rfl) (zs (zq (za (.bool (false))) (yaa (zs (zq (zm (ii v)) (zq (v_geq rfl rfl) (zq (zm (.bool (decide (0 ≤ v)))) ?_))))))); by_cases hp : 0 ≤ v
  · replace h := h.1 hp; exact rl_q (yac rfl (yad rfl (congrArg Value.bool (decide_eq_true hp)))) rfl rfl (zm (ii v)) (rl_q (yac rfl (yad rfl (congrArg Value.bool (decide_eq_true hp)))) rfl rfl (zm (ii n)) (rl_q (yac rfl (yad rfl (congrArg Value.bool (decide_eq_true hp)))) rfl rfl zL (zq (yau (v := (.bool (decide (v < n)))) (congrArg Value.bool (decide_eq_true hp)) rfl) (zq (za (.bool (decide (v < n)))) (yaa (yas rfl rfl ⟨_, rfl, (hS.sel [] (by decide)), h⟩))))))
  · replace h := h.2 hp; exact rl_p (yab rfl (yad rfl (congrArg Value.bool (decide_eq_false hp))) rfl) rfl (rl_p (yab rfl (yad rfl (congrArg Value.bool (decide_eq_false hp))) rfl) rfl (rl_p (yab rfl (yad rfl (congrArg Value.bool (decide_eq_false hp))) rfl) rfl (zq (yav (v := (.bool (false))) (congrArg Value.bool (decide_eq_false hp)) rfl) (zq (za (.bool (false))) (yaa (yas rfl rfl ⟨_, rfl, (hS.sel [] (by decide)), h⟩))))))
def ybs (x : Int) (y : Int) (R : Int → Prop) : Prop :=
yb2 x (fun r =>
yb2 y (fun r2 =>
((r = true →
((r2 = true →
R 0) ∧
(¬ (r2 = true) →
R (-1)))) ∧
(¬ (r = true) →
((r2 = true →
R 1) ∧
(¬ (r2 = true) →
((x < y →
R (-1)) ∧
(¬ (x < y) →
((y < x →
R 1) ∧
(¬ (y < x) →
R 0))))))))))
theorem ydm {O : Nat → Prop} {w : World} {x y} {R : Int → Prop} (h : ybs x y R) (hO : ∀ k, O k → k < w.heap.size) :
    Calls Try.prog 104 #[(ii x), (ii y)] w fun e w' => ∃ r3, e = .returned (ii r3) ∧ Sep w no O w' (rl []) ∧ R r3 := by
  unfold ybs at h; have hS : Sep w no O w (rl []) := Sep.start w hO; refine yay (l := [(ii x), (ii y)]) func104 rfl ntmps104 (Nat.le_of_ble_eq_true rfl) (zs (zq (za (ii 0)) (yaa (zs (zq (zm (ii x)) (zn (yap rfl (am1 rfl) enter_115 ((ydG h (yaM _)).mono ?_)))))))); rintro _ w2 ⟨r, rfl, hC, h⟩; replace hS := hS.pur hC.pure; clear hC; refine ⟨_, rfl, ?_⟩; refine zb (zq (za (.bool (r))) (yaa (zs (zq (zm (ii y)) (zn (yap rfl (am1 rfl) enter_115 ((ydG h (yaM _)).mono ?_))))))); rintro _ w3 ⟨r2, rfl, hC, h⟩; replace hS := hS.pur hC.pure; clear hC; refine ⟨_, rfl, ?_⟩; refine zb (zq (za (.bool (r2))) (yaa (yag (zs (zq (zm (.bool (r))) (yaa ?_)))))); by_cases hp : r = true
  · replace h := h.1 hp; refine yaz (congrArg Value.bool hp) (yag (zs (zq (zm (.bool (r2))) (yaa ?_)))); by_cases hp2 : r2 = true
    · replace h := h.1 hp2; exact yaz (congrArg Value.bool hp2) (zs (zq (za (ii 0)) (yaa (yas rfl rfl ⟨_, rfl, (hS.sel [] (by decide)), h⟩))))
    · replace h := h.2 hp2; exact yaQ (congrArg Value.bool (Bool.eq_false_iff.2 hp2)) (yak (zs (zq (za (ii (-1))) (yaa (yas rfl rfl ⟨_, rfl, (hS.sel [] (by decide)), h⟩)))))
  · replace h := h.2 hp; refine yaQ (congrArg Value.bool (Bool.eq_false_iff.2 hp)) (yak (yag (zs (zq (zm (.bool (r2))) (yaa ?_))))); by_cases hp3 : r2 = true
    · replace h := h.1 hp3; exact yaz (congrArg Value.bool hp3) (zs (zq (za (ii 1)) (yaa (yas rfl rfl ⟨_, rfl, (hS.sel [] (by decide)), h⟩))))
    · replace h := h.2 hp3; refine yaQ (congrArg Value.bool (Bool.eq_false_iff.2 hp3)) (yak (yag (zs (zq (zm (ii x)) (zq (zm (ii y)) (zq zL (yaa ?_))))))); by_cases hp4 : x < y
      · replace h := h.1 hp4; exact zc hp4 (zs (zq (za (ii (-1))) (yaa (yas rfl rfl ⟨_, rfl, (hS.sel [] (by decide)), h⟩))))
      · replace h := h.2 hp4; refine zd hp4 (yak (yag (zs (zq (zm (ii x)) (zq (zm (ii y)) (zq zG (yaa ?_))))))); by_cases hp5 : y < x
        · replace h := h.1 hp5; exact zc hp5 (zs (zq (za (ii 1)) (yaa (yas rfl rfl ⟨_, rfl, (hS.sel [] (by decide)), h⟩))))
        · replace h := h.2 hp5; exact zd hp5 (yak (zs (zq (za (ii 0)) (yaa (yas rfl rfl ⟨_, rfl, (hS.sel [] (by decide)), h⟩)))))
def ycF (vals : List Int) (R : Int → Prop) : Prop :=
(∃ I2 : Nat → Int → Prop, (∃ m0, I2 m0 0) ∧ ∀ m2 v, I2 m2 v → 
((v < ((vals.length : Nat) : Int) →
((0 ≤ v ∧ v < ((vals.length : Nat) : Int)) ∧
(((gi vals v.toNat) = 0 →
(In64 (v + 1) ∧
∃ m3, m3 < m2 ∧ I2 m3 (v + 1))) ∧
(¬ ((gi vals v.toNat) = 0) →
R (gi vals v.toNat))))) ∧
(¬ (v < ((vals.length : Nat) : Int)) →
R 0)))
theorem pok_cmp_Or_int {O : Nat → Prop} {w : World} {vals Avals lvals cvals} {R : Int → Prop} (h : ycF vals R) (hO : ∀ k, O k → k < w.heap.size) (hA0 : (FP.sl cI Avals lvals cvals vals).P O w) :
    Calls Try.prog 103 #[(.slice Avals lvals cvals)] w fun e w' => ∃ r, e = .returned (ii r) ∧ Sep w no O w' (rl []) ∧ R r := by
  unfold ycF at h; have hS : Sep w no O w (rl [Res.ro (FP.sl cI Avals lvals cvals vals)]) := Sep.startl hO [(FP.sl cI Avals lvals cvals vals)] ⟨hA0, trivial⟩; refine yay (l := [(.slice Avals lvals cvals)]) func103 rfl ntmps103 (Nat.le_of_ble_eq_true rfl) (zs (zq (za (ii 0)) (yaa (zs (zq (za (ii 0)) (yaa (yag (zs (zq (zm (.slice Avals lvals cvals)) (zq (ybp (n := vals.length) rfl underlying22 (ybi (hS.rdr 0 rfl))) (zq (zm (ii 0)) (yaa (yam ?_))))))))))))); obtain ⟨I2, ⟨m0, h0⟩, hr⟩ := h; refine yaL (fun m E ds w' => ∃ v, I2 m v ∧ ds = [] ∧ E 3 = (ii 0) ∧ E 6 = (Value.slice Avals lvals cvals) ∧ E 7 = (ii ((vals.length : Nat) : Int)) ∧ E 8 = (ii v) ∧ Sep w no O w' (rl [Res.ro (FP.sl cI Avals lvals cvals vals)])) m0 ⟨_, h0, rfl, rfl, rfl, rfl, rfl, (hS.sel [0] (by decide))⟩ ?_; clear h0 hS; rintro m2 E ds w2 ⟨v, h, rfl, hE3, hE6, hE7, hE8, hS⟩ again; replace h := hr m2 v h; clear hr; refine zs (zq (ycT hE8 hE7) (yaa (yag ?_))); by_cases hp : v < ((vals.length : Nat) : Int)
  · replace h := h.1 hp; refine zc hp (yak (yag (yam (zs ?_)))); obtain ⟨hx, h⟩ := h; refine zq (yck hE6 hE8 underlying22 yai (yaF (hS.rdr 0 rfl) hx)) (zq (yaw (v := (ii (gi vals v.toNat))) rfl underlying3 rfl (rd_1 (hS.rdr 0 rfl) hx (fun q => yar q) rfl)) ?_); refine zq (za (ii (gi vals v.toNat))) (yaa (zs (zq (zm (ii (gi vals v.toNat))) (zq (yae hE3) (zq zN (yaa ?_)))))); by_cases hp2 : (gi vals v.toNat) = 0
    · replace h := h.1 hp2; refine ze hp2 (yak (yan (zr ?_))); obtain ⟨hi, h⟩ := h; refine zq (yca hE8 rfl hi) (zq (zm (ii (v + 1))) (yaa ?_)); obtain ⟨mq, hlt, h⟩ := h; exact again mq _ _ _ ⟨_, h, rfl, hE3, hE6, hE7, rfl, (hS.sel [0] (by decide))⟩ hlt
    · replace h := h.2 hp2; exact zf hp2 (zs (zq (zm (ii (gi vals v.toNat))) (zq (za (ii (gi vals v.toNat))) (yaa (yas rfl rfl ⟨_, rfl, (hS.sel [] (by decide)), h⟩)))))
  · replace h := h.2 hp; exact zd hp (yaJ rfl (zs (zq (yae hE3) (zq (za (ii 0)) (yaa (yas rfl rfl ⟨_, rfl, (hS.sel [] (by decide)), h⟩))))))
def ybE (p : Int) (p2 : Int) (q : Int) (q2 : Int) (R : Int → Prop) : Prop :=
ybs p q (fun r =>
ybs p2 q2 (fun r2 =>
ycF ([r, r2]) (fun r3 =>
R r3)))
theorem yd7 {O : Nat → Prop} {w : World} {p p2 q q2} {R : Int → Prop} (h : ybE p p2 q q2 R) (hO : ∀ k, O k → k < w.heap.size) :
    Calls Try.prog 92 #[(.agg #[(ii p), (ii p2)]), (.agg #[(ii q), (ii q2)])] w fun e w' => ∃ r4, e = .returned (ii r4) ∧ Sep w no O w' (rl []) ∧ R r4 := by
  unfold ybE at h; have hS : Sep w no O w (rl []) := Sep.start w hO; refine yay (l := [(.agg #[(ii p), (ii p2)]), (.agg #[(ii q), (ii q2)])]) func92 rfl ntmps92 (Nat.le_of_ble_eq_true rfl) (zs (zn (yec (v := (.agg #[(ii p), (ii p2)])) rfl ?_))); intro g w2 hN; replace hS : Sep w no O w2 (stl _ 0 (Res.box 90 g [(ii p), (ii p2)])) := hS.new 0 rfl hN; clear hN; refine zb (zn (yec (v := (.agg #[(ii q), (ii q2)])) rfl ?_)); intro g2 w3 hN; replace hS : Sep w no O w3 (stl _ 1 (Res.box 90 g2 [(ii q), (ii q2)])) := hS.new 1 rfl hN; clear hN; refine zb (zq (za (ii 0)) (yaa (yag (ya6 [0, 1, 2, 3, 5, 6, 7, 8, 4, 9, 10, 11, 12] (fun i => match i with | 4 => [5, 6, 7, 8] | _ => []) yaS (by kernel_rfl) (by kernel_rfl) ?_)))); replace hS := hS.drew; refine zp (yao rfl underlying90 rfl yai) (zp (zl underlying3 (Row.cell (hS.bx 0 rfl) (i := 0) rfl)) (zp (yao rfl underlying90 rfl yai) (zp (zl underlying3 (Row.cell (hS.bx 1 rfl) (i := 0) rfl)) (zp (yao rfl underlying90 rfl yai) (zp (zl underlying3 (Row.cell (hS.bx 0 rfl) (i := 1) rfl)) (zp (yao rfl underlying90 rfl yai) (zp (zl underlying3 (Row.cell (hS.bx 1 rfl) (i := 1) rfl)) (rp_n rfl rfl rfl rfl (yap rfl (am2 rfl rfl) enter_104 ((ydm h (yaM _)).mono ?_)))))))))); rintro _ w4 ⟨r, rfl, hC, h⟩; replace hS := hS.pur hC.pure; clear hC; refine ⟨_, rfl, ?_⟩; refine ⟨⟨fun _ => (zl underlying3 (Row.cell (hS.bx 1 rfl) (i := 1) rfl)), ⟨fun _ => (yao rfl underlying90 rfl yai), ⟨fun _ => (zl underlying3 (Row.cell (hS.bx 0 rfl) (i := 1) rfl)), ⟨fun _ => (yao rfl underlying90 rfl yai), ⟨fun hh => Bool.noConfusion (show false = true from hh), ⟨fun hh => Bool.noConfusion (show false = true from hh), ⟨fun hh => Bool.noConfusion (show false = true from hh), ⟨fun hh => Bool.noConfusion (show false = true from hh), trivial⟩⟩⟩⟩⟩⟩⟩⟩, ?_⟩; refine rp_n rfl rfl rfl rfl (yap rfl (am2 rfl rfl) enter_104 ((ydm h (yaM _)).mono ?_)); rintro _ w5 ⟨r2, rfl, hC, h⟩; replace hS := hS.pur hC.pure; clear hC; refine ⟨_, rfl, ?_⟩; refine zb (rp_n rfl rfl rfl rfl (yaD (l := [(0, (ii r)), (1, (ii r2))]) (cells := [(ii r), (ii r2)]) (bp2 rfl rfl) underlying22 yai rfl rfl ?_)); intro g3 w6 hN; replace hS := hS.litf (n := 2) 2 rfl (fI .i64) hN ([r, r2] : List Int) rfl (by decide) rfl; clear hN; refine zb (rp_n rfl rfl rfl rfl (yap rfl (am1 rfl) enter_103 ((pok_cmp_Or_int h (yaM _) (hS.rdo 2 rfl)).mono ?_))); rintro _ w7 ⟨r3, rfl, hC, h⟩; replace hS := hS.pur hC.pure; clear hC; refine ⟨_, rfl, ?_⟩; exact zb (zp (za (ii r3)) (ybk (yas rfl rfl ⟨_, rfl, (hS.sel [] (by decide)), h⟩)))
def ycr (d : Int) (d2 : List E3) (R : Int → Prop) : Prop :=
(∃ J2 : Prop, (J2 → (∃ I2 : Nat → Int → Int → Int → Prop, (∃ m0, I2 m0 0 (-1) (-1)) ∧ ∀ m2 v v2 v3, I2 m2 v v2 v3 → 
((v < ((d2.length : Nat) : Int) →
((0 ≤ v ∧ v < ((d2.length : Nat) : Int)) ∧
(∃ J3 : Prop, (J3 → ((((ge d2 v.toNat).2.1) < ((ge d2 v.toNat).1) →
R 9) ∧
(¬ (((ge d2 v.toNat).2.1) < ((ge d2 v.toNat).1)) →
ybE v2 v3 ((ge d2 v.toNat).1) ((ge d2 v.toNat).2.1) (fun r =>
((0 ≤ r →
R 9) ∧
(¬ (0 ≤ r) →
(In64 (v + 1) ∧
∃ m3, m3 < m2 ∧ I2 m3 (v + 1) ((ge d2 v.toNat).1) ((ge d2 v.toNat).2.1)))))))) ∧
ybe d ((ge d2 v.toNat).1) (fun r2 =>
((r2 = true →
ybe d ((ge d2 v.toNat).2.1) (fun r3 =>
((r3 = true →
((((ge d2 v.toNat).2.2) < 1 →
R 2) ∧
(¬ (((ge d2 v.toNat).2.2) < 1) →
((50 < ((ge d2 v.toNat).2.2) →
R 2) ∧
(¬ (50 < ((ge d2 v.toNat).2.2)) →
J3))))) ∧
(¬ (r3 = true) →
R 2)))) ∧
(¬ (r2 = true) →
R 2)))))) ∧
(¬ (v < ((d2.length : Nat) : Int)) →
R 0)))) ∧
((d < 1 →
R 2) ∧
(¬ (d < 1) →
((12 < d →
R 2) ∧
(¬ (12 < d) →
J2)))))
theorem ygh {O : Nat → Prop} {w : World} {d d2 Ad ld cd} {R : Int → Prop} (h : ycr d d2 R) (hO : ∀ k, O k → k < w.heap.size) (hA0 : (FP.sl c3 Ad ld cd d2).P O w) :
    Calls Try.prog 80 #[(.agg #[(ii d), (.slice Ad ld cd)])] w fun e w' => ∃ r4, e = .returned (ii r4) ∧ Sep w no O w' (rl []) ∧ R r4 := by
  unfold ycr at h; have hS : Sep w no O w (rl [Res.ro (FP.sl c3 Ad ld cd d2)]) := Sep.startl hO [(FP.sl c3 Ad ld cd d2)] ⟨hA0, trivial⟩; refine yay (l := [(.agg #[(ii d), (.slice Ad ld cd)])]) func80 rfl ntmps80 (Nat.le_of_ble_eq_true rfl) (zs (zn (yec (v := (.agg #[(ii d), (.slice Ad ld cd)])) rfl ?_))); intro g w2 hN; replace hS : Sep w no O w2 (stl _ 1 (Res.box 31 g [(ii d), (.slice Ad ld cd)])) := hS.new 1 rfl hN; clear hN; refine zb (zq (za (ii 0)) (yaa (yag (yag ?_)))); obtain ⟨J2, hJ, h⟩ := h; refine ycE (fun E ds w' => J2 ∧ ds = [] ∧ E 1 = (Value.pointer (some (⟨g, 0, none⟩ : Addr))) ∧ Sep w no O w' (rl [Res.box 31 g [(ii d), (.slice Ad ld cd)], Res.ro (FP.sl c3 Ad ld cd d2)])) ?_ ?_
  · clear h hS; rintro E ds w3 ⟨h, rfl, hE1, hS⟩; replace h := hJ h; refine zs (zn (yax (l := [(0, (ii (-1))), (1, (ii (-1)))]) (cells := [(ii (-1)), (ii (-1))]) (places := [(0, 1), (1, 1)]) (bp2 rfl rfl) underlying90 ybZ (by kernel_rfl) rfl ?_)); refine zb (zn (yaH ybZ ?_)); intro g2 w4 hN; replace hS : Sep w no O w4 (stl _ 2 (Res.box 90 g2 [(ii 0), (ii 0)])) := hS.new 2 rfl hN; clear hN; refine zb (zo (yaj (b := g2) (o := 0) (cells := #[(ii (-1)), (ii (-1))]) rfl rfl ybZ rfl rfl (yah (hS.bx 2 rfl) (Nat.le_of_ble_eq_true rfl)) ?_)); intro w5 e1; replace hS := hS.bstn 2 rfl 0 [(ii (-1)), (ii (-1))] e1; clear e1; refine zb (yaa (yag (zs (zq (yao hE1 underlying31 rfl ybW) (zq (zl underlying29 (Row.cell (hS.bx 0 rfl) (i := 1) rfl)) (zq (ybp (n := d2.length) rfl underlying29 (ybi (hS.rdr 1 rfl))) (zq (zm (ii 0)) (yaa (yam ?_))))))))); obtain ⟨I2, ⟨m0, h0⟩, hr⟩ := h; refine yaL (fun m E ds w' => ∃ v v2 v3, I2 m v v2 v3 ∧ ds = [] ∧ E 1 = (Value.pointer (some (⟨g, 0, none⟩ : Addr))) ∧ E 3 = (Value.pointer (some (⟨g2, 0, none⟩ : Addr))) ∧ E 17 = (Value.slice Ad ld cd) ∧ E 18 = (ii ((d2.length : Nat) : Int)) ∧ E 19 = (ii v) ∧ Sep w no O w' (rl [Res.box 31 g [(ii d), (.slice Ad ld cd)], Res.ro (FP.sl c3 Ad ld cd d2), Res.box 90 g2 [(ii v2), (ii v3)]])) m0 ⟨_, _, _, h0, rfl, hE1, rfl, rfl, rfl, rfl, (hS.sel [0, 1, 2] (by decide))⟩ ?_; clear h0 hS; rintro m2 E ds w6 ⟨v, v2, v3, h, rfl, hE1, hE3, hE17, hE18, hE19, hS⟩ again; replace h := hr m2 v v2 v3 h; clear hr; refine zs (zq (ycT hE19 hE18) (yaa (yag ?_))); by_cases hp : v < ((d2.length : Nat) : Int)
    · replace h := h.1 hp; refine zc hp (yak (yag (yam (zs ?_)))); obtain ⟨hx, h⟩ := h; refine zq (yck hE17 hE19 underlying29 ybA (yaF (hS.rdr 1 rfl) hx)) (zq (yaY (vs := [(ii ((ge d2 v.toNat).1)), (ii ((ge d2 v.toNat).2.1)), (ii ((ge d2 v.toNat).2.2))]) rfl underlying75 rfl ybA (rd_fs (hS.rdr 1 rfl) hx (fun q => yev q))) ?_); refine zn (yaH ybA ?_); intro g3 w7 hN; replace hS : Sep w no O w7 (stl _ 3 (Res.box 75 g3 [(ii 0), (ii 0), (ii 0)])) := hS.new 3 rfl hN; clear hN; refine zb (zo (yaj (b := g3) (o := 0) (cells := #[(ii ((ge d2 v.toNat).1)), (ii ((ge d2 v.toNat).2.1)), (ii ((ge d2 v.toNat).2.2))]) rfl rfl ybA rfl rfl (yah (hS.bx 3 rfl) (Nat.le_of_ble_eq_true rfl)) ?_)); intro w8 e1; replace hS := hS.bstn 3 rfl 0 [(ii ((ge d2 v.toNat).1)), (ii ((ge d2 v.toNat).2.1)), (ii ((ge d2 v.toNat).2.2))] e1; clear e1; refine zb (yaa (zs (zq (yao rfl underlying75 rfl yai) (zq (zl underlying3 (Row.cell (hS.bx 3 rfl) (i := 0) rfl)) (zq (yao rfl underlying75 rfl yai) (zq (zl underlying3 (Row.cell (hS.bx 3 rfl) (i := 1) rfl)) (zn (yax (l := [(0, (ii ((ge d2 v.toNat).1))), (1, (ii ((ge d2 v.toNat).2.1)))]) (cells := [(ii ((ge d2 v.toNat).1)), (ii ((ge d2 v.toNat).2.1))]) (places := [(0, 1), (1, 1)]) (bp2 rfl rfl) underlying90 ybZ (by kernel_rfl) rfl ?_)))))))); refine zb (zn (yaH ybZ ?_)); intro g4 w9 hN; replace hS : Sep w no O w9 (stl _ 4 (Res.box 90 g4 [(ii 0), (ii 0)])) := hS.new 4 rfl hN; clear hN; refine zb (zo (yaj (b := g4) (o := 0) (cells := #[(ii ((ge d2 v.toNat).1)), (ii ((ge d2 v.toNat).2.1))]) rfl rfl ybZ rfl rfl (yah (hS.bx 4 rfl) (Nat.le_of_ble_eq_true rfl)) ?_)); intro w10 e1; replace hS := hS.bstn 4 rfl 0 [(ii ((ge d2 v.toNat).1)), (ii ((ge d2 v.toNat).2.1))] e1; clear e1; refine zb (yaa (yag (yam (yag ?_)))); obtain ⟨J3, hJ, h⟩ := h; refine wt_cutB1 (fun E ds w' => J3 ∧ ds = [] ∧ E 1 = (Value.pointer (some (⟨g, 0, none⟩ : Addr))) ∧ E 3 = (Value.pointer (some (⟨g2, 0, none⟩ : Addr))) ∧ E 5 = (Value.pointer (some (⟨g3, 0, none⟩ : Addr))) ∧ E 6 = (Value.pointer (some (⟨g4, 0, none⟩ : Addr))) ∧ E 17 = (Value.slice Ad ld cd) ∧ E 18 = (ii ((d2.length : Nat) : Int)) ∧ E 19 = (ii v) ∧ Sep w no O w' (rl [Res.box 31 g [(ii d), (.slice Ad ld cd)], Res.ro (FP.sl c3 Ad ld cd d2), Res.box 90 g2 [(ii v2), (ii v3)], Res.box 75 g3 [(ii ((ge d2 v.toNat).1)), (ii ((ge d2 v.toNat).2.1)), (ii ((ge d2 v.toNat).2.2))], Res.box 90 g4 [(ii ((ge d2 v.toNat).1)), (ii ((ge d2 v.toNat).2.1))]])) ?_ ?_
      · clear h hS; rintro E ds w11 ⟨h, rfl, hE1, hE3, hE5, hE6, hE17, hE18, hE19, hS⟩; replace h := hJ h; refine zs (zq (yao hE5 underlying75 rfl yai) (zq (zl underlying3 (Row.cell (hS.bx 3 rfl) (i := 0) rfl)) (zq (yao hE5 underlying75 rfl yai) (zq (zl underlying3 (Row.cell (hS.bx 3 rfl) (i := 1) rfl)) (zq zG (zq (zm (.bool (decide (((ge d2 v.toNat).2.1) < ((ge d2 v.toNat).1))))) ?_)))))); by_cases hp2 : ((ge d2 v.toNat).2.1) < ((ge d2 v.toNat).1)
        · replace h := h.1 hp2; exact rl_p (yab rfl (yad rfl (congrArg Value.bool (decide_eq_true hp2))) rfl) rfl (rl_p (yab rfl (yad rfl (congrArg Value.bool (decide_eq_true hp2))) rfl) rfl (rl_p (yab rfl (yad rfl (congrArg Value.bool (decide_eq_true hp2))) rfl) rfl (rl_p (yab rfl (yad rfl (congrArg Value.bool (decide_eq_true hp2))) rfl) rfl (zq (yau (v := (.bool (true))) (congrArg Value.bool (decide_eq_true hp2)) rfl) (zq (za (.bool (true))) (yaa (yaz rfl (zs (zq (za (ii 9)) (yaa (yas rfl rfl ⟨_, rfl, (hS.sel [] (by decide)), h⟩)))))))))))
        · replace h := h.2 hp2; refine rl_q (yac rfl (yad rfl (congrArg Value.bool (decide_eq_false hp2)))) rfl rfl (yaY (vs := [(ii v2), (ii v3)]) hE3 underlying90 rfl ybZ ⟨Row.cell (hS.bx 2 rfl) (i := 0) rfl, Row.cell (hS.bx 2 rfl) (i := 1) rfl, trivial⟩) (rl_q (yac rfl (yad rfl (congrArg Value.bool (decide_eq_false hp2)))) rfl rfl (yaY (vs := [(ii ((ge d2 v.toNat).1)), (ii ((ge d2 v.toNat).2.1))]) hE6 underlying90 rfl ybZ ⟨Row.cell (hS.bx 4 rfl) (i := 0) rfl, Row.cell (hS.bx 4 rfl) (i := 1) rfl, trivial⟩) (rl_n (yac rfl (yad rfl (congrArg Value.bool (decide_eq_false hp2)))) rfl rfl rfl (yap rfl (am2 rfl rfl) enter_92 ((yd7 h (yaM _)).mono ?_)))); rintro _ w12 ⟨r, rfl, hC, h⟩; replace hS := hS.pur hC.pure; clear hC; refine ⟨_, rfl, ?_⟩; refine zb (rl_q (yac rfl (yad rfl (congrArg Value.bool (decide_eq_false hp2)))) rfl rfl (v_geq rfl rfl) (zq (yav (v := (.bool (decide (0 ≤ r)))) (congrArg Value.bool (decide_eq_false hp2)) rfl) (zq (za (.bool (decide (0 ≤ r)))) (yaa ?_)))); by_cases hp3 : 0 ≤ r
          · replace h := h.1 hp3; exact zc hp3 (zs (zq (za (ii 9)) (yaa (yas rfl rfl ⟨_, rfl, (hS.sel [] (by decide)), h⟩))))
          · replace h := h.2 hp3; refine zd hp3 (yak (yan (zr (zq (yaY (vs := [(ii ((ge d2 v.toNat).1)), (ii ((ge d2 v.toNat).2.1))]) hE6 underlying90 rfl ybZ ⟨Row.cell (hS.bx 4 rfl) (i := 0) rfl, Row.cell (hS.bx 4 rfl) (i := 1) rfl, trivial⟩) (zo (yaj (b := g2) (o := 0) (cells := #[(ii ((ge d2 v.toNat).1)), (ii ((ge d2 v.toNat).2.1))]) hE3 rfl ybZ rfl rfl (yah (hS.bx 2 rfl) (Nat.le_of_ble_eq_true rfl)) ?_)))))); intro w13 e1; replace hS := hS.bstn 2 rfl 0 [(ii ((ge d2 v.toNat).1)), (ii ((ge d2 v.toNat).2.1))] e1; clear e1; refine zb (yaa (yan (zr ?_))); obtain ⟨hi, h⟩ := h; refine zq (yca hE19 rfl hi) (zq (zm (ii (v + 1))) (yaa ?_)); obtain ⟨mq, hlt, h⟩ := h; exact again mq _ _ _ ⟨_, _, _, h, rfl, hE1, hE3, hE17, hE18, rfl, (hS.sel [0, 1, 2] (by decide))⟩ hlt
      clear hJ; intro j2; refine zr (zq (yao hE1 underlying31 rfl yai) (zq (zl underlying3 (Row.cell (hS.bx 0 rfl) (i := 0) rfl)) (zq (yao rfl underlying75 rfl yai) (zq (zl underlying3 (Row.cell (hS.bx 3 rfl) (i := 0) rfl)) (zn (yap rfl (am2 rfl rfl) yfX ((ycx h (yaM _)).mono ?_))))))); rintro _ w14 ⟨r2, rfl, hC, h⟩; replace hS := hS.pur hC.pure; clear hC; refine ⟨_, rfl, ?_⟩; refine zb (zq (yhW rfl) (zq (zm (.bool (!(r2)))) ?_)); by_cases hp4 : r2 = true
      · replace h := h.1 hp4; refine rl_q (yac rfl (yad rfl (congrArg Value.bool (congrArg Bool.not hp4)))) rfl rfl (yao hE1 underlying31 rfl yai) (rl_q (yac rfl (yad rfl (congrArg Value.bool (congrArg Bool.not hp4)))) rfl rfl (zl underlying3 (Row.cell (hS.bx 0 rfl) (i := 0) rfl)) (rl_q (yac rfl (yad rfl (congrArg Value.bool (congrArg Bool.not hp4)))) rfl rfl (yao rfl underlying75 rfl yai) (rl_q (yac rfl (yad rfl (congrArg Value.bool (congrArg Bool.not hp4)))) rfl rfl (zl underlying3 (Row.cell (hS.bx 3 rfl) (i := 1) rfl)) (rl_n (yac rfl (yad rfl (congrArg Value.bool (congrArg Bool.not hp4)))) rfl rfl rfl (yap rfl (am2 rfl rfl) yfX ((ycx h (yaM _)).mono ?_)))))); rintro _ w15 ⟨r3, rfl, hC, h⟩; replace hS := hS.pur hC.pure; clear hC; refine ⟨_, rfl, ?_⟩; refine zb (rl_q (yac rfl (yad rfl (congrArg Value.bool (congrArg Bool.not hp4)))) rfl rfl (yhW rfl) (zq (yav (v := (.bool (!(r3)))) (congrArg Value.bool (congrArg Bool.not hp4)) rfl) (zq (zm (.bool (!(r3)))) ?_))); by_cases hp5 : r3 = true
        · replace h := h.1 hp5; refine rl_q (yac rfl (yad rfl (congrArg Value.bool (congrArg Bool.not hp5)))) rfl rfl (yao rfl underlying75 rfl yai) (rl_q (yac rfl (yad rfl (congrArg Value.bool (congrArg Bool.not hp5)))) rfl rfl (zl underlying3 (Row.cell (hS.bx 3 rfl) (i := 2) rfl)) (rl_q (yac rfl (yad rfl (congrArg Value.bool (congrArg Bool.not hp5)))) rfl rfl zL (zq (yav (v := (.bool (decide (((ge d2 v.toNat).2.2) < 1)))) (congrArg Value.bool (congrArg Bool.not hp5)) rfl) (zq (zm (.bool (decide (((ge d2 v.toNat).2.2) < 1)))) ?_)))); by_cases hp6 : ((ge d2 v.toNat).2.2) < 1
          · replace h := h.1 hp6; exact rl_p (yab rfl (yad rfl (congrArg Value.bool (decide_eq_true hp6))) rfl) rfl (rl_p (yab rfl (yad rfl (congrArg Value.bool (decide_eq_true hp6))) rfl) rfl (rl_p (yab rfl (yad rfl (congrArg Value.bool (decide_eq_true hp6))) rfl) rfl (zq (yau (v := (.bool (true))) (congrArg Value.bool (decide_eq_true hp6)) rfl) (zq (za (.bool (true))) (yaa (yaz rfl (zs (zq (za (ii 2)) (yaa (yas rfl rfl ⟨_, rfl, (hS.sel [] (by decide)), h⟩))))))))))
          · replace h := h.2 hp6; refine rl_q (yac rfl (yad rfl (congrArg Value.bool (decide_eq_false hp6)))) rfl rfl (yao rfl underlying75 rfl yai) (rl_q (yac rfl (yad rfl (congrArg Value.bool (decide_eq_false hp6)))) rfl rfl (zl underlying3 (Row.cell (hS.bx 3 rfl) (i := 2) rfl)) (rl_q (yac rfl (yad rfl (congrArg Value.bool (decide_eq_false hp6)))) rfl rfl zG (zq (yav (v := (.bool (decide (50 < ((ge d2 v.toNat).2.2))))) (congrArg Value.bool (decide_eq_false hp6)) rfl) (zq (za (.bool (decide (50 < ((ge d2 v.toNat).2.2))))) (yaa ?_))))); by_cases hp7 : 50 < ((ge d2 v.toNat).2.2)
            · replace h := h.1 hp7; exact zc hp7 (zs (zq (za (ii 2)) (yaa (yas rfl rfl ⟨_, rfl, (hS.sel [] (by decide)), h⟩))))
            · replace h := h.2 hp7; exact zd hp7 (j2 _ _ _ ⟨h, rfl, hE1, hE3, rfl, rfl, hE17, hE18, hE19, (hS.sel [0, 1, 2, 3, 4] (by decide))⟩)
        · replace h := h.2 hp5; exact rl_p (yab rfl (yad rfl (congrArg Value.bool (congrArg Bool.not (Bool.eq_false_iff.2 hp5)))) rfl) rfl (rl_p (yab rfl (yad rfl (congrArg Value.bool (congrArg Bool.not (Bool.eq_false_iff.2 hp5)))) rfl) rfl (rl_p (yab rfl (yad rfl (congrArg Value.bool (congrArg Bool.not (Bool.eq_false_iff.2 hp5)))) rfl) rfl (zq (yau (v := (.bool (true))) (congrArg Value.bool (congrArg Bool.not (Bool.eq_false_iff.2 hp5))) rfl) (zq (zm (.bool (true))) (rl_p (yab rfl (yad rfl rfl) rfl) rfl (rl_p (yab rfl (yad rfl rfl) rfl) rfl (rl_p (yab rfl (yad rfl rfl) rfl) rfl (zq (yau (v := (.bool (true))) rfl rfl) (zq (za (.bool (true))) (yaa (yaz rfl (zs (zq (za (ii 2)) (yaa (yas rfl rfl ⟨_, rfl, (hS.sel [] (by decide)), h⟩)))))))))))))))
      · replace h := h.2 hp4; exact rl_p (yab rfl (yad rfl (congrArg Value.bool (congrArg Bool.not (Bool.eq_false_iff.2 hp4)))) rfl) rfl (rl_p (yab rfl (yad rfl (congrArg Value.bool (congrArg Bool.not (Bool.eq_false_iff.2 hp4)))) rfl) rfl (rl_p (yab rfl (yad rfl (congrArg Value.bool (congrArg Bool.not (Bool.eq_false_iff.2 hp4)))) rfl) rfl (rl_p (yab rfl (yad rfl (congrArg Value.bool (congrArg Bool.not (Bool.eq_false_iff.2 hp4)))) rfl) rfl (rl_p (yab rfl (yad rfl (congrArg Value.bool (congrArg Bool.not (Bool.eq_false_iff.2 hp4)))) rfl) rfl (rl_p (yab rfl (yad rfl (congrArg Value.bool (congrArg Bool.not (Bool.eq_false_iff.2 hp4)))) rfl) rfl (zq (yau (v := (.bool (true))) (congrArg Value.bool (congrArg Bool.not (Bool.eq_false_iff.2 hp4))) rfl) (zq (zm (.bool (true))) (rl_p (yab rfl (yad rfl rfl) rfl) rfl (rl_p (yab rfl (yad rfl rfl) rfl) rfl (rl_p (yab rfl (yad rfl rfl) rfl) rfl (zq (yau (v := (.bool (true))) rfl rfl) (zq (zm (.bool (true))) (rl_p (yab rfl (yad rfl rfl) rfl) rfl (rl_p (yab rfl (yad rfl rfl) rfl) rfl (rl_p (yab rfl (yad rfl rfl) rfl) rfl (zq (yau (v := (.bool (true))) rfl rfl) (zq (za (.bool (true))) (yaa (yaz rfl (zs (zq (za (ii 2)) (yaa (yas rfl rfl ⟨_, rfl, (hS.sel [] (by decide)), h⟩)))))))))))))))))))))))
    · replace h := h.2 hp; exact zd hp (yaJ rfl (zs (zq (za (ii 0)) (yaa (yas rfl rfl ⟨_, rfl, (hS.sel [] (by decide)), h⟩)))))
  clear hJ; intro j; refine zr (zq (yao rfl underlying31 rfl yai) (zq (zl underlying3 (Row.cell (hS.bx 1 rfl) (i := 0) rfl)) (zq zL (zq (zm (.bool (decide (d < 1)))) ?_)))); by_cases hp8 : d < 1
  · replace h := h.1 hp8; exact rl_p (yab rfl (yad rfl (congrArg Value.bool (decide_eq_true hp8))) rfl) rfl (rl_p (yab rfl (yad rfl (congrArg Value.bool (decide_eq_true hp8))) rfl) rfl (rl_p (yab rfl (yad rfl (congrArg Value.bool (decide_eq_true hp8))) rfl) rfl (zq (yau (v := (.bool (true))) (congrArg Value.bool (decide_eq_true hp8)) rfl) (yaa (yaz rfl (zs (zq (za (ii 2)) (yaa (yas rfl rfl ⟨_, rfl, (hS.sel [] (by decide)), h⟩)))))))))
  · replace h := h.2 hp8; refine rl_q (yac rfl (yad rfl (congrArg Value.bool (decide_eq_false hp8)))) rfl rfl (yao rfl underlying31 rfl yai) (rl_q (yac rfl (yad rfl (congrArg Value.bool (decide_eq_false hp8)))) rfl rfl (zl underlying3 (Row.cell (hS.bx 1 rfl) (i := 0) rfl)) (rl_q (yac rfl (yad rfl (congrArg Value.bool (decide_eq_false hp8)))) rfl rfl zG (zq (yav (v := (.bool (decide (12 < d)))) (congrArg Value.bool (decide_eq_false hp8)) rfl) (yaa ?_)))); by_cases hp9 : 12 < d
    · replace h := h.1 hp9; exact zc hp9 (zs (zq (za (ii 2)) (yaa (yas rfl rfl ⟨_, rfl, (hS.sel [] (by decide)), h⟩))))
    · replace h := h.2 hp9; exact zd hp9 (yak (j _ _ _ ⟨h, rfl, rfl, (hS.sel [1, 0] (by decide))⟩))
end Go.Proofs.Ytdbpajnjhgocoaa

/- What the references' pure forms come to: graphs and divisors. -/
namespace Go.Proofs.Ytdbpajnjhgocoaa
open Go Go.Proofs.Try
set_option linter.unusedVariables false
set_option linter.unusedSimpArgs false
def yfJ (es : List E3) : List (Int × Int) := es.flatMap fun x => List.replicate x.2.2.toNat (x.1, x.2.1)
theorem endsF_take {es : List E3} {k : Nat} (hk : k < es.length) : yfJ (es.take (k + 1)) = yfJ (es.take k) ++ List.replicate (ge es k).2.2.toNat ((ge es k).1, (ge es k).2.1) := by
  unfold yfJ
  rw [List.take_add_one, List.getElem?_eq_getElem hk, yfj hk, List.flatMap_append]
  simp
theorem yhi (es : List E3) (hE : ∀ x ∈ es, 1 ≤ x.2.2 ∧ x.2.2 ≤ 50) : ((yfJ es).length : Int) = (es.map (·.2.2)).sum ∧ (yfJ es).length ≤ 50 * es.length := by
  induction es with
  | nil => simp [yfJ]
  | cons x t ih =>
    have hx := hE x (by simp)
    have := ih fun y hy => hE y (by simp [hy])
    unfold yfJ at this ⊢
    rw [List.flatMap_cons, List.length_append, List.length_replicate, List.map_cons, List.sum_cons, List.length_cons]
    omega
theorem yhe {n : Int} {es : List E3} {R : List (Int × Int) → Prop} (hl : es.length ≤ 1000) (hE : ∀ x ∈ es, 1 ≤ x.2.2 ∧ x.2.2 ≤ 50) (h : R (yfJ es)) : ycV n es R := by
  unfold ycV
  have hlen : ∀ k, (yfJ (es.take k)).length ≤ 50 * k := fun k => by
    have := (yhi (es.take k) fun x hx => hE x (List.mem_of_mem_take hx)).2
    rw [List.length_take] at this
    omega
  refine ⟨fun m out i => Cnt es.length (fun k => out = yfJ (es.take k)) m i, Cnt.start (by simp [yfJ]), ?_⟩
  rintro m out _ ⟨k, rfl, rfl, hk, rfl⟩
  refine ⟨fun hlt => ?_, fun hge => ?_⟩
  · have hlt : k < es.length := by omega
    have hmk := hE _ (ge_mem hlt)
    have hl2 := hlen k
    simp only [Int.toNat_natCast]
    refine ⟨fun m2 out2 j => Cnt (ge es k).2.2.toNat (fun i => out2 = yfJ (es.take k) ++ List.replicate i ((ge es k).1, (ge es k).2.1)) m2 j, Cnt.start (by simp), ?_⟩
    rintro m2 out2 _ ⟨j, rfl, rfl, hj, rfl⟩
    refine ⟨by omega, fun h1 => ⟨?_, Cnt.next (by omega) (by omega) ?_⟩, fun h1 => Cnt.next hlt (by omega) ?_⟩
    · rw [List.length_append, List.length_replicate]; omega
    · rw [List.append_assoc, List.replicate_succ']
    · have : j = (ge es k).2.2.toNat := by omega
      rw [endsF_take hlt, this]
  · have hk2 : k = es.length := by omega
    rw [hk2, List.take_length]; exact h
end Go.Proofs.Ytdbpajnjhgocoaa

/- What the references' pure forms come to: connectedness, errors, scripts. -/
namespace Go.Proofs.Ytdbpajnjhgocoaa
open Go Go.Proofs.Try
set_option linter.unusedVariables false
set_option linter.unusedSimpArgs false
section
variable {n : Nat} {es : List E3}
end
section
variable {n q : Int} {es : List E3} {d s : List Int}
end
end Go.Proofs.Ytdbpajnjhgocoaa

/- What the pure forms of the program's and the library's small functions come to. -/
namespace Go.Proofs.Ytdbpajnjhgocoaa
open Go Go.Proofs.Try
set_option linter.unusedVariables false
set_option linter.unusedSimpArgs false
theorem ycz {a b : List Int} {R : Bool → Prop} (hl : a.length ≤ 1000000000) (h : R (decide (a = b))) : ya8 a b R := by
  unfold ya8
  have ht : a = b → R true := fun q => by rwa [decide_eq_true q] at h
  have hf : ¬ a = b → R false := fun q => by rwa [decide_eq_false q] at h
  refine ⟨fun hln => ?_, fun hln => hf fun q => hln (by rw [q])⟩
  refine ⟨Cnt a.length (fun k => ∀ j, j < k → gi a j = gi b j), Cnt.start (fun j hj => absurd hj (by omega)), ?_⟩
  rintro m _ ⟨k, rfl, rfl, hk, hinv⟩
  simp only [Int.toNat_natCast]
  refine ⟨fun hlt => ⟨by omega, by omega, fun h1 => Cnt.next (by omega) (by omega) fun j hj => ?_, fun h1 => hf fun q => h1 (by rw [q])⟩, fun hge => ht (gi_ext (by omega) fun j hj => hinv j (by omega))⟩
  by_cases e : j = k
  · subst e; exact h1
  · exact hinv j (by omega)
end Go.Proofs.Ytdbpajnjhgocoaa

/- What the library's pure forms come to: search, minimum, order. -/
namespace Go.Proofs.Ytdbpajnjhgocoaa
open Go Go.Proofs.Try
set_option linter.unusedVariables false
set_option linter.unusedSimpArgs false
end Go.Proofs.Ytdbpajnjhgocoaa

/- What the pure forms of chips, graph and firing come to. -/
namespace Go.Proofs.Ytdbpajnjhgocoaa
open Go Go.Proofs.Try
set_option linter.unusedVariables false
set_option linter.unusedSimpArgs false
theorem yeM {n v : Int} {R : Bool → Prop} (h : R (decide (0 ≤ v ∧ v < n))) : ybe n v R := by
  unfold ybe
  refine ⟨fun h1 => ?_, fun h1 => ?_⟩
  · have e : decide (v < n) = decide (0 ≤ v ∧ v < n) := by simp [h1]
    rw [e]; exact h
  · have e : false = decide (0 ≤ v ∧ v < n) := by simp [h1]
    rw [e]; exact h
theorem yfp {a b : Int} {R : Int → Prop} (h : R (cmpF a b)) : ybs a b R := by
  unfold ybs yb2
  unfold cmpF at h
  refine ⟨fun q => absurd q (by simp), fun _ => ⟨fun q => absurd q (by simp), fun _ => ⟨fun h1 => by rwa [if_pos h1] at h, fun h1 => ?_⟩⟩⟩
  rw [if_neg h1] at h
  refine ⟨fun h2 => by rwa [if_pos h2] at h, fun h2 => by rwa [if_neg h2] at h⟩
theorem p_cmp_Or2 {x y : Int} {R : Int → Prop} (h : R (orF x y)) : ycF [x, y] R := by
  unfold ycF
  unfold orF at h
  refine ⟨Cnt 2 (fun k => ∀ j, j < k → gi [x, y] j = 0), Cnt.start (fun j hj => absurd hj (by omega)), ?_⟩
  rintro m _ ⟨k, rfl, rfl, hk, hinv⟩
  simp only [Int.toNat_natCast, List.length_cons, List.length_nil]
  have hk3 : k = 0 ∨ k = 1 ∨ k = 2 := by omega
  have g0 : gi [x, y] 0 = x := rfl
  have g1 : gi [x, y] 1 = y := rfl
  have hnx : gi [x, y] k = 0 → ∀ j, j < k + 1 → gi [x, y] j = 0 := fun q j hj => by
    by_cases e : j = k
    · subst e; exact q
    · exact hinv j (by omega)
  refine ⟨fun hlt => ⟨by omega, fun q => Cnt.next (by omega) (by omega) (hnx q), fun q => ?_⟩, fun hge => ?_⟩
  · rcases hk3 with rfl | rfl | rfl
    · rw [g0] at q ⊢; rwa [if_pos q] at h
    · have h0 := hinv 0 (by omega)
      rw [g0] at h0
      rw [g1]; rwa [if_neg (fun q2 => q2 h0)] at h
    · exact absurd hlt (by omega)
  · have : k = 2 := by omega
    subst this
    have h0 := hinv 0 (by omega)
    have h1 := hinv 1 (by omega)
    rw [g0] at h0
    rw [g1] at h1
    rw [if_neg (fun q2 => q2 h0), h1] at h; exact h
theorem p_pair_compare {a b c d : Int} {R : Int → Prop} (h : R (ydP a b c d)) : ybE a b c d R :=
  yfp (yfp (p_cmp_Or2 h))
theorem p_graph_Check {n : Int} {es : List E3} {R : Int → Prop} (hl : es.length ≤ 1000000000) (h : R (ycO n es)) : ycr n es R := by
  unfold ycr
  have hout : ¬ (1 ≤ n ∧ n ≤ 12) → R 2 := fun q => by unfold ycO at h; rwa [if_neg q] at h
  refine ⟨1 ≤ n ∧ n ≤ 12, fun hn => ?_, fun q => hout (by omega), fun q => ⟨fun q2 => hout (by omega), fun q2 => ⟨by omega, by omega⟩⟩⟩
  have hg : ycO n es = gchk n (-1) (-1) es := by unfold ycO; rw [if_pos hn]
  rw [hg] at h
  refine ⟨fun m i a b => Cnt es.length (fun k => a = (pre es k).1 ∧ b = (pre es k).2 ∧ gchk n (-1) (-1) es = gchk n (pre es k).1 (pre es k).2 (es.drop k)) m i, Cnt.start ⟨rfl, rfl, rfl⟩, ?_⟩
  rintro m _ _ _ ⟨k, rfl, rfl, hk, rfl, rfl, hinv⟩
  simp only [Int.toNat_natCast]
  refine ⟨fun hlt => ⟨by omega, ?_⟩, fun hge => ?_⟩
  · have hlt : k < es.length := by omega
    rw [ge_drop hlt, ygk] at hinv
    generalize hx : ge es k = x at hinv ⊢
    have hed : R (if ygv n (pre es k).1 (pre es k).2 x = 0 then gchk n x.1 x.2.1 (es.drop (k + 1)) else ygv n (pre es k).1 (pre es k).2 x) := by rw [← hinv]; exact h
    have h2 : ¬ ((0 ≤ x.1 ∧ x.1 < n) ∧ (0 ≤ x.2.1 ∧ x.2.1 < n) ∧ 1 ≤ x.2.2 ∧ x.2.2 ≤ 50) → R 2 := fun q => by
      unfold ygv at hed; rw [if_neg q, if_neg (by omega)] at hed; exact hed
    refine ⟨(0 ≤ x.1 ∧ x.1 < n) ∧ (0 ≤ x.2.1 ∧ x.2.1 < n) ∧ 1 ≤ x.2.2 ∧ x.2.2 ≤ 50, fun hJ => ?_, yeM ⟨fun q1 => yeM ⟨fun q2 => ⟨fun q3 => h2 (by omega), fun q3 => ⟨fun q4 => h2 (by omega), fun q4 => ?_⟩⟩, fun q2 => h2 (by simp at q2; omega)⟩, fun q1 => h2 (by simp at q1; omega)⟩⟩
    · have he : ygv n (pre es k).1 (pre es k).2 x = if x.1 ≤ x.2.1 ∧ ydP (pre es k).1 (pre es k).2 x.1 x.2.1 < 0 then 0 else 9 := by unfold ygv; rw [if_pos hJ]
      rw [he] at hed hinv
      refine ⟨fun q => ?_, fun q => p_pair_compare ⟨fun q2 => ?_, fun q2 => Cnt.next hlt (by omega) ⟨?_, ?_, ?_⟩⟩⟩
      · rw [if_neg (show ¬ (x.1 ≤ x.2.1 ∧ _) by omega), if_neg (by omega)] at hed; exact hed
      · rw [if_neg (show ¬ (x.1 ≤ x.2.1 ∧ _) by omega), if_neg (by omega)] at hed; exact hed
      · simp [pre, hx]
      · simp [pre, hx]
      · have hc : x.1 ≤ x.2.1 ∧ ydP (pre es k).1 (pre es k).2 x.1 x.2.1 < 0 := ⟨by omega, by omega⟩
        rw [if_pos hc, if_pos rfl] at hinv
        rw [hinv]
        simp [pre, hx]
    · simp only [decide_eq_true_eq] at q1 q2
      exact ⟨q1, q2, by omega, by omega⟩
  · have hk2 : k = es.length := by omega
    rw [hinv, hk2, List.drop_length] at h
    exact h
def e1 (x : E3) (s : Nat → Int) (v : Nat) : Int := (if (v : Int) = x.1 then x.2.2 * (s x.1.toNat - s x.2.1.toNat) else 0) - (if (v : Int) = x.2.1 then x.2.2 * (s x.1.toNat - s x.2.1.toNat) else 0)
section
variable {n : Nat} {es : List E3} {d s : List Int}
end
end Go.Proofs.Ytdbpajnjhgocoaa
