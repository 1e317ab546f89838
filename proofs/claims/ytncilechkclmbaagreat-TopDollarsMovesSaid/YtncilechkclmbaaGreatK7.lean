/- Texts laid together: Srt, Lay, SrtD, PSa, PSl, PTc, PTr, PTd, Val, Dol. -/
import Derived.Shelf.SlSortCmp.NoneTotal
import Derived.Shelf.SlLaysF
import Derived.Test.YtncilechkclmbaaGreatChecked
import Derived.Test.YtncilechkclmbaaGreatK6
/- slices.SortFunc at slices of one's own: the kit's contract, said of what is owned. Elements of one cell. No program in sight. -/
namespace Go.Proofs.YtncilechkclmbaaGreat
open Go Go.RowKit Go.Shelf Go.Lib Go.Sort Go.Proofs.Tryz
set_option linter.unusedVariables false
set_option linter.unusedSimpArgs false
section
variable {P : Program} {ρ : Ren} {τ : Type} {c : Cod τ} {cf : τ → τ → Int} {g : Nat}
end
end Go.Proofs.YtncilechkclmbaaGreat

/- slices.SortFunc lies in this program. -/
namespace Go.Proofs.YtncilechkclmbaaGreat
open Go Go.Shelf Go.Proofs.Tryz
end Go.Proofs.YtncilechkclmbaaGreat

/- The sort of divisors: slices.SortFunc by slices.Compare. -/
namespace Go.Proofs.YtncilechkclmbaaGreat
open Go Go.RowKit Go.Shelf Go.Sort Go.Proofs.Tryz
set_option maxRecDepth 100000
set_option maxHeartbeats 400000
set_option linter.unusedVariables false
end Go.Proofs.YtncilechkclmbaaGreat

/- Pure forms of functions, made by program (pf.py), each with the proof that the code does so. -/
namespace Go.Proofs.YtncilechkclmbaaGreat
open Go Go.RowKit Go.Shelf Go.Proofs.Tryz
set_option linter.unusedVariables false
set_option maxRecDepth 100000
set_option maxHeartbeats 1000000
end Go.Proofs.YtncilechkclmbaaGreat

/- Pure forms of functions, made by program (pf.py), each with the proof that the code does so. -/
namespace Go.Proofs.YtncilechkclmbaaGreat
open Go Go.RowKit Go.Shelf Go.Proofs.Tryz
set_option linter.unusedVariables false
set_option maxRecDepth 100000
set_option maxHeartbeats 1000000
end Go.Proofs.YtncilechkclmbaaGreat

/- Pure forms of functions, made by program (pf.py), each with the proof that the code does so. -/
namespace Go.Proofs.YtncilechkclmbaaGreat
open Go Go.RowKit Go.Shelf Go.Proofs.Tryz
set_option linter.unusedVariables false
set_option maxRecDepth 100000
set_option maxHeartbeats 1000000
end Go.Proofs.YtncilechkclmbaaGreat

/- Pure forms of functions, made by program (pf.py), each with the proof that the code does so. -/
namespace Go.Proofs.YtncilechkclmbaaGreat
open Go Go.RowKit Go.Shelf Go.Proofs.Tryz
set_option linter.unusedVariables false
set_option maxRecDepth 100000
set_option maxHeartbeats 1000000
end Go.Proofs.YtncilechkclmbaaGreat

/- Pure forms of functions, made by program (pf.py), each with the proof that the code does so. -/
namespace Go.Proofs.YtncilechkclmbaaGreat
open Go Go.RowKit Go.Shelf Go.Proofs.Tryz
set_option linter.unusedVariables false
set_option maxRecDepth 100000
set_option maxHeartbeats 1000000
def yl1 (x : List Int) (R : Int → Prop) : Prop :=
(∃ J2 : Prop, (J2 → ((0 ≤ (0 : Int) ∧ (0 : Int) < ((x.length : Nat) : Int)) ∧
(∃ I2 : Nat → Int → Int → Prop, (∃ m0, I2 m0 (gi x (0 : Int).toNat) 1) ∧ ∀ m2 m3 i, I2 m2 m3 i → 
((i < ((x.length : Nat) : Int) →
((0 ≤ i ∧ i < ((x.length : Nat) : Int)) ∧
(In64 (i + 1) ∧
∃ m4, m4 < m2 ∧ I2 m4 (mnF m3 (gi x i.toNat)) (i + 1)))) ∧
(¬ (i < ((x.length : Nat) : Int)) →
R m3))))) ∧
((((x.length : Nat) : Int) < 1 →
False) ∧
(¬ (((x.length : Nat) : Int) < 1) →
J2)))
theorem ymL {O : Nat → Prop} {w : World} {x Ax lx cx} {R : Int → Prop} (h : yl1 x R) (hO : ∀ k, O k → k < w.heap.size) (hA0 : (FP.sl cI Ax lx cx x).P O w) :
    Calls Tryz.prog 228 #[(.slice Ax lx cx)] w fun e w' => ∃ r, e = .returned (ii r) ∧ Sep w no O w' (rl []) ∧ R r := by
  unfold yl1 at h; have hS : Sep w no O w (rl [Res.ro (FP.sl cI Ax lx cx x)]) := Sep.startl hO [(FP.sl cI Ax lx cx x)] ⟨hA0, trivial⟩; refine yan (l := [(.slice Ax lx cx)]) func228 rfl ntmps228 (Nat.le_of_ble_eq_true rfl) (zs (zq (za (ii 0)) (yaa (yaf (zs (zq (zm (.slice Ax lx cx)) (zq (ybc (n := x.length) rfl underlying25 (ya2 (hS.rdr 0 rfl))) (zq zL (yaa ?_))))))))); obtain ⟨J2, hJ, h⟩ := h; refine yiR (fun E ds w' => J2 ∧ ds = [] ∧ E 0 = (Value.slice Ax lx cx) ∧ Sep w no O w' (rl [Res.ro (FP.sl cI Ax lx cx x)])) ?_ ?_
  · clear h hS; rintro E ds w2 ⟨h, rfl, hE0, hS⟩; replace h := hJ h; refine zs (zq (yae hE0) ?_); obtain ⟨hx, h⟩ := h; refine zq (zi underlying25 yaj (ybh (hS.rdr 0 rfl) hx)) (zq (yaA (v := (ii (gi x (0 : Int).toNat))) rfl underlying3 rfl (rd_1 (hS.rdr 0 rfl) hx (fun q => ybs q) rfl)) ?_); refine zq (za (ii (gi x (0 : Int).toNat))) (yaa (yaf (zs (zq (za (ii 1)) (yaa (yak ?_)))))); obtain ⟨I2, ⟨m0, h0⟩, hr⟩ := h; refine yaO (fun m E ds w' => ∃ m3 i, I2 m m3 i ∧ ds = [] ∧ E 0 = (Value.slice Ax lx cx) ∧ E 3 = (ii m3) ∧ E 4 = (ii i) ∧ Sep w no O w' (rl [Res.ro (FP.sl cI Ax lx cx x)])) m0 ⟨_, _, h0, rfl, hE0, rfl, rfl, (hS.sel [0] (by decide))⟩ ?_; clear h0 hS; rintro m2 E ds w3 ⟨m3, i, h, rfl, hE0, hE3, hE4, hS⟩ again; replace h := hr m2 m3 i h; clear hr; refine yaf (zs (zq (yae hE4) (zq (yae hE0) (zq (ybc (n := x.length) rfl underlying25 (ya2 (hS.rdr 0 rfl))) (zq zL (yaa ?_)))))); by_cases hp : i < ((x.length : Nat) : Int)
    · replace h := h.1 hp; refine zc hp (yag (yaf (yak (zr (zq (yae hE3) (zq (yae hE0) (zq (yae hE4) ?_))))))); obtain ⟨hx2, h⟩ := h; refine zq (zi underlying25 yaj (ybh (hS.rdr 0 rfl) hx2)) (zq (yaA (v := (ii (gi x i.toNat))) rfl underlying3 rfl (rd_1 (hS.rdr 0 rfl) hx2 (fun q => ybs q) rfl)) ?_); refine zq (yne rfl rfl) (zq (za (ii (mnF m3 (gi x i.toNat)))) (yaa (yai (zr (zq (yae hE4) ?_))))); obtain ⟨hi, h⟩ := h; refine zq (zA hi) (zq (za (ii (i + 1))) (yaa ?_)); obtain ⟨mq, hlt, h⟩ := h; exact again mq _ _ _ ⟨_, _, h, rfl, hE0, rfl, rfl, (hS.sel [0] (by decide))⟩ hlt
    · replace h := h.2 hp; exact zd hp (yaH rfl (zs (zq (yae hE3) (zq (za (ii m3)) (yaa (yah rfl rfl ⟨_, rfl, (hS.sel [] (by decide)), h⟩))))))
  clear hJ; intro j; by_cases hp2 : ((x.length : Nat) : Int) < 1
  · replace h := h.1 hp2; exact zc hp2 (zr h.elim)
  · replace h := h.2 hp2; exact zd hp2 (yag (j _ _ _ ⟨h, rfl, rfl, (hS.sel [0] (by decide))⟩))
def ylP (x : List Int) (R : Int → Prop) : Prop :=
(∃ J2 : Prop, (J2 → ((0 ≤ (0 : Int) ∧ (0 : Int) < ((x.length : Nat) : Int)) ∧
(∃ I2 : Nat → Int → Int → Prop, (∃ m0, I2 m0 (gi x (0 : Int).toNat) 1) ∧ ∀ m2 m3 i, I2 m2 m3 i → 
((i < ((x.length : Nat) : Int) →
((0 ≤ i ∧ i < ((x.length : Nat) : Int)) ∧
(In64 (i + 1) ∧
∃ m4, m4 < m2 ∧ I2 m4 (mxF m3 (gi x i.toNat)) (i + 1)))) ∧
(¬ (i < ((x.length : Nat) : Int)) →
R m3))))) ∧
((((x.length : Nat) : Int) < 1 →
False) ∧
(¬ (((x.length : Nat) : Int) < 1) →
J2)))
theorem ymB {O : Nat → Prop} {w : World} {x Ax lx cx} {R : Int → Prop} (h : ylP x R) (hO : ∀ k, O k → k < w.heap.size) (hA0 : (FP.sl cI Ax lx cx x).P O w) :
    Calls Tryz.prog 182 #[(.slice Ax lx cx)] w fun e w' => ∃ r, e = .returned (ii r) ∧ Sep w no O w' (rl []) ∧ R r := by
  unfold ylP at h; have hS : Sep w no O w (rl [Res.ro (FP.sl cI Ax lx cx x)]) := Sep.startl hO [(FP.sl cI Ax lx cx x)] ⟨hA0, trivial⟩; refine yan (l := [(.slice Ax lx cx)]) func182 rfl ntmps182 (Nat.le_of_ble_eq_true rfl) (zs (zq (za (ii 0)) (yaa (yaf (zs (zq (zm (.slice Ax lx cx)) (zq (ybc (n := x.length) rfl underlying36 (ya2 (hS.rdr 0 rfl))) (zq zL (yaa ?_))))))))); obtain ⟨J2, hJ, h⟩ := h; refine yiR (fun E ds w' => J2 ∧ ds = [] ∧ E 0 = (Value.slice Ax lx cx) ∧ Sep w no O w' (rl [Res.ro (FP.sl cI Ax lx cx x)])) ?_ ?_
  · clear h hS; rintro E ds w2 ⟨h, rfl, hE0, hS⟩; replace h := hJ h; refine zs (zq (yae hE0) ?_); obtain ⟨hx, h⟩ := h; refine zq (zi underlying36 yaj (ybh (hS.rdr 0 rfl) hx)) (zq (yaA (v := (ii (gi x (0 : Int).toNat))) rfl underlying3 rfl (rd_1 (hS.rdr 0 rfl) hx (fun q => ybs q) rfl)) ?_); refine zq (za (ii (gi x (0 : Int).toNat))) (yaa (yaf (zs (zq (za (ii 1)) (yaa (yak ?_)))))); obtain ⟨I2, ⟨m0, h0⟩, hr⟩ := h; refine yaO (fun m E ds w' => ∃ m3 i, I2 m m3 i ∧ ds = [] ∧ E 0 = (Value.slice Ax lx cx) ∧ E 3 = (ii m3) ∧ E 4 = (ii i) ∧ Sep w no O w' (rl [Res.ro (FP.sl cI Ax lx cx x)])) m0 ⟨_, _, h0, rfl, hE0, rfl, rfl, (hS.sel [0] (by decide))⟩ ?_; clear h0 hS; rintro m2 E ds w3 ⟨m3, i, h, rfl, hE0, hE3, hE4, hS⟩ again; replace h := hr m2 m3 i h; clear hr; refine yaf (zs (zq (yae hE4) (zq (yae hE0) (zq (ybc (n := x.length) rfl underlying36 (ya2 (hS.rdr 0 rfl))) (zq zL (yaa ?_)))))); by_cases hp : i < ((x.length : Nat) : Int)
    · replace h := h.1 hp; refine zc hp (yag (yaf (yak (zr (zq (yae hE3) (zq (yae hE0) (zq (yae hE4) ?_))))))); obtain ⟨hx2, h⟩ := h; refine zq (zi underlying36 yaj (ybh (hS.rdr 0 rfl) hx2)) (zq (yaA (v := (ii (gi x i.toNat))) rfl underlying3 rfl (rd_1 (hS.rdr 0 rfl) hx2 (fun q => ybs q) rfl)) ?_); refine zq (yn0 rfl rfl) (zq (za (ii (mxF m3 (gi x i.toNat)))) (yaa (yai (zr (zq (yae hE4) ?_))))); obtain ⟨hi, h⟩ := h; refine zq (zA hi) (zq (za (ii (i + 1))) (yaa ?_)); obtain ⟨mq, hlt, h⟩ := h; exact again mq _ _ _ ⟨_, _, h, rfl, hE0, rfl, rfl, (hS.sel [0] (by decide))⟩ hlt
    · replace h := h.2 hp; exact zd hp (yaH rfl (zs (zq (yae hE3) (zq (za (ii m3)) (yaa (yah rfl rfl ⟨_, rfl, (hS.sel [] (by decide)), h⟩))))))
  clear hJ; intro j; by_cases hp2 : ((x.length : Nat) : Int) < 1
  · replace h := h.1 hp2; exact zc hp2 (zr h.elim)
  · replace h := h.2 hp2; exact zd hp2 (yag (j _ _ _ ⟨h, rfl, rfl, (hS.sel [0] (by decide))⟩))
def ylH (s1 : List Int) (s2 : List Int) (R : Int → Prop) : Prop :=
(∃ I2 : Nat → Int → Prop, (∃ m0, I2 m0 0) ∧ ∀ m2 v, I2 m2 v → 
((v < ((s1.length : Nat) : Int) →
((0 ≤ v ∧ v < ((s1.length : Nat) : Int)) ∧
((((s2.length : Nat) : Int) ≤ v →
R 1) ∧
(¬ (((s2.length : Nat) : Int) ≤ v) →
((0 ≤ v ∧ v < ((s2.length : Nat) : Int)) ∧
yhL (gi s1 v.toNat) (gi s2 v.toNat) (fun r =>
((r = 0 →
(In64 (v + 1) ∧
∃ m3, m3 < m2 ∧ I2 m3 (v + 1))) ∧
(¬ (r = 0) →
R r)))))))) ∧
(¬ (v < ((s1.length : Nat) : Int)) →
((((s1.length : Nat) : Int) < ((s2.length : Nat) : Int) →
R (-1)) ∧
(¬ (((s1.length : Nat) : Int) < ((s2.length : Nat) : Int)) →
R 0)))))
theorem ymn {O : Nat → Prop} {w : World} {s1 s2 As1 ls1 cs1 As2 ls2 cs2} {R : Int → Prop} (h : ylH s1 s2 R) (hO : ∀ k, O k → k < w.heap.size) (hA0 : (FP.sl cI As1 ls1 cs1 s1).P O w) (hA1 : (FP.sl cI As2 ls2 cs2 s2).P O w) :
    Calls Tryz.prog 190 #[(.slice As1 ls1 cs1), (.slice As2 ls2 cs2)] w fun e w' => ∃ r2, e = .returned (ii r2) ∧ Sep w no O w' (rl []) ∧ R r2 := by
  unfold ylH at h; have hS : Sep w no O w (rl [Res.ro (FP.sl cI As1 ls1 cs1 s1), Res.ro (FP.sl cI As2 ls2 cs2 s2)]) := Sep.startl hO [(FP.sl cI As1 ls1 cs1 s1), (FP.sl cI As2 ls2 cs2 s2)] ⟨hA0, hA1, trivial⟩; refine yan (l := [(.slice As1 ls1 cs1), (.slice As2 ls2 cs2)]) func190 rfl ntmps190 (Nat.le_of_ble_eq_true rfl) (zs (zq (za (ii 0)) (yaa (yaf (zs (zq (zm (.slice As1 ls1 cs1)) (zq (ybc (n := s1.length) rfl underlying36 (ya2 (hS.rdr 0 rfl))) (zq (zm (ii 0)) (yaa (yak ?_)))))))))); obtain ⟨I2, ⟨m0, h0⟩, hr⟩ := h; refine yaO (fun m E ds w' => ∃ v, I2 m v ∧ ds = [] ∧ E 0 = (Value.slice As1 ls1 cs1) ∧ E 1 = (Value.slice As2 ls2 cs2) ∧ E 9 = (Value.slice As1 ls1 cs1) ∧ E 10 = (ii ((s1.length : Nat) : Int)) ∧ E 11 = (ii v) ∧ Sep w no O w' (rl [Res.ro (FP.sl cI As1 ls1 cs1 s1), Res.ro (FP.sl cI As2 ls2 cs2 s2)])) m0 ⟨_, h0, rfl, rfl, rfl, rfl, rfl, rfl, (hS.sel [0, 1] (by decide))⟩ ?_; clear h0 hS; rintro m2 E ds w2 ⟨v, h, rfl, hE0, hE1, hE9, hE10, hE11, hS⟩ again; replace h := hr m2 v h; clear hr; refine zs (zq (yd4 hE11 hE10) (yaa (yaf ?_))); by_cases hp : v < ((s1.length : Nat) : Int)
  · replace h := h.1 hp; refine zc hp (yag (yaf (yak (zs (zq (yae hE11) ?_))))); obtain ⟨hx, h⟩ := h; refine zq (yeK hE9 hE11 underlying36 yaj (ybh (hS.rdr 0 rfl) hx)) (zq (yaA (v := (ii (gi s1 v.toNat))) rfl underlying3 rfl (rd_1 (hS.rdr 0 rfl) hx (fun q => ybs q) rfl)) ?_); refine zq (za (ii v)) (zq (za (ii (gi s1 v.toNat))) (yaa (yaf (zs (zq (zm (ii v)) (zq (yae hE1) (zq (ybc (n := s2.length) rfl underlying36 (ya2 (hS.rdr 1 rfl))) (zq (yiO rfl rfl) (yaa ?_))))))))); by_cases hp2 : ((s2.length : Nat) : Int) ≤ v
    · replace h := h.1 hp2; exact zc hp2 (zs (zq (za (ii 1)) (yaa (yah rfl rfl ⟨_, rfl, (hS.sel [] (by decide)), h⟩))))
    · replace h := h.2 hp2; refine zd hp2 (yag (zs (zq (yae hE1) (zq (zm (ii v)) ?_)))); obtain ⟨hx2, h⟩ := h; refine zq (zi underlying36 yaj (ybh (hS.rdr 1 rfl) hx2)) (zq (yaA (v := (ii (gi s2 v.toNat))) rfl underlying3 rfl (rd_1 (hS.rdr 1 rfl) hx2 (fun q => ybs q) rfl)) ?_); refine zq (za (ii (gi s2 v.toNat))) (yaa (zs (zq (zm (ii (gi s1 v.toNat))) (zq (zm (ii (gi s2 v.toNat))) (zn (yal rfl (am2 rfl rfl) enter_94 ((yh5 h (yaN _)).mono ?_))))))); rintro _ w3 ⟨r, rfl, hC, h⟩; replace hS := hS.pur hC.pure; clear hC; refine ⟨_, rfl, ?_⟩; refine zb (zq (za (ii r)) (yaa (zs (zq (zm (ii r)) (zq zN (yaa ?_)))))); by_cases hp3 : r = 0
      · replace h := h.1 hp3; refine ze hp3 (yag (yai (zr ?_))); obtain ⟨hi, h⟩ := h; refine zq (ycv hE11 rfl hi) (zq (zm (ii (v + 1))) (yaa ?_)); obtain ⟨mq, hlt, h⟩ := h; exact again mq _ _ _ ⟨_, h, rfl, hE0, hE1, hE9, hE10, rfl, (hS.sel [0, 1] (by decide))⟩ hlt
      · replace h := h.2 hp3; exact zf hp3 (zs (zq (zm (ii r)) (zq (za (ii r)) (yaa (yah rfl rfl ⟨_, rfl, (hS.sel [] (by decide)), h⟩)))))
  · replace h := h.2 hp; refine zd hp (yaH rfl (yaf (zs (zq (yae hE0) (zq (ybc (n := s1.length) rfl underlying36 (ya2 (hS.rdr 0 rfl))) (zq (yae hE1) (zq (ybc (n := s2.length) rfl underlying36 (ya2 (hS.rdr 1 rfl))) (zq zL (yaa ?_))))))))); by_cases hp4 : ((s1.length : Nat) : Int) < ((s2.length : Nat) : Int)
    · replace h := h.1 hp4; exact zc hp4 (zs (zq (za (ii (-1))) (yaa (yah rfl rfl ⟨_, rfl, (hS.sel [] (by decide)), h⟩))))
    · replace h := h.2 hp4; exact zd hp4 (yag (zs (zq (za (ii 0)) (yaa (yah rfl rfl ⟨_, rfl, (hS.sel [] (by decide)), h⟩)))))
def ylJ (s : List Int) (R : (List Int) → Prop) : Prop :=
(∀ nil : Bool, (nil = true → s = []) →
((nil = true →
R ([])) ∧
(¬ (nil = true) →
(0 + s.length ≤ 1000000000 ∧
R ([] ++ s)))))
theorem ymv {O : Nat → Prop} {w : World} {s As ls cs} {R : (List Int) → Prop} (h : ylJ s R) (hO : ∀ k, O k → k < w.heap.size) (hA0 : (FP.sl cI As ls cs s).P O w) :
    Calls Tryz.prog 191 #[(.slice As ls cs)] w fun e w' => ∃ r Ar lr cr, e = .returned (.slice Ar lr cr) ∧ Sep w no O w' (rl [Res.own cI 3 Ar lr cr r]) ∧ R r := by
  unfold ylJ at h; have hS : Sep w no O w (rl [Res.ro (FP.sl cI As ls cs s)]) := Sep.startl hO [(FP.sl cI As ls cs s)] ⟨hA0, trivial⟩; refine yan (l := [(.slice As ls cs)]) func191 rfl ntmps191 (Nat.le_of_ble_eq_true rfl) (zs (zq (za (.slice none 0 0)) (yaa (yaf (zs (zq (zm (.slice As ls cs)) ?_)))))); obtain ⟨nil, hn⟩ : ∃ b, Option.isNone As = b := ⟨_, rfl⟩; replace h := h nil (by rw [← hn]; exact rd_nil (hS.rdr 0 rfl)); refine zq (v_seqlx rfl rfl underlying36 hn) (yaa ?_); by_cases hp : nil = true
  · replace h := h.1 hp; refine yaq (congrArg Value.bool hp) (zs (zq (za (.slice none 0 0)) (yaa ?_))); replace hS := hS.nil 1 rfl cI 3; exact yah rfl rfl ⟨_, _, _, _, rfl, (hS.sel [1] (by decide)), h⟩
  · replace h := h.2 hp; refine yax (congrArg Value.bool (Bool.eq_false_iff.2 hp)) (yag (zs (zn (yaR (l := []) (cells := []) (bp0) underlying36 yaj rfl rfl ?_)))); intro g w2 hN; replace hS := hS.litf (n := 0) 1 rfl (fI .i64) hN ([] : List Int) rfl (by decide) rfl; clear hN; refine zb (zq (zm (.slice As ls cs)) ?_); obtain ⟨hx, h⟩ := h; refine zn (n_app (c := cI) rfl rfl underlying36 underlying36 yaj rfl rfl (by decide) hS 1 rfl (hS.yr 0 rfl) hx ?_); clear hS; intro A c w3 hS; exact zb (zq (za (.slice A (0 + ls) c)) (yaa (yah rfl rfl ⟨_, _, _, _, rfl, (hS.sel [1] (by decide)), h⟩)))
def ynv (x : Int) (y : Int) (R : Int → Int → Prop) : Prop :=
((0 ≤ x ∧ x < 18446744073709551616 ∧ 0 ≤ (4294967295 : Int) ∧ (4294967295 : Int) < 18446744073709551616) ∧
((0 ≤ (32 : Int) ∧ (32 : Int) < 64) ∧
((0 ≤ y ∧ y < 18446744073709551616 ∧ 0 ≤ (4294967295 : Int) ∧ (4294967295 : Int) < 18446744073709551616) ∧
(InK .u64 (((x.toNat &&& (4294967295 : Int).toNat : Nat) : Int) * ((y.toNat &&& (4294967295 : Int).toNat : Nat) : Int)) ∧
(InK .u64 ((x / 2 ^ (32 : Int).toNat) * ((y.toNat &&& (4294967295 : Int).toNat : Nat) : Int)) ∧
(InK .u64 (((x / 2 ^ (32 : Int).toNat) * ((y.toNat &&& (4294967295 : Int).toNat : Nat) : Int)) + ((((x.toNat &&& (4294967295 : Int).toNat : Nat) : Int) * ((y.toNat &&& (4294967295 : Int).toNat : Nat) : Int)) / 2 ^ (32 : Int).toNat)) ∧
((0 ≤ (((x / 2 ^ (32 : Int).toNat) * ((y.toNat &&& (4294967295 : Int).toNat : Nat) : Int)) + ((((x.toNat &&& (4294967295 : Int).toNat : Nat) : Int) * ((y.toNat &&& (4294967295 : Int).toNat : Nat) : Int)) / 2 ^ (32 : Int).toNat)) ∧ (((x / 2 ^ (32 : Int).toNat) * ((y.toNat &&& (4294967295 : Int).toNat : Nat) : Int)) + ((((x.toNat &&& (4294967295 : Int).toNat : Nat) : Int) * ((y.toNat &&& (4294967295 : Int).toNat : Nat) : Int)) / 2 ^ (32 : Int).toNat)) < 18446744073709551616 ∧ 0 ≤ (4294967295 : Int) ∧ (4294967295 : Int) < 18446744073709551616) ∧
(InK .u64 (((x.toNat &&& (4294967295 : Int).toNat : Nat) : Int) * (y / 2 ^ (32 : Int).toNat)) ∧
(InK .u64 ((((((x / 2 ^ (32 : Int).toNat) * ((y.toNat &&& (4294967295 : Int).toNat : Nat) : Int)) + ((((x.toNat &&& (4294967295 : Int).toNat : Nat) : Int) * ((y.toNat &&& (4294967295 : Int).toNat : Nat) : Int)) / 2 ^ (32 : Int).toNat)).toNat &&& (4294967295 : Int).toNat : Nat) : Int) + (((x.toNat &&& (4294967295 : Int).toNat : Nat) : Int) * (y / 2 ^ (32 : Int).toNat))) ∧
(InK .u64 ((x / 2 ^ (32 : Int).toNat) * (y / 2 ^ (32 : Int).toNat)) ∧
(InK .u64 (((x / 2 ^ (32 : Int).toNat) * (y / 2 ^ (32 : Int).toNat)) + ((((x / 2 ^ (32 : Int).toNat) * ((y.toNat &&& (4294967295 : Int).toNat : Nat) : Int)) + ((((x.toNat &&& (4294967295 : Int).toNat : Nat) : Int) * ((y.toNat &&& (4294967295 : Int).toNat : Nat) : Int)) / 2 ^ (32 : Int).toNat)) / 2 ^ (32 : Int).toNat)) ∧
(InK .u64 ((((x / 2 ^ (32 : Int).toNat) * (y / 2 ^ (32 : Int).toNat)) + ((((x / 2 ^ (32 : Int).toNat) * ((y.toNat &&& (4294967295 : Int).toNat : Nat) : Int)) + ((((x.toNat &&& (4294967295 : Int).toNat : Nat) : Int) * ((y.toNat &&& (4294967295 : Int).toNat : Nat) : Int)) / 2 ^ (32 : Int).toNat)) / 2 ^ (32 : Int).toNat)) + (((((((x / 2 ^ (32 : Int).toNat) * ((y.toNat &&& (4294967295 : Int).toNat : Nat) : Int)) + ((((x.toNat &&& (4294967295 : Int).toNat : Nat) : Int) * ((y.toNat &&& (4294967295 : Int).toNat : Nat) : Int)) / 2 ^ (32 : Int).toNat)).toNat &&& (4294967295 : Int).toNat : Nat) : Int) + (((x.toNat &&& (4294967295 : Int).toNat : Nat) : Int) * (y / 2 ^ (32 : Int).toNat))) / 2 ^ (32 : Int).toNat)) ∧
(InK .u64 (x * y) ∧
R ((((x / 2 ^ (32 : Int).toNat) * (y / 2 ^ (32 : Int).toNat)) + ((((x / 2 ^ (32 : Int).toNat) * ((y.toNat &&& (4294967295 : Int).toNat : Nat) : Int)) + ((((x.toNat &&& (4294967295 : Int).toNat : Nat) : Int) * ((y.toNat &&& (4294967295 : Int).toNat : Nat) : Int)) / 2 ^ (32 : Int).toNat)) / 2 ^ (32 : Int).toNat)) + (((((((x / 2 ^ (32 : Int).toNat) * ((y.toNat &&& (4294967295 : Int).toNat : Nat) : Int)) + ((((x.toNat &&& (4294967295 : Int).toNat : Nat) : Int) * ((y.toNat &&& (4294967295 : Int).toNat : Nat) : Int)) / 2 ^ (32 : Int).toNat)).toNat &&& (4294967295 : Int).toNat : Nat) : Int) + (((x.toNat &&& (4294967295 : Int).toNat : Nat) : Int) * (y / 2 ^ (32 : Int).toNat))) / 2 ^ (32 : Int).toNat)) (x * y))))))))))))))
theorem ynO {O : Nat → Prop} {w : World} {x y} {R : Int → Int → Prop} (h : ynv x y R) (hO : ∀ k, O k → k < w.heap.size) :
    Calls Tryz.prog 233 #[(.int .u64 x), (.int .u64 y)] w fun e w' => ∃ r r2, e = .returned (.tuple #[(.int .u64 r), (.int .u64 r2)]) ∧ Sep w no O w' (rl []) ∧ R r r2 := by
  unfold ynv at h; have hS : Sep w no O w (rl []) := Sep.start w hO; refine yan (l := [(.int .u64 x), (.int .u64 y)]) func233 rfl ntmps233 (Nat.le_of_ble_eq_true rfl) (zs (zq (za (.int .u64 0)) (zq (za (.int .u64 0)) (yaa (zs (zq (zm (.int .u64 x)) ?_)))))); obtain ⟨hz, h⟩ := h; refine zq (v_andu rfl rfl hz) (zq (za (.int .u64 ((x.toNat &&& (4294967295 : Int).toNat : Nat) : Int))) (yaa (zs (zq (zm (.int .u64 x)) ?_)))); obtain ⟨hz2, h⟩ := h; refine zq (ynK rfl rfl hz2) (zq (za (.int .u64 (x / 2 ^ (32 : Int).toNat))) (yaa (zs (zq (zm (.int .u64 y)) ?_)))); obtain ⟨hz3, h⟩ := h; refine zq (v_andu rfl rfl hz3) (zq (za (.int .u64 ((y.toNat &&& (4294967295 : Int).toNat : Nat) : Int))) (yaa (zs (zq (zm (.int .u64 y)) (zq (ynK rfl rfl hz2) (zq (za (.int .u64 (y / 2 ^ (32 : Int).toNat))) (yaa (zs (zq (zm (.int .u64 ((x.toNat &&& (4294967295 : Int).toNat : Nat) : Int))) (zq (zm (.int .u64 ((y.toNat &&& (4294967295 : Int).toNat : Nat) : Int))) ?_)))))))))); obtain ⟨hi, h⟩ := h; refine zq (ynM rfl rfl hi) (zq (za (.int .u64 (((x.toNat &&& (4294967295 : Int).toNat : Nat) : Int) * ((y.toNat &&& (4294967295 : Int).toNat : Nat) : Int)))) (yaa (zs (zq (zm (.int .u64 (x / 2 ^ (32 : Int).toNat))) (zq (zm (.int .u64 ((y.toNat &&& (4294967295 : Int).toNat : Nat) : Int))) ?_))))); obtain ⟨hi2, h⟩ := h; refine zq (ynM rfl rfl hi2) (zq (zm (.int .u64 (((x.toNat &&& (4294967295 : Int).toNat : Nat) : Int) * ((y.toNat &&& (4294967295 : Int).toNat : Nat) : Int)))) (zq (ynK rfl rfl hz2) ?_)); obtain ⟨hi3, h⟩ := h; refine zq (ynW rfl rfl hi3) (zq (za (.int .u64 (((x / 2 ^ (32 : Int).toNat) * ((y.toNat &&& (4294967295 : Int).toNat : Nat) : Int)) + ((((x.toNat &&& (4294967295 : Int).toNat : Nat) : Int) * ((y.toNat &&& (4294967295 : Int).toNat : Nat) : Int)) / 2 ^ (32 : Int).toNat)))) (yaa (zs (zq (zm (.int .u64 (((x / 2 ^ (32 : Int).toNat) * ((y.toNat &&& (4294967295 : Int).toNat : Nat) : Int)) + ((((x.toNat &&& (4294967295 : Int).toNat : Nat) : Int) * ((y.toNat &&& (4294967295 : Int).toNat : Nat) : Int)) / 2 ^ (32 : Int).toNat)))) ?_)))); obtain ⟨hz6, h⟩ := h; refine zq (v_andu rfl rfl hz6) (zq (za (.int .u64 (((((x / 2 ^ (32 : Int).toNat) * ((y.toNat &&& (4294967295 : Int).toNat : Nat) : Int)) + ((((x.toNat &&& (4294967295 : Int).toNat : Nat) : Int) * ((y.toNat &&& (4294967295 : Int).toNat : Nat) : Int)) / 2 ^ (32 : Int).toNat)).toNat &&& (4294967295 : Int).toNat : Nat) : Int))) (yaa (zs (zq (zm (.int .u64 (((x / 2 ^ (32 : Int).toNat) * ((y.toNat &&& (4294967295 : Int).toNat : Nat) : Int)) + ((((x.toNat &&& (4294967295 : Int).toNat : Nat) : Int) * ((y.toNat &&& (4294967295 : Int).toNat : Nat) : Int)) / 2 ^ (32 : Int).toNat)))) (zq (ynK rfl rfl hz2) (zq (za (.int .u64 ((((x / 2 ^ (32 : Int).toNat) * ((y.toNat &&& (4294967295 : Int).toNat : Nat) : Int)) + ((((x.toNat &&& (4294967295 : Int).toNat : Nat) : Int) * ((y.toNat &&& (4294967295 : Int).toNat : Nat) : Int)) / 2 ^ (32 : Int).toNat)) / 2 ^ (32 : Int).toNat))) (yaa (zs (zq (zm (.int .u64 (((((x / 2 ^ (32 : Int).toNat) * ((y.toNat &&& (4294967295 : Int).toNat : Nat) : Int)) + ((((x.toNat &&& (4294967295 : Int).toNat : Nat) : Int) * ((y.toNat &&& (4294967295 : Int).toNat : Nat) : Int)) / 2 ^ (32 : Int).toNat)).toNat &&& (4294967295 : Int).toNat : Nat) : Int))) (zq (zm (.int .u64 ((x.toNat &&& (4294967295 : Int).toNat : Nat) : Int))) (zq (zm (.int .u64 (y / 2 ^ (32 : Int).toNat))) ?_))))))))))); obtain ⟨hi4, h⟩ := h; refine zq (ynM rfl rfl hi4) ?_; obtain ⟨hi5, h⟩ := h; refine zq (ynW rfl rfl hi5) (zq (za (.int .u64 ((((((x / 2 ^ (32 : Int).toNat) * ((y.toNat &&& (4294967295 : Int).toNat : Nat) : Int)) + ((((x.toNat &&& (4294967295 : Int).toNat : Nat) : Int) * ((y.toNat &&& (4294967295 : Int).toNat : Nat) : Int)) / 2 ^ (32 : Int).toNat)).toNat &&& (4294967295 : Int).toNat : Nat) : Int) + (((x.toNat &&& (4294967295 : Int).toNat : Nat) : Int) * (y / 2 ^ (32 : Int).toNat))))) (yaa (zs (zq (zm (.int .u64 (x / 2 ^ (32 : Int).toNat))) (zq (zm (.int .u64 (y / 2 ^ (32 : Int).toNat))) ?_))))); obtain ⟨hi6, h⟩ := h; refine zq (ynM rfl rfl hi6) (zq (zm (.int .u64 ((((x / 2 ^ (32 : Int).toNat) * ((y.toNat &&& (4294967295 : Int).toNat : Nat) : Int)) + ((((x.toNat &&& (4294967295 : Int).toNat : Nat) : Int) * ((y.toNat &&& (4294967295 : Int).toNat : Nat) : Int)) / 2 ^ (32 : Int).toNat)) / 2 ^ (32 : Int).toNat))) ?_); obtain ⟨hi7, h⟩ := h; refine zq (ynW rfl rfl hi7) (zq (zm (.int .u64 ((((((x / 2 ^ (32 : Int).toNat) * ((y.toNat &&& (4294967295 : Int).toNat : Nat) : Int)) + ((((x.toNat &&& (4294967295 : Int).toNat : Nat) : Int) * ((y.toNat &&& (4294967295 : Int).toNat : Nat) : Int)) / 2 ^ (32 : Int).toNat)).toNat &&& (4294967295 : Int).toNat : Nat) : Int) + (((x.toNat &&& (4294967295 : Int).toNat : Nat) : Int) * (y / 2 ^ (32 : Int).toNat))))) (zq (ynK rfl rfl hz2) ?_)); obtain ⟨hi8, h⟩ := h; refine zq (ynW rfl rfl hi8) (zq (za (.int .u64 ((((x / 2 ^ (32 : Int).toNat) * (y / 2 ^ (32 : Int).toNat)) + ((((x / 2 ^ (32 : Int).toNat) * ((y.toNat &&& (4294967295 : Int).toNat : Nat) : Int)) + ((((x.toNat &&& (4294967295 : Int).toNat : Nat) : Int) * ((y.toNat &&& (4294967295 : Int).toNat : Nat) : Int)) / 2 ^ (32 : Int).toNat)) / 2 ^ (32 : Int).toNat)) + (((((((x / 2 ^ (32 : Int).toNat) * ((y.toNat &&& (4294967295 : Int).toNat : Nat) : Int)) + ((((x.toNat &&& (4294967295 : Int).toNat : Nat) : Int) * ((y.toNat &&& (4294967295 : Int).toNat : Nat) : Int)) / 2 ^ (32 : Int).toNat)).toNat &&& (4294967295 : Int).toNat : Nat) : Int) + (((x.toNat &&& (4294967295 : Int).toNat : Nat) : Int) * (y / 2 ^ (32 : Int).toNat))) / 2 ^ (32 : Int).toNat)))) (yaa (zs (zq (zm (.int .u64 x)) (zq (zm (.int .u64 y)) ?_))))); obtain ⟨hi9, h⟩ := h; exact zq (ynM rfl rfl hi9) (zq (za (.int .u64 (x * y))) (yaa (ybF rfl rfl rfl ⟨_, _, rfl, (hS.sel [] (by decide)), h⟩)))
def ynt (x : Int) (y : Int) (R : Int → Int → Prop) : Prop :=
ynv x y (fun r r2 =>
R r r2)
theorem ynU {O : Nat → Prop} {w : World} {x y} {R : Int → Int → Prop} (h : ynt x y R) (hO : ∀ k, O k → k < w.heap.size) :
    Calls Tryz.prog 194 #[(.int .u64 x), (.int .u64 y)] w fun e w' => ∃ r3 r4, e = .returned (.tuple #[(.int .u64 r3), (.int .u64 r4)]) ∧ Sep w no O w' (rl []) ∧ R r3 r4 := by
  unfold ynt at h; have hS : Sep w no O w (rl []) := Sep.start w hO; refine yan (l := [(.int .u64 x), (.int .u64 y)]) func194 rfl ntmps194 (Nat.le_of_ble_eq_true rfl) (zs (zq (za (.int .u64 0)) (zq (za (.int .u64 0)) (yaa (yaf (yax rfl (yag (zs (zq (zm (.int .u64 x)) (zq (zm (.int .u64 y)) (zn (yal rfl (am2 rfl rfl) enter_233 ((ynO h (yaN _)).mono ?_))))))))))))); rintro _ w2 ⟨r, r2, rfl, hC, h⟩; replace hS := hS.pur hC.pure; clear hC; refine ⟨_, rfl, ?_⟩; exact zb (zq (zm (.tuple #[(.int .u64 r), (.int .u64 r2)])) (zq (zx (.int .u64 r)) (zq (zx (.int .u64 r2)) (zq (za (.int .u64 r)) (zq (za (.int .u64 r2)) (yaa (zs (zq (zm (.int .u64 r)) (zq (zm (.int .u64 r2)) (zq (za (.int .u64 r)) (zq (za (.int .u64 r2)) (yaa (ybF rfl rfl rfl ⟨_, _, rfl, (hS.sel [] (by decide)), h⟩)))))))))))))
def yno (x : List (Int × Bool)) (count : Int) (R : (List (Int × Bool)) → Prop) : Prop :=
(∃ J2 : Prop, (J2 → (InK .u64 ((x.length : Nat) : Int) ∧
(InK .u64 count ∧
ynt ((x.length : Nat) : Int) count (fun r r2 =>
(∃ J3 : Prop, (J3 → (In64 r2 ∧
((0 ≤ r2 ∧ r2 ≤ 1000000) ∧
(0 < x.length ∧
0 ≤ (List.replicate r2.toNat ((0 : Int), false)).length ∧
(∃ I2 : Nat → Int → (List (Int × Bool)) → Prop, (∃ m0, I2 m0 ((min x.length ((List.replicate r2.toNat ((0 : Int), false)).length - 0) : Nat) : Int) (ovr 0 (List.replicate r2.toNat ((0 : Int), false)) x)) ∧ ∀ m2 n newslice, I2 m2 n newslice → 
((n < ((newslice.length : Nat) : Int) →
((0 ≤ n ∧ n ≤ ((newslice.length : Nat) : Int)) ∧
(0 < (newslice.take n.toNat).length ∧
n.toNat ≤ newslice.length ∧
(In64 (n + ((min (newslice.take n.toNat).length (newslice.length - n.toNat) : Nat) : Int)) ∧
∃ m3, m3 < m2 ∧ I2 m3 (n + ((min (newslice.take n.toNat).length (newslice.length - n.toNat) : Nat) : Int)) (ovr n.toNat newslice (newslice.take n.toNat)))))) ∧
(¬ (n < ((newslice.length : Nat) : Int)) →
R newslice))))))) ∧
((0 < r →
False) ∧
(¬ (0 < r) →
((9223372036854775807 < r2 →
False) ∧
(¬ (9223372036854775807 < r2) →
J3))))))))) ∧
((count < 0 →
False) ∧
(¬ (count < 0) →
J2)))
theorem ynz {O : Nat → Prop} {w : World} {x count Ax lx cx} {R : (List (Int × Bool)) → Prop} (h : yno x count R) (hO : ∀ k, O k → k < w.heap.size) (hA0 : (FP.sl (fP (fI .i64) fB).cod Ax lx cx x).P O w) :
    Calls Tryz.prog 138 #[(.slice Ax lx cx), (ii count)] w fun e w' => ∃ r3 Ar lr cr, e = .returned (.slice Ar lr cr) ∧ Sep w no O w' (rl [Res.own (fP (fI .i64) fB).cod 142 Ar lr cr r3]) ∧ R r3 := by
  unfold yno at h; have hS : Sep w no O w (rl [Res.ro (FP.sl (fP (fI .i64) fB).cod Ax lx cx x)]) := Sep.startl hO [(FP.sl (fP (fI .i64) fB).cod Ax lx cx x)] ⟨hA0, trivial⟩; refine yan (l := [(.slice Ax lx cx), (ii count)]) func138 rfl ntmps138 (Nat.le_of_ble_eq_true rfl) (zs (zq (za (.slice none 0 0)) (yaa (yaf (zs (zq (zm (ii count)) (zq zL (yaa ?_)))))))); obtain ⟨J2, hJ, h⟩ := h; refine yiR (fun E ds w' => J2 ∧ ds = [] ∧ E 0 = (Value.slice Ax lx cx) ∧ E 1 = (ii count) ∧ Sep w no O w' (rl [Res.ro (FP.sl (fP (fI .i64) fB).cod Ax lx cx x)])) ?_ ?_
  · clear h hS; rintro E ds w2 ⟨h, rfl, hE0, hE1, hS⟩; replace h := hJ h; refine zs (zq (yae hE0) (zq (ybc (n := x.length) rfl underlying89 (ya2 (hS.rdr 0 rfl))) ?_)); obtain ⟨hi, h⟩ := h; refine zq (v_convk rfl underlying3 underlying180 hi) (zq (yae hE1) ?_); obtain ⟨hi2, h⟩ := h; refine zq (v_convk rfl underlying3 underlying180 hi2) (zn (yal rfl (am2 rfl rfl) enter_194 ((ynU h (yaN _)).mono ?_))); rintro _ w3 ⟨r, r2, rfl, hC, h⟩; replace hS := hS.pur hC.pure; clear hC; refine ⟨_, rfl, ?_⟩; refine zb (zq (zm (.tuple #[(.int .u64 r), (.int .u64 r2)])) (zq (zx (.int .u64 r)) (zq (zx (.int .u64 r2)) (zq (za (.int .u64 r)) (zq (za (.int .u64 r2)) (yaa (yaf (yaf ?_)))))))); obtain ⟨J3, hJ, h⟩ := h; refine ycZ (fun E ds w' => J3 ∧ ds = [] ∧ E 0 = (Value.slice Ax lx cx) ∧ E 6 = (Value.int .u64 r2) ∧ Sep w no O w' (rl [Res.ro (FP.sl (fP (fI .i64) fB).cod Ax lx cx x)])) ?_ ?_
    · clear h hS; rintro E ds w4 ⟨h, rfl, hE0, hE6, hS⟩; replace h := hJ h; refine zs (zq (yae hE6) ?_); obtain ⟨hi3, h⟩ := h; refine zq (v_conv rfl underlying180 underlying3 hi3) ?_; obtain ⟨hx, h⟩ := h; refine zn (n_makek rfl rfl underlying89 ynq (by decide) hx ?_); intro g w5 hN; replace hS := hS.litf 1 rfl (fP (fI .i64) fB) hN (List.replicate r2.toNat ((0 : Int), false)) (n := r2.toNat) (by simp) (by omega) (madeCells_flat (f := (fP (fI .i64) fB)) (z := #[(ii 0), (.bool (false))]) (x := ((0 : Int), false)) rfl r2.toNat); clear hN; refine zb (zq (za (.slice (some ⟨g, 0, none⟩) r2.toNat r2.toNat)) (yaa (zs (zq (zm (.slice (some ⟨g, 0, none⟩) r2.toNat r2.toNat)) (zq (yae hE0) ?_))))); obtain ⟨hx2, h⟩ := h; obtain ⟨hx3, h⟩ := h; refine zn (n_cpyk (f := (fP (fI .i64) fB)) (lo := 0) (by first | exact rfl | exact cpy_at rfl) rfl underlying89 ynq hS 1 rfl (hS.rdr 0 rfl) hx2 hx3 ?_); clear hS; intro w6 hS; refine zb (zq (za (ii ((min x.length ((List.replicate r2.toNat ((0 : Int), false)).length - 0) : Nat) : Int))) (yaa (yaf (yak ?_)))); obtain ⟨I2, ⟨m0, h0⟩, hr⟩ := h; refine yaO (fun m E ds w' => ∃ n newslice, I2 m n newslice ∧ ds = [] ∧ E 7 = (Value.slice (some ⟨g, 0, none⟩) r2.toNat r2.toNat) ∧ E 8 = (ii n) ∧ Sep w no O w' (rl [Res.own (fP (fI .i64) fB).cod 142 (some ⟨g, 0, none⟩) r2.toNat r2.toNat newslice])) m0 ⟨_, _, h0, rfl, rfl, rfl, (hS.sel [1] (by decide))⟩ ?_; clear h0 hS; rintro m2 E ds w7 ⟨n, newslice, h, rfl, hE7, hE8, hS⟩ again; replace h := hr m2 n newslice h; clear hr; refine yaf (zs (zq (yae hE8) (zq (yae hE7) (zq (ybc (n := newslice.length) rfl underlying89 (ya2 (hS.rdo 0 rfl))) (zq zL (yaa ?_)))))); by_cases hp : n < ((newslice.length : Nat) : Int)
      · replace h := h.1 hp; refine zc hp (yag (yak (ybt [0, 1, 2, 3, 4, 5, 6, 7, 8, 9] (fun i => match i with | 7 => [0] | _ => []) yaQ (by kernel_rfl) (by kernel_rfl) ?_))); replace hS := hS.drew; refine zp (yae hE8) (zp (yae hE7) (zp (yae hE8) ?_)); obtain ⟨hx4, h⟩ := h; refine zp (ynF rfl rfl underlying89 ynq (by rw [ya2 (hS.rdo 0 rfl)]; exact hx4)) (zp (yae hE7) (zp (yae hE8) (zp (ynH rfl rfl underlying89 ynq (le_cap (hS.rdo 0 rfl) hx4)) ?_))); obtain ⟨hx5, h⟩ := h; obtain ⟨hx6, h⟩ := h; refine rp_n rfl rfl rfl rfl (n_cpyk (f := (fP (fI .i64) fB)) (lo := n.toNat) (by first | exact rfl | exact cpy_at rfl) rfl underlying89 ynq hS 0 rfl (sl_take (hS.rdo 0 rfl) hx4) hx5 hx6 ?_); clear hS; intro w8 hS; refine ⟨⟨fun hh => Bool.noConfusion (show false = true from hh), ⟨fun hh => Bool.noConfusion (show false = true from hh), ⟨fun hh => Bool.noConfusion (show false = true from hh), ⟨fun hh => Bool.noConfusion (show false = true from hh), ⟨fun hh => Bool.noConfusion (show false = true from hh), ⟨fun hh => Bool.noConfusion (show false = true from hh), ⟨fun _ => (yae hE8), trivial⟩⟩⟩⟩⟩⟩⟩, ?_⟩; obtain ⟨hi4, h⟩ := h; refine zp (zA hi4) (zp (za (ii (n + ((min (newslice.take n.toNat).length (newslice.length - n.toNat) : Nat) : Int)))) (yb4 (yai ?_))); obtain ⟨mq, hlt, h⟩ := h; exact again mq _ _ _ ⟨_, _, h, rfl, hE7, rfl, (hS.sel [0] (by decide))⟩ hlt
      · replace h := h.2 hp; exact zd hp (yaH rfl (zs (zq (yae hE7) (zq (za (.slice (some ⟨g, 0, none⟩) r2.toNat r2.toNat)) (yaa (yah rfl rfl ⟨_, _, _, _, rfl, (hS.sel [0] (by decide)), h⟩))))))
    clear hJ; intro j2; refine zr (zq (zm (.int .u64 r)) (zq zG (zq (zm (.bool (decide (0 < r)))) ?_))); by_cases hp2 : 0 < r
    · replace h := h.1 hp2; exact rl_p (yab rfl (yac rfl (congrArg Value.bool (decide_eq_true hp2))) rfl) rfl (rl_p (yab rfl (yac rfl (congrArg Value.bool (decide_eq_true hp2))) rfl) rfl (zq (yao (v := (.bool (true))) (congrArg Value.bool (decide_eq_true hp2)) rfl) (yaa (yaq rfl (zr h.elim)))))
    · replace h := h.2 hp2; refine rl_q (yad rfl (yac rfl (congrArg Value.bool (decide_eq_false hp2)))) rfl rfl (zm (.int .u64 r2)) (rl_q (yad rfl (yac rfl (congrArg Value.bool (decide_eq_false hp2)))) rfl rfl zG (zq (yap (v := (.bool (decide (9223372036854775807 < r2)))) (congrArg Value.bool (decide_eq_false hp2)) rfl) (yaa ?_))); by_cases hp3 : 9223372036854775807 < r2
      · replace h := h.1 hp3; exact zc hp3 (zr h.elim)
      · replace h := h.2 hp3; exact zd hp3 (yag (j2 _ _ _ ⟨h, rfl, hE0, rfl, (hS.sel [0] (by decide))⟩))
  clear hJ; intro j; by_cases hp4 : count < 0
  · replace h := h.1 hp4; exact zc hp4 (zr h.elim)
  · replace h := h.2 hp4; exact zd hp4 (yag (j _ _ _ ⟨h, rfl, rfl, rfl, (hS.sel [0] (by decide))⟩))
def ymu (g : Int) (g2 : List E3) (vertices : List Int) (R : Int → Prop) : Prop :=
yh4 g g2 (fun r =>
((r = 0 →
(∃ I2 : Nat → Int → Prop, (∃ m0, I2 m0 0) ∧ ∀ m2 v, I2 m2 v → 
((v < ((vertices.length : Nat) : Int) →
((0 ≤ v ∧ v < ((vertices.length : Nat) : Int)) ∧
yhU g (gi vertices v.toNat) (fun r2 =>
((r2 = true →
(In64 (v + 1) ∧
∃ m3, m3 < m2 ∧ I2 m3 (v + 1))) ∧
(¬ (r2 = true) →
R 2))))) ∧
(¬ (v < ((vertices.length : Nat) : Int)) →
R 0)))) ∧
(¬ (r = 0) →
R r)))
theorem pok_graph_at {O : Nat → Prop} {w : World} {g g2 vertices Ag lg cg Avertices lvertices cvertices} {R : Int → Prop} (h : ymu g g2 vertices R) (hO : ∀ k, O k → k < w.heap.size) (hA0 : (FP.sl c3 Ag lg cg g2).P O w) (hA1 : (FP.sl cI Avertices lvertices cvertices vertices).P O w) :
    Calls Tryz.prog 231 #[(.agg #[(ii g), (.slice Ag lg cg)]), (.slice Avertices lvertices cvertices)] w fun e w' => ∃ r3, e = .returned (ii r3) ∧ Sep w no O w' (rl []) ∧ R r3 := by
  unfold ymu at h; have hS : Sep w no O w (rl [Res.ro (FP.sl c3 Ag lg cg g2), Res.ro (FP.sl cI Avertices lvertices cvertices vertices)]) := Sep.startl hO [(FP.sl c3 Ag lg cg g2), (FP.sl cI Avertices lvertices cvertices vertices)] ⟨hA0, hA1, trivial⟩; refine yan (l := [(.agg #[(ii g), (.slice Ag lg cg)]), (.slice Avertices lvertices cvertices)]) func231 rfl ntmps231 (Nat.le_of_ble_eq_true rfl) (zs (zn (yb6 (v := (.agg #[(ii g), (.slice Ag lg cg)])) rfl ?_))); intro g3 w2 hN; replace hS : Sep w no O w2 (stl _ 2 (Res.box 24 g3 [(ii g), (.slice Ag lg cg)])) := hS.new 2 rfl hN; clear hN; refine zb (zq (za (ii 0)) (yaa (yaf (zs (zq (yav (vs := [(ii g), (.slice Ag lg cg)]) rfl underlying24 rfl yas ⟨Row.cell (hS.bx 2 rfl) (i := 0) rfl, Row.cell (hS.bx 2 rfl) (i := 1) rfl, trivial⟩) (zn (yal rfl (am1 rfl) ynf ((yiV h (yaN _) (hS.rdr 0 rfl)).mono ?_)))))))); rintro _ w3 ⟨r, rfl, hC, h⟩; replace hS := hS.pur hC.pure; clear hC; refine ⟨_, rfl, ?_⟩; refine zb (zq (za (ii r)) (yaa (zs (zq (zm (ii r)) (zq zN (yaa ?_)))))); by_cases hp : r = 0
  · replace h := h.1 hp; refine ze hp (yag (yaf (zs (zq (zm (.slice Avertices lvertices cvertices)) (zq (ybc (n := vertices.length) rfl underlying25 (ya2 (hS.rdr 1 rfl))) (zq (zm (ii 0)) (yaa (yak ?_)))))))); obtain ⟨I2, ⟨m0, h0⟩, hr⟩ := h; refine yaO (fun m E ds w' => ∃ v, I2 m v ∧ ds = [] ∧ E 2 = (Value.pointer (some (⟨g3, 0, none⟩ : Addr))) ∧ E 13 = (Value.slice Avertices lvertices cvertices) ∧ E 14 = (ii ((vertices.length : Nat) : Int)) ∧ E 15 = (ii v) ∧ Sep w no O w' (rl [Res.box 24 g3 [(ii g), (.slice Ag lg cg)], Res.ro (FP.sl c3 Ag lg cg g2), Res.ro (FP.sl cI Avertices lvertices cvertices vertices)])) m0 ⟨_, h0, rfl, rfl, rfl, rfl, rfl, (hS.sel [2, 0, 1] (by decide))⟩ ?_; clear h0 hS; rintro m2 E ds w4 ⟨v, h, rfl, hE2, hE13, hE14, hE15, hS⟩ again; replace h := hr m2 v h; clear hr; refine zs (zq (yd4 hE15 hE14) (yaa (yaf ?_))); by_cases hp2 : v < ((vertices.length : Nat) : Int)
    · replace h := h.1 hp2; refine zc hp2 (yag (yaf (yak (zs ?_)))); obtain ⟨hx, h⟩ := h; refine zq (yeK hE13 hE15 underlying25 yaj (ybh (hS.rdr 2 rfl) hx)) (zq (yaA (v := (ii (gi vertices v.toNat))) rfl underlying3 rfl (rd_1 (hS.rdr 2 rfl) hx (fun q => ybs q) rfl)) ?_); refine zq (za (ii (gi vertices v.toNat))) (yaa (zs (zq (yam hE2 underlying24 rfl yaj) (zq (zl underlying3 (Row.cell (hS.bx 0 rfl) (i := 0) rfl)) (zq (zm (ii (gi vertices v.toNat))) (zn (yal rfl (am2 rfl rfl) ync ((yis h (yaN _)).mono ?_)))))))); rintro _ w5 ⟨r2, rfl, hC, h⟩; replace hS := hS.pur hC.pure; clear hC; refine ⟨_, rfl, ?_⟩; refine zb (zq (ydn rfl) (yaa ?_)); by_cases hp3 : r2 = true
      · replace h := h.1 hp3; refine yax (congrArg Value.bool (congrArg Bool.not hp3)) (yag (yai (zr ?_))); obtain ⟨hi, h⟩ := h; refine zq (ycv hE15 rfl hi) (zq (zm (ii (v + 1))) (yaa ?_)); obtain ⟨mq, hlt, h⟩ := h; exact again mq _ _ _ ⟨_, h, rfl, hE2, hE13, hE14, rfl, (hS.sel [0, 1, 2] (by decide))⟩ hlt
      · replace h := h.2 hp3; exact yaq (congrArg Value.bool (congrArg Bool.not (Bool.eq_false_iff.2 hp3))) (zs (zq (za (ii 2)) (yaa (yah rfl rfl ⟨_, rfl, (hS.sel [] (by decide)), h⟩))))
    · replace h := h.2 hp2; exact zd hp2 (yaH rfl (zs (zq (za (ii 0)) (yaa (yah rfl rfl ⟨_, rfl, (hS.sel [] (by decide)), h⟩)))))
  · replace h := h.2 hp; exact zf hp (zs (zq (zm (ii r)) (zq (za (ii r)) (yaa (yah rfl rfl ⟨_, rfl, (hS.sel [] (by decide)), h⟩)))))
def ylQ (g : Int) (g2 : List E3) (v : Int) (R : Int → Int → Prop) : Prop :=
ymu g g2 ([v]) (fun r =>
((r = 0 →
(∃ I2 : Nat → Int → Int → Prop, (∃ m0, I2 m0 0 0) ∧ ∀ m2 n v2, I2 m2 n v2 → 
((v2 < ((g2.length : Nat) : Int) →
((0 ≤ v2 ∧ v2 < ((g2.length : Nat) : Int)) ∧
((((ge g2 v2.toNat).1) = ((ge g2 v2.toNat).2.1) →
(In64 (v2 + 1) ∧
∃ m3, m3 < m2 ∧ I2 m3 n (v2 + 1))) ∧
(¬ (((ge g2 v2.toNat).1) = ((ge g2 v2.toNat).2.1)) →
((((ge g2 v2.toNat).1) = v →
(In64 (n + ((ge g2 v2.toNat).2.2)) ∧
(In64 (v2 + 1) ∧
∃ m4, m4 < m2 ∧ I2 m4 (n + ((ge g2 v2.toNat).2.2)) (v2 + 1)))) ∧
(¬ (((ge g2 v2.toNat).1) = v) →
((((ge g2 v2.toNat).2.1) = v →
(In64 (n + ((ge g2 v2.toNat).2.2)) ∧
(In64 (v2 + 1) ∧
∃ m5, m5 < m2 ∧ I2 m5 (n + ((ge g2 v2.toNat).2.2)) (v2 + 1)))) ∧
(¬ (((ge g2 v2.toNat).2.1) = v) →
(In64 (v2 + 1) ∧
∃ m6, m6 < m2 ∧ I2 m6 n (v2 + 1)))))))))) ∧
(¬ (v2 < ((g2.length : Nat) : Int)) →
R n 0)))) ∧
(¬ (r = 0) →
R 0 r)))
theorem ymq {O : Nat → Prop} {w : World} {g g2 v Ag lg cg} {R : Int → Int → Prop} (h : ylQ g g2 v R) (hO : ∀ k, O k → k < w.heap.size) (hA0 : (FP.sl c3 Ag lg cg g2).P O w) :
    Calls Tryz.prog 187 #[(.agg #[(ii g), (.slice Ag lg cg)]), (ii v)] w fun e w' => ∃ r2 r3, e = .returned (.tuple #[(ii r2), (ii r3)]) ∧ Sep w no O w' (rl []) ∧ R r2 r3 := by
  unfold ylQ at h; have hS : Sep w no O w (rl [Res.ro (FP.sl c3 Ag lg cg g2)]) := Sep.startl hO [(FP.sl c3 Ag lg cg g2)] ⟨hA0, trivial⟩; refine yan (l := [(.agg #[(ii g), (.slice Ag lg cg)]), (ii v)]) func187 rfl ntmps187 (Nat.le_of_ble_eq_true rfl) (zs (zn (yb6 (v := (.agg #[(ii g), (.slice Ag lg cg)])) rfl ?_))); intro g3 w2 hN; replace hS : Sep w no O w2 (stl _ 1 (Res.box 24 g3 [(ii g), (.slice Ag lg cg)])) := hS.new 1 rfl hN; clear hN; refine zb (zq (za (ii 0)) (zq (za (ii 0)) (yaa (yaf (zs (zq (yav (vs := [(ii g), (.slice Ag lg cg)]) rfl underlying24 rfl yas ⟨Row.cell (hS.bx 1 rfl) (i := 0) rfl, Row.cell (hS.bx 1 rfl) (i := 1) rfl, trivial⟩) (zq (zm (ii v)) (zn (yaR (l := [(0, (ii v))]) (cells := [(ii v)]) (bp1 rfl) underlying25 yaj rfl rfl ?_))))))))); intro g4 w3 hN; replace hS := hS.litf (n := 1) 2 rfl (fI .i64) hN ([v] : List Int) rfl (by decide) rfl; clear hN; refine zb (zn (yal rfl (am2 rfl rfl) enter_231 ((pok_graph_at h (yaN _) (hS.rdr 0 rfl) (hS.rdo 2 rfl)).mono ?_))); rintro _ w4 ⟨r, rfl, hC, h⟩; replace hS := hS.pur hC.pure; clear hC; refine ⟨_, rfl, ?_⟩; refine zb (zq (za (ii r)) (yaa (zs (zq (zm (ii r)) (zq zN (yaa ?_)))))); by_cases hp : r = 0
  · replace h := h.1 hp; refine ze hp (yag (zs (zq (za (ii 0)) (yaa (yaf (zs (zq (yam rfl underlying24 rfl ydy) (zq (zl underlying22 (Row.cell (hS.bx 1 rfl) (i := 1) rfl)) (zq (ybc (n := g2.length) rfl underlying22 (ya2 (hS.rdr 0 rfl))) (zq (zm (ii 0)) (yaa (yak ?_)))))))))))); obtain ⟨I2, ⟨m0, h0⟩, hr⟩ := h; refine yaO (fun m E ds w' => ∃ n v2, I2 m n v2 ∧ ds = [] ∧ E 1 = (ii v) ∧ E 7 = (ii n) ∧ E 18 = (Value.slice Ag lg cg) ∧ E 19 = (ii ((g2.length : Nat) : Int)) ∧ E 20 = (ii v2) ∧ Sep w no O w' (rl [Res.ro (FP.sl c3 Ag lg cg g2)])) m0 ⟨_, _, h0, rfl, rfl, rfl, rfl, rfl, rfl, (hS.sel [0] (by decide))⟩ ?_; clear h0 hS; rintro m2 E ds w5 ⟨n, v2, h, rfl, hE1, hE7, hE18, hE19, hE20, hS⟩ again; replace h := hr m2 n v2 h; clear hr; refine zs (zq (yd4 hE20 hE19) (yaa (yaf ?_))); by_cases hp2 : v2 < ((g2.length : Nat) : Int)
    · replace h := h.1 hp2; refine zc hp2 (yag (yaf (yak (zs ?_)))); obtain ⟨hx, h⟩ := h; refine zq (yeK hE18 hE20 underlying22 ybf (ybh (hS.rdr 0 rfl) hx)) (zq (yav (vs := [(ii ((ge g2 v2.toNat).1)), (ii ((ge g2 v2.toNat).2.1)), (ii ((ge g2 v2.toNat).2.2))]) rfl underlying95 rfl ybf (yn2 (hS.rdr 0 rfl) hx (fun q => yd6 q))) ?_); refine zn (ybJ ybf ?_); intro g5 w6 hN; replace hS : Sep w no O w6 (stl _ 1 (Res.box 95 g5 [(ii 0), (ii 0), (ii 0)])) := hS.new 1 rfl hN; clear hN; refine zb (zo (yeb (b := g5) (o := 0) (cells := #[(ii ((ge g2 v2.toNat).1)), (ii ((ge g2 v2.toNat).2.1)), (ii ((ge g2 v2.toNat).2.2))]) rfl rfl ybf rfl rfl (yc7 (hS.bx 1 rfl) (Nat.le_of_ble_eq_true rfl)) ?_)); intro w7 e1; replace hS := hS.bstn 1 rfl 0 [(ii ((ge g2 v2.toNat).1)), (ii ((ge g2 v2.toNat).2.1)), (ii ((ge g2 v2.toNat).2.2))] e1; clear e1; refine zb (yaa (zs (zq (yam rfl underlying95 rfl yaj) (zq (zl underlying3 (Row.cell (hS.bx 1 rfl) (i := 0) rfl)) (zq (yam rfl underlying95 rfl yaj) (zq (zl underlying3 (Row.cell (hS.bx 1 rfl) (i := 1) rfl)) (zq zN (zq (zm (.bool (!(decide (((ge g2 v2.toNat).1) = ((ge g2 v2.toNat).2.1)))))) ?_)))))))); by_cases hp3 : ((ge g2 v2.toNat).1) = ((ge g2 v2.toNat).2.1)
      · replace h := h.1 hp3; refine rl_p (yab rfl (yac rfl (congrArg Value.bool (congrArg Bool.not (decide_eq_true hp3)))) rfl) rfl (rl_p (yab rfl (yac rfl (congrArg Value.bool (congrArg Bool.not (decide_eq_true hp3)))) rfl) rfl (rl_p (yab rfl (yac rfl (congrArg Value.bool (congrArg Bool.not (decide_eq_true hp3)))) rfl) rfl (rl_p (yab rfl (yac rfl (congrArg Value.bool (congrArg Bool.not (decide_eq_true hp3)))) rfl) rfl (rl_p (yab rfl (yac rfl (congrArg Value.bool (congrArg Bool.not (decide_eq_true hp3)))) rfl) rfl (rl_p (yaB rfl rfl) rfl (rl_p (yaB rfl rfl) rfl (rl_p (yaB rfl rfl) rfl (rl_p (yaB rfl rfl) rfl (rl_p (yab rfl (yac rfl (congrArg Value.bool (congrArg Bool.not (decide_eq_true hp3)))) rfl) rfl (zq (yap (v := (.bool (false))) (congrArg Value.bool (congrArg Bool.not (decide_eq_true hp3))) rfl) (yaa (yax rfl (yag (yai (zr ?_))))))))))))))); obtain ⟨hi, h⟩ := h; refine zq (ycv hE20 rfl hi) (zq (zm (ii (v2 + 1))) (yaa ?_)); obtain ⟨mq, hlt, h⟩ := h; exact again mq _ _ _ ⟨_, _, h, rfl, hE1, hE7, hE18, hE19, rfl, (hS.sel [0] (by decide))⟩ hlt
      · replace h := h.2 hp3; refine rl_q (yad rfl (yac rfl (congrArg Value.bool (congrArg Bool.not (decide_eq_false hp3))))) rfl rfl (yam rfl underlying95 rfl yaj) (rl_q (yad rfl (yac rfl (congrArg Value.bool (congrArg Bool.not (decide_eq_false hp3))))) rfl rfl (zl underlying3 (Row.cell (hS.bx 1 rfl) (i := 0) rfl)) (rl_q (yad rfl (yac rfl (congrArg Value.bool (congrArg Bool.not (decide_eq_false hp3))))) rfl rfl (yae hE1) (rl_q (yad rfl (yac rfl (congrArg Value.bool (congrArg Bool.not (decide_eq_false hp3))))) rfl rfl zE (rl_q (yad rfl (yac rfl (congrArg Value.bool (congrArg Bool.not (decide_eq_false hp3))))) rfl rfl (zm (.bool (decide (((ge g2 v2.toNat).1) = v)))) ?_)))); by_cases hp4 : ((ge g2 v2.toNat).1) = v
        · replace h := h.1 hp4; refine rl_p (yab rfl (yac rfl (congrArg Value.bool (decide_eq_true hp4))) rfl) rfl (rl_p (yab rfl (yac rfl (congrArg Value.bool (decide_eq_true hp4))) rfl) rfl (rl_p (yab rfl (yac rfl (congrArg Value.bool (decide_eq_true hp4))) rfl) rfl (rl_p (yab rfl (yac rfl (congrArg Value.bool (decide_eq_true hp4))) rfl) rfl (rl_q (yad rfl (yac rfl (congrArg Value.bool (congrArg Bool.not (decide_eq_false hp3))))) rfl rfl (yao (v := (.bool (true))) (congrArg Value.bool (decide_eq_true hp4)) rfl) (zq (yao (v := (.bool (true))) (congrArg Value.bool (congrArg Bool.not (decide_eq_false hp3))) rfl) (yaa (yaq rfl (zr (zq (yae hE7) (zq (yam rfl underlying95 rfl yaj) (zq (zl underlying3 (Row.cell (hS.bx 1 rfl) (i := 2) rfl)) ?_))))))))))); obtain ⟨hi2, h⟩ := h; refine zq (zA hi2) (zq (za (ii (n + ((ge g2 v2.toNat).2.2)))) (yaa (yai (zr ?_)))); obtain ⟨hi3, h⟩ := h; refine zq (ycv hE20 rfl hi3) (zq (zm (ii (v2 + 1))) (yaa ?_)); obtain ⟨mq, hlt, h⟩ := h; exact again mq _ _ _ ⟨_, _, h, rfl, hE1, rfl, hE18, hE19, rfl, (hS.sel [0] (by decide))⟩ hlt
        · replace h := h.2 hp4; refine rl_q (yad rfl (yac rfl (congrArg Value.bool (decide_eq_false hp4)))) rfl rfl (yam rfl underlying95 rfl yaj) (rl_q (yad rfl (yac rfl (congrArg Value.bool (decide_eq_false hp4)))) rfl rfl (zl underlying3 (Row.cell (hS.bx 1 rfl) (i := 1) rfl)) (rl_q (yad rfl (yac rfl (congrArg Value.bool (decide_eq_false hp4)))) rfl rfl (yae hE1) (rl_q (yad rfl (yac rfl (congrArg Value.bool (decide_eq_false hp4)))) rfl rfl zE (rl_q (yad rfl (yac rfl (congrArg Value.bool (congrArg Bool.not (decide_eq_false hp3))))) rfl rfl (yap (v := (.bool (decide (((ge g2 v2.toNat).2.1) = v)))) (congrArg Value.bool (decide_eq_false hp4)) rfl) (zq (yao (v := (.bool (decide (((ge g2 v2.toNat).2.1) = v)))) (congrArg Value.bool (congrArg Bool.not (decide_eq_false hp3))) rfl) (yaa ?_)))))); by_cases hp5 : ((ge g2 v2.toNat).2.1) = v
          · replace h := h.1 hp5; refine zc hp5 (zr (zq (yae hE7) (zq (yam rfl underlying95 rfl yaj) (zq (zl underlying3 (Row.cell (hS.bx 1 rfl) (i := 2) rfl)) ?_)))); obtain ⟨hi4, h⟩ := h; refine zq (zA hi4) (zq (za (ii (n + ((ge g2 v2.toNat).2.2)))) (yaa (yai (zr ?_)))); obtain ⟨hi5, h⟩ := h; refine zq (ycv hE20 rfl hi5) (zq (zm (ii (v2 + 1))) (yaa ?_)); obtain ⟨mq, hlt, h⟩ := h; exact again mq _ _ _ ⟨_, _, h, rfl, hE1, rfl, hE18, hE19, rfl, (hS.sel [0] (by decide))⟩ hlt
          · replace h := h.2 hp5; refine zd hp5 (yag (yai (zr ?_))); obtain ⟨hi6, h⟩ := h; refine zq (ycv hE20 rfl hi6) (zq (zm (ii (v2 + 1))) (yaa ?_)); obtain ⟨mq, hlt, h⟩ := h; exact again mq _ _ _ ⟨_, _, h, rfl, hE1, hE7, hE18, hE19, rfl, (hS.sel [0] (by decide))⟩ hlt
    · replace h := h.2 hp2; exact zd hp2 (yaH rfl (zs (zq (yae hE7) (zq (za (ii n)) (zq (za (ii 0)) (yaa (ybF rfl rfl rfl ⟨_, _, rfl, (hS.sel [] (by decide)), h⟩)))))))
  · replace h := h.2 hp; exact zf hp (zs (zq (zm (ii r)) (zq (za (ii 0)) (zq (za (ii r)) (yaa (ybF rfl rfl rfl ⟨_, _, rfl, (hS.sel [] (by decide)), h⟩))))))
def ymb (d : List Int) (R : Bool → Prop) : Prop :=
(∃ I2 : Nat → Int → Prop, (∃ m0, I2 m0 0) ∧ ∀ m2 v, I2 m2 v → 
((v < ((d.length : Nat) : Int) →
((0 ≤ v ∧ v < ((d.length : Nat) : Int)) ∧
(((gi d v.toNat) < (-60) →
R false) ∧
(¬ ((gi d v.toNat) < (-60)) →
((60 < (gi d v.toNat) →
R false) ∧
(¬ (60 < (gi d v.toNat)) →
(In64 (v + 1) ∧
∃ m3, m3 < m2 ∧ I2 m3 (v + 1)))))))) ∧
(¬ (v < ((d.length : Nat) : Int)) →
R true)))
theorem pok_r17_Small {O : Nat → Prop} {w : World} {d Ad ld cd} {R : Bool → Prop} (h : ymb d R) (hO : ∀ k, O k → k < w.heap.size) (hA0 : (FP.sl cI Ad ld cd d).P O w) :
    Calls Tryz.prog 56 #[(.slice Ad ld cd)] w fun e w' => ∃ r, e = .returned (.bool (r)) ∧ Sep w no O w' (rl []) ∧ R r := by
  unfold ymb at h; have hS : Sep w no O w (rl [Res.ro (FP.sl cI Ad ld cd d)]) := Sep.startl hO [(FP.sl cI Ad ld cd d)] ⟨hA0, trivial⟩; refine yan (l := [(.slice Ad ld cd)]) func56 rfl ntmps56 (Nat.le_of_ble_eq_true rfl) (zs (zq (za (.bool (false))) (yaa (yaf (zs (zq (za (ii 0)) (yaa (yak ?_)))))))); obtain ⟨I2, ⟨m0, h0⟩, hr⟩ := h; refine yaO (fun m E ds w' => ∃ v, I2 m v ∧ ds = [] ∧ E 0 = (Value.slice Ad ld cd) ∧ E 3 = (ii v) ∧ Sep w no O w' (rl [Res.ro (FP.sl cI Ad ld cd d)])) m0 ⟨_, h0, rfl, rfl, rfl, (hS.sel [0] (by decide))⟩ ?_; clear h0 hS; rintro m2 E ds w2 ⟨v, h, rfl, hE0, hE3, hS⟩ again; replace h := hr m2 v h; clear hr; refine yaf (zs (zq (yae hE3) (zq (yae hE0) (zq (ybc (n := d.length) rfl underlying26 (ya2 (hS.rdr 0 rfl))) (zq zL (yaa ?_)))))); by_cases hp : v < ((d.length : Nat) : Int)
  · replace h := h.1 hp; refine zc hp (yag (yaf (yak (zs (zq (yae hE0) (zq (yae hE3) ?_)))))); obtain ⟨hx, h⟩ := h; refine zq (zi underlying26 yaj (ybh (hS.rdr 0 rfl) hx)) (zq (yaA (v := (ii (gi d v.toNat))) rfl underlying3 rfl (rd_1 (hS.rdr 0 rfl) hx (fun q => ybs q) rfl)) ?_); refine zq zL (zq (zm (.bool (decide ((gi d v.toNat) < (-60))))) ?_); by_cases hp2 : (gi d v.toNat) < (-60)
    · replace h := h.1 hp2; exact rl_p (yab rfl (yac rfl (congrArg Value.bool (decide_eq_true hp2))) rfl) rfl (rl_p (yab rfl (yac rfl (congrArg Value.bool (decide_eq_true hp2))) rfl) rfl (rl_p (yab rfl (yac rfl (congrArg Value.bool (decide_eq_true hp2))) rfl) rfl (rl_p (yab rfl (yac rfl (congrArg Value.bool (decide_eq_true hp2))) rfl) rfl (rl_p (yab rfl (yac rfl (congrArg Value.bool (decide_eq_true hp2))) rfl) rfl (zq (yao (v := (.bool (true))) (congrArg Value.bool (decide_eq_true hp2)) rfl) (yaa (yaq rfl (zs (zq (za (.bool (false))) (yaa (yah rfl rfl ⟨_, rfl, (hS.sel [] (by decide)), h⟩)))))))))))
    · replace h := h.2 hp2; refine rl_q (yad rfl (yac rfl (congrArg Value.bool (decide_eq_false hp2)))) rfl rfl (yae hE0) (rl_q (yad rfl (yac rfl (congrArg Value.bool (decide_eq_false hp2)))) rfl rfl (yae hE3) (rl_q (yad rfl (yac rfl (congrArg Value.bool (decide_eq_false hp2)))) rfl rfl (zi underlying26 yaj (ybh (hS.rdr 0 rfl) hx)) (rl_q (yad rfl (yac rfl (congrArg Value.bool (decide_eq_false hp2)))) rfl rfl (yaA (v := (ii (gi d v.toNat))) rfl underlying3 rfl (rd_1 (hS.rdr 0 rfl) hx (fun q => ybs q) rfl)) ?_))); refine rl_q (yad rfl (yac rfl (congrArg Value.bool (decide_eq_false hp2)))) rfl rfl zG (zq (yap (v := (.bool (decide (60 < (gi d v.toNat))))) (congrArg Value.bool (decide_eq_false hp2)) rfl) (yaa ?_)); by_cases hp3 : 60 < (gi d v.toNat)
      · replace h := h.1 hp3; exact zc hp3 (zs (zq (za (.bool (false))) (yaa (yah rfl rfl ⟨_, rfl, (hS.sel [] (by decide)), h⟩))))
      · replace h := h.2 hp3; refine zd hp3 (yag (yai (zr (zq (yae hE3) ?_)))); obtain ⟨hi, h⟩ := h; refine zq (zA hi) (zq (za (ii (v + 1))) (yaa ?_)); obtain ⟨mq, hlt, h⟩ := h; exact again mq _ _ _ ⟨_, h, rfl, hE0, rfl, (hS.sel [0] (by decide))⟩ hlt
  · replace h := h.2 hp; exact zd hp (yaH rfl (zs (zq (za (.bool (true))) (yaa (yah rfl rfl ⟨_, rfl, (hS.sel [] (by decide)), h⟩)))))
def ymi (g : Int) (g2 : List E3) (R : Int → Prop) : Prop :=
ybO g g2 (fun r =>
((r = 0 →
ycr g g2 (fun r2 =>
((r2 = true →
R 0) ∧
(¬ (r2 = true) →
R 13)))) ∧
(¬ (r = 0) →
R r)))
theorem pok_r43_Table {O : Nat → Prop} {w : World} {g g2 Ag lg cg} {R : Int → Prop} (h : ymi g g2 R) (hO : ∀ k, O k → k < w.heap.size) (hA0 : (FP.sl c3 Ag lg cg g2).P O w) :
    Calls Tryz.prog 123 #[(.agg #[(ii g), (.slice Ag lg cg)])] w fun e w' => ∃ r3, e = .returned (ii r3) ∧ Sep w no O w' (rl []) ∧ R r3 := by
  unfold ymi at h; have hS : Sep w no O w (rl [Res.ro (FP.sl c3 Ag lg cg g2)]) := Sep.startl hO [(FP.sl c3 Ag lg cg g2)] ⟨hA0, trivial⟩; refine yan (l := [(.agg #[(ii g), (.slice Ag lg cg)])]) func123 rfl ntmps123 (Nat.le_of_ble_eq_true rfl) (zs (zn (yb6 (v := (.agg #[(ii g), (.slice Ag lg cg)])) rfl ?_))); intro g3 w2 hN; replace hS : Sep w no O w2 (stl _ 1 (Res.box 24 g3 [(ii g), (.slice Ag lg cg)])) := hS.new 1 rfl hN; clear hN; refine zb (zq (za (ii 0)) (yaa (yaf (zs (zq (yav (vs := [(ii g), (.slice Ag lg cg)]) rfl underlying24 rfl yas ⟨Row.cell (hS.bx 1 rfl) (i := 0) rfl, Row.cell (hS.bx 1 rfl) (i := 1) rfl, trivial⟩) (zn (yal rfl (am1 rfl) enter_115 ((yfw h (yaN _) (hS.rdr 0 rfl)).mono ?_)))))))); rintro _ w3 ⟨r, rfl, hC, h⟩; replace hS := hS.pur hC.pure; clear hC; refine ⟨_, rfl, ?_⟩; refine zb (zq (za (ii r)) (yaa (zs (zq (zm (ii r)) (zq zN (yaa ?_)))))); by_cases hp : r = 0
  · replace h := h.1 hp; refine ze hp (yag (yaf (zs (zq (yav (vs := [(ii g), (.slice Ag lg cg)]) rfl underlying24 rfl yas ⟨Row.cell (hS.bx 1 rfl) (i := 0) rfl, Row.cell (hS.bx 1 rfl) (i := 1) rfl, trivial⟩) (zn (yal rfl (am1 rfl) enter_116 ((yfR h (yaN _) (hS.rdr 0 rfl)).mono ?_))))))); rintro _ w4 ⟨r2, rfl, hC, h⟩; replace hS := hS.pur hC.pure; clear hC; refine ⟨_, rfl, ?_⟩; refine zb (zq (ydn rfl) (yaa ?_)); by_cases hp2 : r2 = true
    · replace h := h.1 hp2; exact yax (congrArg Value.bool (congrArg Bool.not hp2)) (yag (zs (zq (za (ii 0)) (yaa (yah rfl rfl ⟨_, rfl, (hS.sel [] (by decide)), h⟩)))))
    · replace h := h.2 hp2; exact yaq (congrArg Value.bool (congrArg Bool.not (Bool.eq_false_iff.2 hp2))) (zs (zq (za (ii 13)) (yaa (yah rfl rfl ⟨_, rfl, (hS.sel [] (by decide)), h⟩))))
  · replace h := h.2 hp; exact zf hp (zs (zq (zm (ii r)) (zq (za (ii r)) (yaa (yah rfl rfl ⟨_, rfl, (hS.sel [] (by decide)), h⟩)))))
def yl9 (g : Int) (g2 : List E3) (d : List Int) (R : Int → Prop) : Prop :=
ymi g g2 (fun r =>
((r = 0 →
ycb d g (fun r2 =>
R r2)) ∧
(¬ (r = 0) →
R r)))
theorem ynQ {O : Nat → Prop} {w : World} {g g2 d Ag lg cg Ad ld cd} {R : Int → Prop} (h : yl9 g g2 d R) (hO : ∀ k, O k → k < w.heap.size) (hA0 : (FP.sl c3 Ag lg cg g2).P O w) (hA1 : (FP.sl cI Ad ld cd d).P O w) :
    Calls Tryz.prog 55 #[(.agg #[(ii g), (.slice Ag lg cg)]), (.slice Ad ld cd)] w fun e w' => ∃ r3, e = .returned (ii r3) ∧ Sep w no O w' (rl []) ∧ R r3 := by
  unfold yl9 at h; have hS : Sep w no O w (rl [Res.ro (FP.sl c3 Ag lg cg g2), Res.ro (FP.sl cI Ad ld cd d)]) := Sep.startl hO [(FP.sl c3 Ag lg cg g2), (FP.sl cI Ad ld cd d)] ⟨hA0, hA1, trivial⟩; refine yan (l := [(.agg #[(ii g), (.slice Ag lg cg)]), (.slice Ad ld cd)]) func55 rfl ntmps55 (Nat.le_of_ble_eq_true rfl) (zs (zn (yb6 (v := (.agg #[(ii g), (.slice Ag lg cg)])) rfl ?_))); intro g3 w2 hN; replace hS : Sep w no O w2 (stl _ 2 (Res.box 24 g3 [(ii g), (.slice Ag lg cg)])) := hS.new 2 rfl hN; clear hN; refine zb (zq (za (ii 0)) (yaa (yaf (zs (zq (yav (vs := [(ii g), (.slice Ag lg cg)]) rfl underlying24 rfl yas ⟨Row.cell (hS.bx 2 rfl) (i := 0) rfl, Row.cell (hS.bx 2 rfl) (i := 1) rfl, trivial⟩) (zn (yal rfl (am1 rfl) enter_123 ((pok_r43_Table h (yaN _) (hS.rdr 0 rfl)).mono ?_)))))))); rintro _ w3 ⟨r, rfl, hC, h⟩; replace hS := hS.pur hC.pure; clear hC; refine ⟨_, rfl, ?_⟩; refine zb (zq (za (ii r)) (yaa (zs (zq (zm (ii r)) (zq zN (yaa ?_)))))); by_cases hp : r = 0
  · replace h := h.1 hp; refine ze hp (yag (zs (zq (zm (.slice Ad ld cd)) (zq (yam rfl underlying24 rfl yaj) (zq (zl underlying3 (Row.cell (hS.bx 2 rfl) (i := 0) rfl)) (zn (yal rfl (am2 rfl rfl) enter_59 ((yeh h (yaN _) (hS.rdr 1 rfl)).mono ?_)))))))); rintro _ w4 ⟨r2, rfl, hC, h⟩; replace hS := hS.pur hC.pure; clear hC; refine ⟨_, rfl, ?_⟩; exact zb (zq (za (ii r2)) (yaa (yah rfl rfl ⟨_, rfl, (hS.sel [] (by decide)), h⟩)))
  · replace h := h.2 hp; exact zf hp (zs (zq (zm (ii r)) (zq (za (ii r)) (yaa (yah rfl rfl ⟨_, rfl, (hS.sel [] (by decide)), h⟩)))))
def ymx (a : List Int) (b : List Int) (R : Bool → Prop) : Prop :=
((((a.length : Nat) : Int) = ((b.length : Nat) : Int) →
ymc a b (fun r =>
R (decide (r = 0)))) ∧
(¬ (((a.length : Nat) : Int) = ((b.length : Nat) : Int)) →
R false))
theorem pok_r17_Same {O : Nat → Prop} {w : World} {a b Aa la ca Ab lb cb} {R : Bool → Prop} (h : ymx a b R) (hO : ∀ k, O k → k < w.heap.size) (hA0 : (FP.sl cI Aa la ca a).P O w) (hA1 : (FP.sl cI Ab lb cb b).P O w) :
    Calls Tryz.prog 184 #[(.slice Aa la ca), (.slice Ab lb cb)] w fun e w' => ∃ r2, e = .returned (.bool (r2)) ∧ Sep w no O w' (rl []) ∧ R r2 := by
  unfold ymx at h; have hS : Sep w no O w (rl [Res.ro (FP.sl cI Aa la ca a), Res.ro (FP.sl cI Ab lb cb b)]) := Sep.startl hO [(FP.sl cI Aa la ca a), (FP.sl cI Ab lb cb b)] ⟨hA0, hA1, trivial⟩; refine yan (l := [(.slice Aa la ca), (.slice Ab lb cb)]) func184 rfl ntmps184 (Nat.le_of_ble_eq_true rfl) (zs (zq (za (.bool (false))) (yaa (yaf (zs (zq (zm (.slice Aa la ca)) (zq (ybc (n := a.length) rfl underlying26 (ya2 (hS.rdr 0 rfl))) (zq (zm (.slice Ab lb cb)) (zq (ybc (n := b.length) rfl underlying26 (ya2 (hS.rdr 1 rfl))) (zq zN (yaa ?_))))))))))); by_cases hp : ((a.length : Nat) : Int) = ((b.length : Nat) : Int)
  · replace h := h.1 hp; refine ze hp (yag (zs (zq (zm (.slice Aa la ca)) (zq (zm (.slice Ab lb cb)) (zn (yal rfl (am2 rfl rfl) enter_229 ((pok_r17_Order h (yaN _) (hS.rdr 0 rfl) (hS.rdr 1 rfl)).mono ?_))))))); rintro _ w2 ⟨r, rfl, hC, h⟩; replace hS := hS.pur hC.pure; clear hC; refine ⟨_, rfl, ?_⟩; exact zb (zq zE (zq (za (.bool (decide (r = 0)))) (yaa (yah rfl rfl ⟨_, rfl, (hS.sel [] (by decide)), h⟩))))
  · replace h := h.2 hp; exact zf hp (zs (zq (za (.bool (false))) (yaa (yah rfl rfl ⟨_, rfl, (hS.sel [] (by decide)), h⟩))))
def ylS (a : List Int) (b : List Int) (R : Bool → Prop) : Prop :=
ymx a b (fun r =>
R r)
theorem ymJ {O : Nat → Prop} {w : World} {a b Aa la ca Ab lb cb} {R : Bool → Prop} (h : ylS a b R) (hO : ∀ k, O k → k < w.heap.size) (hA0 : (FP.sl cI Aa la ca a).P O w) (hA1 : (FP.sl cI Ab lb cb b).P O w) :
    Calls Tryz.prog 126 #[(.slice Aa la ca), (.slice Ab lb cb)] w fun e w' => ∃ r2, e = .returned (.bool (r2)) ∧ Sep w no O w' (rl []) ∧ R r2 := by
  unfold ylS at h; have hS : Sep w no O w (rl [Res.ro (FP.sl cI Aa la ca a), Res.ro (FP.sl cI Ab lb cb b)]) := Sep.startl hO [(FP.sl cI Aa la ca a), (FP.sl cI Ab lb cb b)] ⟨hA0, hA1, trivial⟩; refine yan (l := [(.slice Aa la ca), (.slice Ab lb cb)]) func126 rfl ntmps126 (Nat.le_of_ble_eq_true rfl) (zs (zq (za (.bool (false))) (yaa (zs (zq (zm (.slice Aa la ca)) (zq (zm (.slice Ab lb cb)) (zn (yal rfl (am2 rfl rfl) enter_184 ((pok_r17_Same h (yaN _) (hS.rdr 0 rfl) (hS.rdr 1 rfl)).mono ?_))))))))); rintro _ w2 ⟨r, rfl, hC, h⟩; replace hS := hS.pur hC.pure; clear hC; refine ⟨_, rfl, ?_⟩; exact zb (zq (za (.bool (r))) (yaa (yah rfl rfl ⟨_, rfl, (hS.sel [] (by decide)), h⟩)))
def ynJ (d : List Int) (R : Bool → Prop) : Prop :=
R (decide (((d.length : Nat) : Int) ≤ 24))
theorem pok_r17_Few {O : Nat → Prop} {w : World} {d Ad ld cd} {R : Bool → Prop} (h : ynJ d R) (hO : ∀ k, O k → k < w.heap.size) (hA0 : (FP.sl cI Ad ld cd d).P O w) :
    Calls Tryz.prog 131 #[(.slice Ad ld cd)] w fun e w' => ∃ r, e = .returned (.bool (r)) ∧ Sep w no O w' (rl []) ∧ R r := by
  unfold ynJ at h; have hS : Sep w no O w (rl [Res.ro (FP.sl cI Ad ld cd d)]) := Sep.startl hO [(FP.sl cI Ad ld cd d)] ⟨hA0, trivial⟩; exact yan (l := [(.slice Ad ld cd)]) func131 rfl ntmps131 (Nat.le_of_ble_eq_true rfl) (zs (zq (za (.bool (false))) (yaa (zs (zq (zm (.slice Ad ld cd)) (zq (ybc (n := d.length) rfl underlying26 (ya2 (hS.rdr 0 rfl))) (zq (v_leq rfl rfl) (zq (za (.bool (decide (((d.length : Nat) : Int) ≤ 24)))) (yaa (yah rfl rfl ⟨_, rfl, (hS.sel [] (by decide)), h⟩))))))))))
def ynD (g : Int) (g2 : List E3) (d : List Int) (R : Bool → Prop) : Prop :=
ydr g g2 (fun r =>
((r = true →
ynJ d (fun r2 =>
((r2 = true →
ymb d (fun r3 =>
((r3 = true →
R true) ∧
(¬ (r3 = true) →
yl9 g g2 d (fun r4 =>
R (!(decide (r4 = 0)))))))) ∧
(¬ (r2 = true) →
R false)))) ∧
(¬ (r = true) →
R false)))
theorem pok_r43_Small {O : Nat → Prop} {w : World} {g g2 d Ag lg cg Ad ld cd} {R : Bool → Prop} (h : ynD g g2 d R) (hO : ∀ k, O k → k < w.heap.size) (hA0 : (FP.sl c3 Ag lg cg g2).P O w) (hA1 : (FP.sl cI Ad ld cd d).P O w) :
    Calls Tryz.prog 63 #[(.agg #[(ii g), (.slice Ag lg cg)]), (.slice Ad ld cd)] w fun e w' => ∃ r5, e = .returned (.bool (r5)) ∧ Sep w no O w' (rl []) ∧ R r5 := by
  unfold ynD at h; have hS : Sep w no O w (rl [Res.ro (FP.sl c3 Ag lg cg g2), Res.ro (FP.sl cI Ad ld cd d)]) := Sep.startl hO [(FP.sl c3 Ag lg cg g2), (FP.sl cI Ad ld cd d)] ⟨hA0, hA1, trivial⟩; refine yan (l := [(.agg #[(ii g), (.slice Ag lg cg)]), (.slice Ad ld cd)]) func63 rfl ntmps63 (Nat.le_of_ble_eq_true rfl) (zs (zn (yb6 (v := (.agg #[(ii g), (.slice Ag lg cg)])) rfl ?_))); intro g3 w2 hN; replace hS : Sep w no O w2 (stl _ 2 (Res.box 24 g3 [(ii g), (.slice Ag lg cg)])) := hS.new 2 rfl hN; clear hN; refine zb (zq (za (.bool (false))) (yaa (zs (zq (yav (vs := [(ii g), (.slice Ag lg cg)]) rfl underlying24 rfl yas ⟨Row.cell (hS.bx 2 rfl) (i := 0) rfl, Row.cell (hS.bx 2 rfl) (i := 1) rfl, trivial⟩) (zn (yal rfl (am1 rfl) enter_51 ((ygo h (yaN _) (hS.rdr 0 rfl)).mono ?_))))))); rintro _ w3 ⟨r, rfl, hC, h⟩; replace hS := hS.pur hC.pure; clear hC; refine ⟨_, rfl, ?_⟩; refine zb (zq (zm (.bool (r))) ?_); by_cases hp : r = true
  · replace h := h.1 hp; refine rl_q (yad rfl (yac rfl (congrArg Value.bool hp))) rfl rfl (zm (.slice Ad ld cd)) (rl_n (yad rfl (yac rfl (congrArg Value.bool hp))) rfl rfl rfl (yal rfl (am1 rfl) enter_131 ((pok_r17_Few h (yaN _) (hS.rdr 1 rfl)).mono ?_))); rintro _ w4 ⟨r2, rfl, hC, h⟩; replace hS := hS.pur hC.pure; clear hC; refine ⟨_, rfl, ?_⟩; refine zb (zq (yao (v := (.bool (r2))) (congrArg Value.bool hp) rfl) (zq (zm (.bool (r2))) ?_)); by_cases hp2 : r2 = true
    · replace h := h.1 hp2; refine rl_q (yad rfl (yac rfl (congrArg Value.bool hp2))) rfl rfl (zm (.slice Ad ld cd)) (rl_n (yad rfl (yac rfl (congrArg Value.bool hp2))) rfl rfl rfl (yal rfl (am1 rfl) enter_56 ((pok_r17_Small h (yaN _) (hS.rdr 1 rfl)).mono ?_))); rintro _ w5 ⟨r3, rfl, hC, h⟩; replace hS := hS.pur hC.pure; clear hC; refine ⟨_, rfl, ?_⟩; refine zb (rl_q (yad rfl (yac rfl (congrArg Value.bool hp2))) rfl rfl (zm (.bool (r3))) ?_); by_cases hp3 : r3 = true
      · replace h := h.1 hp3; exact rl_p (yab rfl (yac rfl (congrArg Value.bool hp3)) rfl) rfl (rl_p (yab rfl (yac rfl (congrArg Value.bool hp3)) rfl) rfl (rl_p (yab rfl (yac rfl (congrArg Value.bool hp3)) rfl) rfl (rl_p (yab rfl (yac rfl (congrArg Value.bool hp3)) rfl) rfl (rl_q (yad rfl (yac rfl (congrArg Value.bool hp2))) rfl rfl (yao (v := (.bool (true))) (congrArg Value.bool hp3) rfl) (zq (yao (v := (.bool (true))) (congrArg Value.bool hp2) rfl) (zq (za (.bool (true))) (yaa (yah rfl rfl ⟨_, rfl, (hS.sel [] (by decide)), h⟩))))))))
      · replace h := h.2 hp3; refine rl_q (yad rfl (yac rfl (congrArg Value.bool (Bool.eq_false_iff.2 hp3)))) rfl rfl (yav (vs := [(ii g), (.slice Ag lg cg)]) rfl underlying24 rfl yas ⟨Row.cell (hS.bx 2 rfl) (i := 0) rfl, Row.cell (hS.bx 2 rfl) (i := 1) rfl, trivial⟩) (rl_q (yad rfl (yac rfl (congrArg Value.bool (Bool.eq_false_iff.2 hp3)))) rfl rfl (zm (.slice Ad ld cd)) (rl_n (yad rfl (yac rfl (congrArg Value.bool (Bool.eq_false_iff.2 hp3)))) rfl rfl rfl (yal rfl (am2 rfl rfl) enter_55 ((ynQ h (yaN _) (hS.rdr 0 rfl) (hS.rdr 1 rfl)).mono ?_)))); rintro _ w6 ⟨r4, rfl, hC, h⟩; replace hS := hS.pur hC.pure; clear hC; refine ⟨_, rfl, ?_⟩; exact zb (rl_q (yad rfl (yac rfl (congrArg Value.bool (Bool.eq_false_iff.2 hp3)))) rfl rfl zN (rl_q (yad rfl (yac rfl (congrArg Value.bool hp2))) rfl rfl (yap (v := (.bool (!(decide (r4 = 0))))) (congrArg Value.bool (Bool.eq_false_iff.2 hp3)) rfl) (zq (yao (v := (.bool (!(decide (r4 = 0))))) (congrArg Value.bool hp2) rfl) (zq (za (.bool (!(decide (r4 = 0))))) (yaa (yah rfl rfl ⟨_, rfl, (hS.sel [] (by decide)), h⟩))))))
    · replace h := h.2 hp2; exact rl_p (yab rfl (yac rfl (congrArg Value.bool (Bool.eq_false_iff.2 hp2))) rfl) rfl (rl_p (yab rfl (yac rfl (congrArg Value.bool (Bool.eq_false_iff.2 hp2))) rfl) rfl (rl_p (yab rfl (yac rfl (congrArg Value.bool (Bool.eq_false_iff.2 hp2))) rfl) rfl (rl_p (yaB rfl rfl) rfl (rl_p (yaB rfl rfl) rfl (rl_p (yaB rfl rfl) rfl (rl_p (yaB rfl rfl) rfl (rl_p (yab rfl (yac rfl (congrArg Value.bool (Bool.eq_false_iff.2 hp2))) rfl) rfl (zq (yap (v := (.bool (false))) (congrArg Value.bool (Bool.eq_false_iff.2 hp2)) rfl) (zq (za (.bool (false))) (yaa (yah rfl rfl ⟨_, rfl, (hS.sel [] (by decide)), h⟩)))))))))))
  · replace h := h.2 hp; exact rl_p (yab rfl (yac rfl (congrArg Value.bool (Bool.eq_false_iff.2 hp))) rfl) rfl (rl_p (yab rfl (yac rfl (congrArg Value.bool (Bool.eq_false_iff.2 hp))) rfl) rfl (zq (yap (v := (.bool (false))) (congrArg Value.bool (Bool.eq_false_iff.2 hp)) rfl) (zq (zm (.bool (false))) (rl_p (yab rfl (yac rfl rfl) rfl) rfl (rl_p (yab rfl (yac rfl rfl) rfl) rfl (rl_p (yab rfl (yac rfl rfl) rfl) rfl (rl_p (yaB rfl rfl) rfl (rl_p (yaB rfl rfl) rfl (rl_p (yaB rfl rfl) rfl (rl_p (yaB rfl rfl) rfl (rl_p (yab rfl (yac rfl rfl) rfl) rfl (zq (yap (v := (.bool (false))) rfl rfl) (zq (za (.bool (false))) (yaa (yah rfl rfl ⟨_, rfl, (hS.sel [] (by decide)), h⟩)))))))))))))))
def ylX (g : Int) (g2 : List E3) (R : Int → Prop) : Prop :=
yco g g2 (fun r r2 =>
((r2 = 0 →
((r = true →
R 0) ∧
(¬ (r = true) →
R 13))) ∧
(¬ (r2 = 0) →
R r2)))
theorem ym0 {O : Nat → Prop} {w : World} {g g2 Ag lg cg} {R : Int → Prop} (h : ylX g g2 R) (hO : ∀ k, O k → k < w.heap.size) (hA0 : (FP.sl c3 Ag lg cg g2).P O w) :
    Calls Tryz.prog 186 #[(.agg #[(ii g), (.slice Ag lg cg)])] w fun e w' => ∃ r3, e = .returned (ii r3) ∧ Sep w no O w' (rl []) ∧ R r3 := by
  unfold ylX at h; have hS : Sep w no O w (rl [Res.ro (FP.sl c3 Ag lg cg g2)]) := Sep.startl hO [(FP.sl c3 Ag lg cg g2)] ⟨hA0, trivial⟩; refine yan (l := [(.agg #[(ii g), (.slice Ag lg cg)])]) func186 rfl ntmps186 (Nat.le_of_ble_eq_true rfl) (zs (zn (yb6 (v := (.agg #[(ii g), (.slice Ag lg cg)])) rfl ?_))); intro g3 w2 hN; replace hS : Sep w no O w2 (stl _ 1 (Res.box 24 g3 [(ii g), (.slice Ag lg cg)])) := hS.new 1 rfl hN; clear hN; refine zb (zq (za (ii 0)) (yaa (zs (zq (yav (vs := [(ii g), (.slice Ag lg cg)]) rfl underlying24 rfl yas ⟨Row.cell (hS.bx 1 rfl) (i := 0) rfl, Row.cell (hS.bx 1 rfl) (i := 1) rfl, trivial⟩) (zn (yal rfl (am1 rfl) yiW ((yc5 h (yaN _) (hS.rdr 0 rfl)).mono ?_))))))); rintro _ w3 ⟨r, r2, rfl, hC, h⟩; replace hS := hS.pur hC.pure; clear hC; refine ⟨_, rfl, ?_⟩; refine zb (zq (zm (.tuple #[(.bool (r)), (ii r2)])) (zq (zx (.bool (r))) (zq (zx (ii r2)) (zq (za (.bool (r))) (zq (za (ii r2)) (yaa (yaf (yak (zs (zq (zm (ii r2)) (zq zN (zq (za (.bool (!(decide (r2 = 0))))) (yaa ?_))))))))))))); by_cases hp : r2 = 0
  · replace h := h.1 hp; refine ze hp (zs (zq (zm (.bool (r))) (zq (ydn rfl) (zq (za (.bool (!(r)))) (yaa ?_))))); by_cases hp2 : r = true
    · replace h := h.1 hp2; exact yax (congrArg Value.bool (congrArg Bool.not hp2)) (yag (yai (zs (zq (za (ii 0)) (yaa (yah rfl rfl ⟨_, rfl, (hS.sel [] (by decide)), h⟩))))))
    · replace h := h.2 hp2; exact yaq (congrArg Value.bool (congrArg Bool.not (Bool.eq_false_iff.2 hp2))) (zs (zq (za (ii 13)) (yaa (yah rfl rfl ⟨_, rfl, (hS.sel [] (by decide)), h⟩))))
  · replace h := h.2 hp; exact zf hp (zs (zq (zm (ii r2)) (zq (za (ii r2)) (yaa (yah rfl rfl ⟨_, rfl, (hS.sel [] (by decide)), h⟩)))))
def ylU (g : Int) (g2 : List E3) (d : List Int) (R : Int → Prop) : Prop :=
ylX g g2 (fun r =>
((r = 0 →
ybZ d g (fun r2 =>
R r2)) ∧
(¬ (r = 0) →
R r)))
theorem ymy {O : Nat → Prop} {w : World} {g g2 d Ag lg cg Ad ld cd} {R : Int → Prop} (h : ylU g g2 d R) (hO : ∀ k, O k → k < w.heap.size) (hA0 : (FP.sl c3 Ag lg cg g2).P O w) (hA1 : (FP.sl cI Ad ld cd d).P O w) :
    Calls Tryz.prog 132 #[(.agg #[(ii g), (.slice Ag lg cg)]), (.slice Ad ld cd)] w fun e w' => ∃ r3, e = .returned (ii r3) ∧ Sep w no O w' (rl []) ∧ R r3 := by
  unfold ylU at h; have hS : Sep w no O w (rl [Res.ro (FP.sl c3 Ag lg cg g2), Res.ro (FP.sl cI Ad ld cd d)]) := Sep.startl hO [(FP.sl c3 Ag lg cg g2), (FP.sl cI Ad ld cd d)] ⟨hA0, hA1, trivial⟩; refine yan (l := [(.agg #[(ii g), (.slice Ag lg cg)]), (.slice Ad ld cd)]) func132 rfl ntmps132 (Nat.le_of_ble_eq_true rfl) (zs (zn (yb6 (v := (.agg #[(ii g), (.slice Ag lg cg)])) rfl ?_))); intro g3 w2 hN; replace hS : Sep w no O w2 (stl _ 2 (Res.box 24 g3 [(ii g), (.slice Ag lg cg)])) := hS.new 2 rfl hN; clear hN; refine zb (zq (za (ii 0)) (yaa (yaf (zs (zq (yav (vs := [(ii g), (.slice Ag lg cg)]) rfl underlying24 rfl yas ⟨Row.cell (hS.bx 2 rfl) (i := 0) rfl, Row.cell (hS.bx 2 rfl) (i := 1) rfl, trivial⟩) (zn (yal rfl (am1 rfl) enter_186 ((ym0 h (yaN _) (hS.rdr 0 rfl)).mono ?_)))))))); rintro _ w3 ⟨r, rfl, hC, h⟩; replace hS := hS.pur hC.pure; clear hC; refine ⟨_, rfl, ?_⟩; refine zb (zq (za (ii r)) (yaa (zs (zq (zm (ii r)) (zq zN (yaa ?_)))))); by_cases hp : r = 0
  · replace h := h.1 hp; refine ze hp (yag (zs (zq (zm (.slice Ad ld cd)) (zq (yam rfl underlying24 rfl yaj) (zq (zl underlying3 (Row.cell (hS.bx 2 rfl) (i := 0) rfl)) (zn (yal rfl (am2 rfl rfl) yfB ((yeP h (yaN _) (hS.rdr 1 rfl)).mono ?_)))))))); rintro _ w4 ⟨r2, rfl, hC, h⟩; replace hS := hS.pur hC.pure; clear hC; refine ⟨_, rfl, ?_⟩; exact zb (zq (za (ii r2)) (yaa (yah rfl rfl ⟨_, rfl, (hS.sel [] (by decide)), h⟩)))
  · replace h := h.2 hp; exact zf hp (zs (zq (zm (ii r)) (zq (za (ii r)) (yaa (yah rfl rfl ⟨_, rfl, (hS.sel [] (by decide)), h⟩)))))
def ynw (g : Int) (g2 : List E3) (s : List Int) (R : Int → Prop) : Prop :=
ylX g g2 (fun r =>
((r = 0 →
yh7 g g2 s (fun r2 =>
R r2)) ∧
(¬ (r = 0) →
R r)))
theorem ynP {O : Nat → Prop} {w : World} {g g2 s Ag lg cg As ls cs} {R : Int → Prop} (h : ynw g g2 s R) (hO : ∀ k, O k → k < w.heap.size) (hA0 : (FP.sl c3 Ag lg cg g2).P O w) (hA1 : (FP.sl cI As ls cs s).P O w) :
    Calls Tryz.prog 136 #[(.agg #[(ii g), (.slice Ag lg cg)]), (.slice As ls cs)] w fun e w' => ∃ r3, e = .returned (ii r3) ∧ Sep w no O w' (rl []) ∧ R r3 := by
  unfold ynw at h; have hS : Sep w no O w (rl [Res.ro (FP.sl c3 Ag lg cg g2), Res.ro (FP.sl cI As ls cs s)]) := Sep.startl hO [(FP.sl c3 Ag lg cg g2), (FP.sl cI As ls cs s)] ⟨hA0, hA1, trivial⟩; refine yan (l := [(.agg #[(ii g), (.slice Ag lg cg)]), (.slice As ls cs)]) func136 rfl ntmps136 (Nat.le_of_ble_eq_true rfl) (zs (zn (yb6 (v := (.agg #[(ii g), (.slice Ag lg cg)])) rfl ?_))); intro g3 w2 hN; replace hS : Sep w no O w2 (stl _ 2 (Res.box 24 g3 [(ii g), (.slice Ag lg cg)])) := hS.new 2 rfl hN; clear hN; refine zb (zq (za (ii 0)) (yaa (yaf (zs (zq (yav (vs := [(ii g), (.slice Ag lg cg)]) rfl underlying24 rfl yas ⟨Row.cell (hS.bx 2 rfl) (i := 0) rfl, Row.cell (hS.bx 2 rfl) (i := 1) rfl, trivial⟩) (zn (yal rfl (am1 rfl) enter_186 ((ym0 h (yaN _) (hS.rdr 0 rfl)).mono ?_)))))))); rintro _ w3 ⟨r, rfl, hC, h⟩; replace hS := hS.pur hC.pure; clear hC; refine ⟨_, rfl, ?_⟩; refine zb (zq (za (ii r)) (yaa (zs (zq (zm (ii r)) (zq zN (yaa ?_)))))); by_cases hp : r = 0
  · replace h := h.1 hp; refine ze hp (yag (zs (zq (yav (vs := [(ii g), (.slice Ag lg cg)]) rfl underlying24 rfl yas ⟨Row.cell (hS.bx 2 rfl) (i := 0) rfl, Row.cell (hS.bx 2 rfl) (i := 1) rfl, trivial⟩) (zq (zm (.slice As ls cs)) (zn (yal rfl (am2 rfl rfl) enter_87 ((yiP h (yaN _) (hS.rdr 0 rfl) (hS.rdr 1 rfl)).mono ?_))))))); rintro _ w4 ⟨r2, rfl, hC, h⟩; replace hS := hS.pur hC.pure; clear hC; refine ⟨_, rfl, ?_⟩; exact zb (zq (za (ii r2)) (yaa (yah rfl rfl ⟨_, rfl, (hS.sel [] (by decide)), h⟩)))
  · replace h := h.2 hp; exact zf hp (zs (zq (zm (ii r)) (zq (za (ii r)) (yaa (yah rfl rfl ⟨_, rfl, (hS.sel [] (by decide)), h⟩)))))
def yl0 (d : List Int) (R : Int → Prop) : Prop :=
(∃ I2 : Nat → Int → Int → Prop, (∃ m0, I2 m0 0 0) ∧ ∀ m2 n v, I2 m2 n v → 
((v < ((d.length : Nat) : Int) →
((0 ≤ v ∧ v < ((d.length : Nat) : Int)) ∧
(In64 (n - (mnF (gi d v.toNat) 0)) ∧
(In64 (v + 1) ∧
∃ m3, m3 < m2 ∧ I2 m3 (n - (mnF (gi d v.toNat) 0)) (v + 1))))) ∧
(¬ (v < ((d.length : Nat) : Int)) →
R n)))
theorem ymF {O : Nat → Prop} {w : World} {d Ad ld cd} {R : Int → Prop} (h : yl0 d R) (hO : ∀ k, O k → k < w.heap.size) (hA0 : (FP.sl cI Ad ld cd d).P O w) :
    Calls Tryz.prog 188 #[(.slice Ad ld cd)] w fun e w' => ∃ r, e = .returned (ii r) ∧ Sep w no O w' (rl []) ∧ R r := by
  unfold yl0 at h; have hS : Sep w no O w (rl [Res.ro (FP.sl cI Ad ld cd d)]) := Sep.startl hO [(FP.sl cI Ad ld cd d)] ⟨hA0, trivial⟩; refine yan (l := [(.slice Ad ld cd)]) func188 rfl ntmps188 (Nat.le_of_ble_eq_true rfl) (zs (zq (za (ii 0)) (yaa (zs (zq (za (ii 0)) (yaa (yaf (zs (zq (zm (.slice Ad ld cd)) (zq (ybc (n := d.length) rfl underlying26 (ya2 (hS.rdr 0 rfl))) (zq (zm (ii 0)) (yaa (yak ?_))))))))))))); obtain ⟨I2, ⟨m0, h0⟩, hr⟩ := h; refine yaO (fun m E ds w' => ∃ n v, I2 m n v ∧ ds = [] ∧ E 3 = (ii n) ∧ E 6 = (Value.slice Ad ld cd) ∧ E 7 = (ii ((d.length : Nat) : Int)) ∧ E 8 = (ii v) ∧ Sep w no O w' (rl [Res.ro (FP.sl cI Ad ld cd d)])) m0 ⟨_, _, h0, rfl, rfl, rfl, rfl, rfl, (hS.sel [0] (by decide))⟩ ?_; clear h0 hS; rintro m2 E ds w2 ⟨n, v, h, rfl, hE3, hE6, hE7, hE8, hS⟩ again; replace h := hr m2 n v h; clear hr; refine zs (zq (yd4 hE8 hE7) (yaa (yaf ?_))); by_cases hp : v < ((d.length : Nat) : Int)
  · replace h := h.1 hp; refine zc hp (yag (yaf (yak (zs ?_)))); obtain ⟨hx, h⟩ := h; refine zq (yeK hE6 hE8 underlying26 yaj (ybh (hS.rdr 0 rfl) hx)) (zq (yaA (v := (ii (gi d v.toNat))) rfl underlying3 rfl (rd_1 (hS.rdr 0 rfl) hx (fun q => ybs q) rfl)) ?_); refine zq (za (ii (gi d v.toNat))) (yaa (zr (zq (yae hE3) (zq (zm (ii (gi d v.toNat))) (zq (yne rfl rfl) ?_))))); obtain ⟨hi, h⟩ := h; refine zq (zS hi) (zq (za (ii (n - (mnF (gi d v.toNat) 0)))) (yaa (yai (zr ?_)))); obtain ⟨hi2, h⟩ := h; refine zq (ycv hE8 rfl hi2) (zq (zm (ii (v + 1))) (yaa ?_)); obtain ⟨mq, hlt, h⟩ := h; exact again mq _ _ _ ⟨_, _, h, rfl, rfl, hE6, hE7, rfl, (hS.sel [0] (by decide))⟩ hlt
  · replace h := h.2 hp; exact zd hp (yaH rfl (zs (zq (yae hE3) (zq (za (ii n)) (yaa (yah rfl rfl ⟨_, rfl, (hS.sel [] (by decide)), h⟩))))))
def yns (k : Int) (R : Int → Prop) : Prop :=
(In64 (-k) ∧
R (mxF k (-k)))
theorem ynA {O : Nat → Prop} {w : World} {k} {R : Int → Prop} (h : yns k R) (hO : ∀ k, O k → k < w.heap.size) :
    Calls Tryz.prog 139 #[(ii k)] w fun e w' => ∃ r, e = .returned (ii r) ∧ Sep w no O w' (rl []) ∧ R r := by
  unfold yns at h; have hS : Sep w no O w (rl []) := Sep.start w hO; refine yan (l := [(ii k)]) func139 rfl ntmps139 (Nat.le_of_ble_eq_true rfl) (zs (zq (za (ii 0)) (yaa (zs (zq (zm (ii k)) (zq (zm (ii k)) ?_)))))); obtain ⟨hi, h⟩ := h; exact zq (v_neg rfl hi) (zq (yn0 rfl rfl) (zq (za (ii (mxF k (-k)))) (yaa (yah rfl rfl ⟨_, rfl, (hS.sel [] (by decide)), h⟩))))
def yny (s : List Int) (R : Int → Prop) : Prop :=
(∃ I2 : Nat → Int → Int → Prop, (∃ m0, I2 m0 0 0) ∧ ∀ m2 n v, I2 m2 n v → 
((v < ((s.length : Nat) : Int) →
((0 ≤ v ∧ v < ((s.length : Nat) : Int)) ∧
yns (gi s v.toNat) (fun r =>
(In64 (n + r) ∧
(In64 (v + 1) ∧
∃ m3, m3 < m2 ∧ I2 m3 (n + r) (v + 1)))))) ∧
(¬ (v < ((s.length : Nat) : Int)) →
R n)))
theorem yn1 {O : Nat → Prop} {w : World} {s As ls cs} {R : Int → Prop} (h : yny s R) (hO : ∀ k, O k → k < w.heap.size) (hA0 : (FP.sl cI As ls cs s).P O w) :
    Calls Tryz.prog 137 #[(.slice As ls cs)] w fun e w' => ∃ r2, e = .returned (ii r2) ∧ Sep w no O w' (rl []) ∧ R r2 := by
  unfold yny at h; have hS : Sep w no O w (rl [Res.ro (FP.sl cI As ls cs s)]) := Sep.startl hO [(FP.sl cI As ls cs s)] ⟨hA0, trivial⟩; refine yan (l := [(.slice As ls cs)]) func137 rfl ntmps137 (Nat.le_of_ble_eq_true rfl) (zs (zq (za (ii 0)) (yaa (zs (zq (za (ii 0)) (yaa (yaf (zs (zq (zm (.slice As ls cs)) (zq (ybc (n := s.length) rfl underlying36 (ya2 (hS.rdr 0 rfl))) (zq (zm (ii 0)) (yaa (yak ?_))))))))))))); obtain ⟨I2, ⟨m0, h0⟩, hr⟩ := h; refine yaO (fun m E ds w' => ∃ n v, I2 m n v ∧ ds = [] ∧ E 3 = (ii n) ∧ E 6 = (Value.slice As ls cs) ∧ E 7 = (ii ((s.length : Nat) : Int)) ∧ E 8 = (ii v) ∧ Sep w no O w' (rl [Res.ro (FP.sl cI As ls cs s)])) m0 ⟨_, _, h0, rfl, rfl, rfl, rfl, rfl, (hS.sel [0] (by decide))⟩ ?_; clear h0 hS; rintro m2 E ds w2 ⟨n, v, h, rfl, hE3, hE6, hE7, hE8, hS⟩ again; replace h := hr m2 n v h; clear hr; refine zs (zq (yd4 hE8 hE7) (yaa (yaf ?_))); by_cases hp : v < ((s.length : Nat) : Int)
  · replace h := h.1 hp; refine zc hp (yag (yaf (yak (zs ?_)))); obtain ⟨hx, h⟩ := h; refine zq (yeK hE6 hE8 underlying36 yaj (ybh (hS.rdr 0 rfl) hx)) (zq (yaA (v := (ii (gi s v.toNat))) rfl underlying3 rfl (rd_1 (hS.rdr 0 rfl) hx (fun q => ybs q) rfl)) ?_); refine zq (za (ii (gi s v.toNat))) (yaa (zr (zq (yae hE3) (zq (zm (ii (gi s v.toNat))) (zn (yal rfl (am1 rfl) enter_139 ((ynA h (yaN _)).mono ?_))))))); rintro _ w3 ⟨r, rfl, hC, h⟩; replace hS := hS.pur hC.pure; clear hC; refine ⟨_, rfl, ?_⟩; refine zb ?_; obtain ⟨hi, h⟩ := h; refine zq (zA hi) (zq (za (ii (n + r))) (yaa (yai (zr ?_)))); obtain ⟨hi2, h⟩ := h; refine zq (ycv hE8 rfl hi2) (zq (zm (ii (v + 1))) (yaa ?_)); obtain ⟨mq, hlt, h⟩ := h; exact again mq _ _ _ ⟨_, _, h, rfl, rfl, hE6, hE7, rfl, (hS.sel [0] (by decide))⟩ hlt
  · replace h := h.2 hp; exact zd hp (yaH rfl (zs (zq (yae hE3) (zq (za (ii n)) (yaa (yah rfl rfl ⟨_, rfl, (hS.sel [] (by decide)), h⟩))))))
def ylR (g : Int) (g2 : List E3) (R : Int → Prop) : Prop :=
(∃ I2 : Nat → Int → Int → Prop, (∃ m0, I2 m0 0 0) ∧ ∀ m2 most v, I2 m2 most v → 
((v < g →
ylQ g g2 v (fun r r2 =>
(In64 (v + 1) ∧
∃ m3, m3 < m2 ∧ I2 m3 (mxF most r) (v + 1)))) ∧
(¬ (v < g) →
R most)))
theorem ymM {O : Nat → Prop} {w : World} {g g2 Ag lg cg} {R : Int → Prop} (h : ylR g g2 R) (hO : ∀ k, O k → k < w.heap.size) (hA0 : (FP.sl c3 Ag lg cg g2).P O w) :
    Calls Tryz.prog 133 #[(.agg #[(ii g), (.slice Ag lg cg)])] w fun e w' => ∃ r3, e = .returned (ii r3) ∧ Sep w no O w' (rl []) ∧ R r3 := by
  unfold ylR at h; have hS : Sep w no O w (rl [Res.ro (FP.sl c3 Ag lg cg g2)]) := Sep.startl hO [(FP.sl c3 Ag lg cg g2)] ⟨hA0, trivial⟩; refine yan (l := [(.agg #[(ii g), (.slice Ag lg cg)])]) func133 rfl ntmps133 (Nat.le_of_ble_eq_true rfl) (zs (zn (yb6 (v := (.agg #[(ii g), (.slice Ag lg cg)])) rfl ?_))); intro g3 w2 hN; replace hS : Sep w no O w2 (stl _ 1 (Res.box 24 g3 [(ii g), (.slice Ag lg cg)])) := hS.new 1 rfl hN; clear hN; refine zb (zq (za (ii 0)) (yaa (zs (zq (za (ii 0)) (yaa (yaf (zs (zq (yam rfl underlying24 rfl yaj) (zq (zl underlying3 (Row.cell (hS.bx 1 rfl) (i := 0) rfl)) (zq (zm (ii 0)) (yaa (yak ?_)))))))))))); obtain ⟨I2, ⟨m0, h0⟩, hr⟩ := h; refine yaO (fun m E ds w' => ∃ most v, I2 m most v ∧ ds = [] ∧ E 1 = (Value.pointer (some (⟨g3, 0, none⟩ : Addr))) ∧ E 3 = (ii most) ∧ E 8 = (ii g) ∧ E 9 = (ii v) ∧ Sep w no O w' (rl [Res.box 24 g3 [(ii g), (.slice Ag lg cg)], Res.ro (FP.sl c3 Ag lg cg g2)])) m0 ⟨_, _, h0, rfl, rfl, rfl, rfl, rfl, (hS.sel [1, 0] (by decide))⟩ ?_; clear h0 hS; rintro m2 E ds w3 ⟨most, v, h, rfl, hE1, hE3, hE8, hE9, hS⟩ again; replace h := hr m2 most v h; clear hr; refine zs (zq (yd4 hE9 hE8) (yaa (yaf ?_))); by_cases hp : v < g
  · replace h := h.1 hp; refine zc hp (yag (yaf (yak (zs (zq (yae hE9) (zq (za (ii v)) (yaa (zs (zq (yav (vs := [(ii g), (.slice Ag lg cg)]) hE1 underlying24 rfl yas ⟨Row.cell (hS.bx 0 rfl) (i := 0) rfl, Row.cell (hS.bx 0 rfl) (i := 1) rfl, trivial⟩) (zq (zm (ii v)) (zn (yal rfl (am2 rfl rfl) enter_187 ((ymq h (yaN _) (hS.rdr 1 rfl)).mono ?_))))))))))))); rintro _ w4 ⟨r, r2, rfl, hC, h⟩; replace hS := hS.pur hC.pure; clear hC; refine ⟨_, rfl, ?_⟩; refine zb (zq (zm (.tuple #[(ii r), (ii r2)])) (zq (zx (ii r)) (zq (zx (ii r2)) (zq (za (ii r)) (zq (za (ii r2)) (yaa (zr (zq (yae hE3) (zq (zm (ii r)) (zq (yn0 rfl rfl) (zq (za (ii (mxF most r))) (yaa (yai (zr ?_)))))))))))))); obtain ⟨hi, h⟩ := h; refine zq (ycv hE9 rfl hi) (zq (zm (ii (v + 1))) (yaa ?_)); obtain ⟨mq, hlt, h⟩ := h; exact again mq _ _ _ ⟨_, _, h, rfl, hE1, rfl, hE8, rfl, (hS.sel [0, 1] (by decide))⟩ hlt
  · replace h := h.2 hp; exact zd hp (yaH rfl (zs (zq (yae hE3) (zq (za (ii most)) (yaa (yah rfl rfl ⟨_, rfl, (hS.sel [] (by decide)), h⟩))))))
def yl2 (d : List Int) (most : Int) (R : Int → Prop) : Prop :=
((most = 0 →
R 0) ∧
(¬ (most = 0) →
yl0 d (fun r =>
(In64 (r + most) ∧
(In64 ((r + most) - 1) ∧
(most ≠ 0 ∧
In64 (((r + most) - 1).tdiv most) ∧
R (((r + most) - 1).tdiv most)))))))
theorem ym5 {O : Nat → Prop} {w : World} {d most Ad ld cd} {R : Int → Prop} (h : yl2 d most R) (hO : ∀ k, O k → k < w.heap.size) (hA0 : (FP.sl cI Ad ld cd d).P O w) :
    Calls Tryz.prog 193 #[(.slice Ad ld cd), (ii most)] w fun e w' => ∃ r2, e = .returned (ii r2) ∧ Sep w no O w' (rl []) ∧ R r2 := by
  unfold yl2 at h; have hS : Sep w no O w (rl [Res.ro (FP.sl cI Ad ld cd d)]) := Sep.startl hO [(FP.sl cI Ad ld cd d)] ⟨hA0, trivial⟩; refine yan (l := [(.slice Ad ld cd), (ii most)]) func193 rfl ntmps193 (Nat.le_of_ble_eq_true rfl) (zs (zq (za (ii 0)) (yaa (yaf (zs (zq (zm (ii most)) (zq zE (yaa ?_)))))))); by_cases hp : most = 0
  · replace h := h.1 hp; exact zc hp (zs (zq (za (ii 0)) (yaa (yah rfl rfl ⟨_, rfl, (hS.sel [] (by decide)), h⟩))))
  · replace h := h.2 hp; refine zd hp (yag (zs (zq (zm (.slice Ad ld cd)) (zn (yal rfl (am1 rfl) enter_188 ((ymF h (yaN _) (hS.rdr 0 rfl)).mono ?_)))))); rintro _ w2 ⟨r, rfl, hC, h⟩; replace hS := hS.pur hC.pure; clear hC; refine ⟨_, rfl, ?_⟩; refine zb (zq (zm (ii most)) ?_); obtain ⟨hi, h⟩ := h; refine zq (zA hi) ?_; obtain ⟨hi2, h⟩ := h; refine zq (zS hi2) (zq (zm (ii most)) ?_); obtain ⟨hz, h⟩ := h; obtain ⟨hi3, h⟩ := h; exact zq (v_quo rfl rfl hz hi3) (zq (za (ii (((r + most) - 1).tdiv most))) (yaa (yah rfl rfl ⟨_, rfl, (hS.sel [] (by decide)), h⟩)))
def ylY (picks : List Int) (R : Int → Prop) : Prop :=
((4096 < ((picks.length : Nat) : Int) →
R 5) ∧
(¬ (4096 < ((picks.length : Nat) : Int)) →
((((picks.length : Nat) : Int) = 0 →
R 14) ∧
(¬ (((picks.length : Nat) : Int) = 0) →
yl1 picks (fun r =>
((r < 0 →
R 2) ∧
(¬ (r < 0) →
R 0)))))))
theorem ymW {O : Nat → Prop} {w : World} {picks Apicks lpicks cpicks} {R : Int → Prop} (h : ylY picks R) (hO : ∀ k, O k → k < w.heap.size) (hA0 : (FP.sl cI Apicks lpicks cpicks picks).P O w) :
    Calls Tryz.prog 181 #[(.slice Apicks lpicks cpicks)] w fun e w' => ∃ r2, e = .returned (ii r2) ∧ Sep w no O w' (rl []) ∧ R r2 := by
  unfold ylY at h; have hS : Sep w no O w (rl [Res.ro (FP.sl cI Apicks lpicks cpicks picks)]) := Sep.startl hO [(FP.sl cI Apicks lpicks cpicks picks)] ⟨hA0, trivial⟩; refine yan (l := [(.slice Apicks lpicks cpicks)]) func181 rfl ntmps181 (Nat.le_of_ble_eq_true rfl) (zs (zq (za (ii 0)) (yaa (yaf (yak (zs (zq (zm (.slice Apicks lpicks cpicks)) (zq (ybc (n := picks.length) rfl underlying25 (ya2 (hS.rdr 0 rfl))) (zq zG (zq (za (.bool (decide (4096 < ((picks.length : Nat) : Int))))) (yaa ?_))))))))))); by_cases hp : 4096 < ((picks.length : Nat) : Int)
  · replace h := h.1 hp; exact zc hp (zs (zq (za (ii 5)) (yaa (yah rfl rfl ⟨_, rfl, (hS.sel [] (by decide)), h⟩))))
  · replace h := h.2 hp; refine zd hp (zs (zq (zm (.slice Apicks lpicks cpicks)) (zq (ybc (n := picks.length) rfl underlying25 (ya2 (hS.rdr 0 rfl))) (zq zE (zq (za (.bool (decide (((picks.length : Nat) : Int) = 0)))) (yaa ?_)))))); by_cases hp2 : ((picks.length : Nat) : Int) = 0
    · replace h := h.1 hp2; exact zc hp2 (zs (zq (za (ii 14)) (yaa (yah rfl rfl ⟨_, rfl, (hS.sel [] (by decide)), h⟩))))
    · replace h := h.2 hp2; refine zd hp2 (zs (zq (zm (.slice Apicks lpicks cpicks)) (zn (yal rfl (am1 rfl) enter_228 ((ymL h (yaN _) (hS.rdr 0 rfl)).mono ?_))))); rintro _ w2 ⟨r, rfl, hC, h⟩; replace hS := hS.pur hC.pure; clear hC; refine ⟨_, rfl, ?_⟩; refine zb (zq zL (zq (za (.bool (decide (r < 0)))) (yaa ?_))); by_cases hp3 : r < 0
      · replace h := h.1 hp3; exact zc hp3 (zs (zq (za (ii 2)) (yaa (yah rfl rfl ⟨_, rfl, (hS.sel [] (by decide)), h⟩))))
      · replace h := h.2 hp3; exact zd hp3 (yag (yai (zs (zq (za (ii 0)) (yaa (yah rfl rfl ⟨_, rfl, (hS.sel [] (by decide)), h⟩))))))
def ylZ (g : Int) (g2 : List E3) (d : List Int) (v : Int) (times : Int) (R : (List Int) → Prop) : Prop :=
(∃ I2 : Nat → Int → (List Int) → Prop, (∃ m0, I2 m0 0 d) ∧ ∀ m2 v2 d2, I2 m2 v2 d2 → 
((v2 < ((g2.length : Nat) : Int) →
((0 ≤ v2 ∧ v2 < ((g2.length : Nat) : Int)) ∧
(∃ J2 : Prop, (J2 → ((0 ≤ v ∧ v < ((d2.length : Nat) : Int)) ∧
(In64 (times * ((ge g2 v2.toNat).2.2)) ∧
(In64 ((gi d2 v.toNat) + (times * ((ge g2 v2.toNat).2.2))) ∧
(In64 (((ge g2 v2.toNat).1) + ((ge g2 v2.toNat).2.1)) ∧
(In64 ((((ge g2 v2.toNat).1) + ((ge g2 v2.toNat).2.1)) - v) ∧
((0 ≤ ((((ge g2 v2.toNat).1) + ((ge g2 v2.toNat).2.1)) - v) ∧ ((((ge g2 v2.toNat).1) + ((ge g2 v2.toNat).2.1)) - v) < (((d2.set v.toNat ((gi d2 v.toNat) + (times * ((ge g2 v2.toNat).2.2)))).length : Nat) : Int)) ∧
(In64 ((gi (d2.set v.toNat ((gi d2 v.toNat) + (times * ((ge g2 v2.toNat).2.2)))) ((((ge g2 v2.toNat).1) + ((ge g2 v2.toNat).2.1)) - v).toNat) - (times * ((ge g2 v2.toNat).2.2))) ∧
(In64 (v2 + 1) ∧
∃ m3, m3 < m2 ∧ I2 m3 (v2 + 1) ((d2.set v.toNat ((gi d2 v.toNat) + (times * ((ge g2 v2.toNat).2.2)))).set ((((ge g2 v2.toNat).1) + ((ge g2 v2.toNat).2.1)) - v).toNat ((gi (d2.set v.toNat ((gi d2 v.toNat) + (times * ((ge g2 v2.toNat).2.2)))) ((((ge g2 v2.toNat).1) + ((ge g2 v2.toNat).2.1)) - v).toNat) - (times * ((ge g2 v2.toNat).2.2))))))))))))) ∧
((((ge g2 v2.toNat).1) = ((ge g2 v2.toNat).2.1) →
(In64 (v2 + 1) ∧
∃ m4, m4 < m2 ∧ I2 m4 (v2 + 1) d2)) ∧
(¬ (((ge g2 v2.toNat).1) = ((ge g2 v2.toNat).2.1)) →
((((ge g2 v2.toNat).1) = v →
J2) ∧
(¬ (((ge g2 v2.toNat).1) = v) →
((((ge g2 v2.toNat).2.1) = v →
J2) ∧
(¬ (((ge g2 v2.toNat).2.1) = v) →
(In64 (v2 + 1) ∧
∃ m5, m5 < m2 ∧ I2 m5 (v2 + 1) d2)))))))))) ∧
(¬ (v2 < ((g2.length : Nat) : Int)) →
R d2)))
theorem ymZ {S O : Nat → Prop} {w : World} {g g2 d v times Ag lg cg Ad ld cd} {R : (List Int) → Prop} (h : ylZ g g2 d v times R) (hS : Sep w S O w (rl [Res.ro (FP.sl c3 Ag lg cg g2), Res.own cI 3 Ad ld cd d])) :
    Calls Tryz.prog 183 #[(.agg #[(ii g), (.slice Ag lg cg)]), (.slice Ad ld cd), (ii v), (ii times)] w fun e w' => ∃ z, e = .returned (.tuple #[]) ∧ Sep w S O w' (rl [Res.own cI 3 Ad ld cd z]) ∧ R z := by
  unfold ylZ at h; refine yan (l := [(.agg #[(ii g), (.slice Ag lg cg)]), (.slice Ad ld cd), (ii v), (ii times)]) func183 rfl ntmps183 (Nat.le_of_ble_eq_true rfl) (zs (zn (yb6 (v := (.agg #[(ii g), (.slice Ag lg cg)])) rfl ?_))); intro g3 w2 hN; replace hS : Sep w S O w2 (stl _ 2 (Res.box 24 g3 [(ii g), (.slice Ag lg cg)])) := hS.new 2 rfl hN; clear hN; refine zb (yaa (zs (zq (yam rfl underlying24 rfl ydy) (zq (zl underlying22 (Row.cell (hS.bx 2 rfl) (i := 1) rfl)) (zq (ybc (n := g2.length) rfl underlying22 (ya2 (hS.rdr 0 rfl))) (zq (zm (ii 0)) (yaa (yak ?_)))))))); obtain ⟨I2, ⟨m0, h0⟩, hr⟩ := h; refine yaO (fun m E ds w' => ∃ v2 d2, I2 m v2 d2 ∧ ds = [] ∧ E 1 = (Value.slice Ad ld cd) ∧ E 2 = (ii v) ∧ E 3 = (ii times) ∧ E 11 = (Value.slice Ag lg cg) ∧ E 12 = (ii ((g2.length : Nat) : Int)) ∧ E 13 = (ii v2) ∧ Sep w S O w' (rl [Res.own cI 3 Ad ld cd d2, Res.ro (FP.sl c3 Ag lg cg g2)])) m0 ⟨_, _, h0, rfl, rfl, rfl, rfl, rfl, rfl, rfl, (hS.sel [1, 0] (by decide))⟩ ?_; clear h0 hS; rintro m2 E ds w3 ⟨v2, d2, h, rfl, hE1, hE2, hE3, hE11, hE12, hE13, hS⟩ again; replace h := hr m2 v2 d2 h; clear hr; refine zs (zq (yd4 hE13 hE12) (yaa (yaf ?_))); by_cases hp : v2 < ((g2.length : Nat) : Int)
  · replace h := h.1 hp; refine zc hp (yag (yaf (yak (zs ?_)))); obtain ⟨hx, h⟩ := h; refine zq (yeK hE11 hE13 underlying22 ybf (ybh (hS.rdr 1 rfl) hx)) (zq (yav (vs := [(ii ((ge g2 v2.toNat).1)), (ii ((ge g2 v2.toNat).2.1)), (ii ((ge g2 v2.toNat).2.2))]) rfl underlying95 rfl ybf (yn2 (hS.rdr 1 rfl) hx (fun q => yd6 q))) ?_); refine zn (ybJ ybf ?_); intro g4 w4 hN; replace hS : Sep w S O w4 (stl _ 2 (Res.box 95 g4 [(ii 0), (ii 0), (ii 0)])) := hS.new 2 rfl hN; clear hN; refine zb (zo (yeb (b := g4) (o := 0) (cells := #[(ii ((ge g2 v2.toNat).1)), (ii ((ge g2 v2.toNat).2.1)), (ii ((ge g2 v2.toNat).2.2))]) rfl rfl ybf rfl rfl (yc7 (hS.bx 2 rfl) (Nat.le_of_ble_eq_true rfl)) ?_)); intro w5 e1; replace hS := hS.bstn 2 rfl 0 [(ii ((ge g2 v2.toNat).1)), (ii ((ge g2 v2.toNat).2.1)), (ii ((ge g2 v2.toNat).2.2))] e1; clear e1; refine zb (yaa (yaf ?_)); obtain ⟨J2, hJ, h⟩ := h; refine wt_cutA1 (fun E ds w' => J2 ∧ ds = [] ∧ E 1 = (Value.slice Ad ld cd) ∧ E 2 = (ii v) ∧ E 3 = (ii times) ∧ E 9 = (Value.pointer (some (⟨g4, 0, none⟩ : Addr))) ∧ E 11 = (Value.slice Ag lg cg) ∧ E 12 = (ii ((g2.length : Nat) : Int)) ∧ E 13 = (ii v2) ∧ Sep w S O w' (rl [Res.own cI 3 Ad ld cd d2, Res.box 95 g4 [(ii ((ge g2 v2.toNat).1)), (ii ((ge g2 v2.toNat).2.1)), (ii ((ge g2 v2.toNat).2.2))], Res.ro (FP.sl c3 Ag lg cg g2)])) ?_ ?_
    · clear h hS; rintro E ds w6 ⟨h, rfl, hE1, hE2, hE3, hE9, hE11, hE12, hE13, hS⟩; replace h := hJ h; refine yaf (ybt [0, 1, 2, 3, 4, 5, 6, 7, 8, 9, 10] st0 yaQ (by kernel_rfl) (by kernel_rfl) ?_); replace hS := hS.drew; refine zp (yae hE1) (zp (yae hE2) ?_); obtain ⟨hx2, h⟩ := h; refine zp (zi underlying26 yaj (ybh (hS.rdo 0 rfl) hx2)) (zp (yaA (v := (ii (gi d2 v.toNat))) rfl underlying3 rfl (rd_1 (hS.rdo 0 rfl) hx2 (fun q => ybs q) rfl)) ?_); refine zp (yae hE3) (zp (yam hE9 underlying95 rfl yaj) (zp (zl underlying3 (Row.cell (hS.bx 1 rfl) (i := 2) rfl)) ?_)); obtain ⟨hi, h⟩ := h; refine zp (v_mul rfl rfl hi) ?_; obtain ⟨hi2, h⟩ := h; refine zp (zA hi2) (zp (zi underlying26 yaj (ybh (hS.rdo 0 rfl) hx2)) (yhC rfl rfl rfl (zt (ii ((gi d2 v.toNat) + (times * ((ge g2 v2.toNat).2.2)))) yaj (hS.wr 0 rfl rfl hx2) ?_))); intro w7 e1; replace hS := hS.st 0 rfl rfl hx2 (x := (gi d2 v.toNat) + (times * ((ge g2 v2.toNat).2.2))) rfl e1; clear e1; refine zb (yb4 (ybt [0, 1, 2, 3, 4, 5, 6, 7, 8, 9, 10, 11, 12, 13, 14, 15, 16] st0 yaQ (by kernel_rfl) (by kernel_rfl) ?_)); replace hS := hS.drew; refine zp (yae hE1) (zp (yam hE9 underlying95 rfl yaj) (zp (zl underlying3 (Row.cell (hS.bx 1 rfl) (i := 0) rfl)) (zp (yam hE9 underlying95 rfl yaj) (zp (zl underlying3 (Row.cell (hS.bx 1 rfl) (i := 1) rfl)) ?_)))); obtain ⟨hi3, h⟩ := h; refine zp (zA hi3) (zp (yae hE2) ?_); obtain ⟨hi4, h⟩ := h; refine zp (zS hi4) ?_; obtain ⟨hx3, h⟩ := h; refine zp (zi underlying26 yaj (ybh (hS.rdo 0 rfl) hx3)) (zp (yaA (v := (ii (gi (d2.set v.toNat ((gi d2 v.toNat) + (times * ((ge g2 v2.toNat).2.2)))) ((((ge g2 v2.toNat).1) + ((ge g2 v2.toNat).2.1)) - v).toNat))) rfl underlying3 rfl (rd_1 (hS.rdo 0 rfl) hx3 (fun q => ybs q) rfl)) ?_); refine zp (yae hE3) (zp (yam hE9 underlying95 rfl yaj) (zp (zl underlying3 (Row.cell (hS.bx 1 rfl) (i := 2) rfl)) (zp (v_mul rfl rfl hi) ?_))); obtain ⟨hi6, h⟩ := h; refine zp (zS hi6) (zp (zi underlying26 yaj (ybh (hS.rdo 0 rfl) hx3)) (yhC rfl rfl rfl (zt (ii ((gi (d2.set v.toNat ((gi d2 v.toNat) + (times * ((ge g2 v2.toNat).2.2)))) ((((ge g2 v2.toNat).1) + ((ge g2 v2.toNat).2.1)) - v).toNat) - (times * ((ge g2 v2.toNat).2.2)))) yaj (hS.wr 0 rfl rfl hx3) ?_))); intro w8 e1; replace hS := hS.st 0 rfl rfl hx3 (x := (gi (d2.set v.toNat ((gi d2 v.toNat) + (times * ((ge g2 v2.toNat).2.2)))) ((((ge g2 v2.toNat).1) + ((ge g2 v2.toNat).2.1)) - v).toNat) - (times * ((ge g2 v2.toNat).2.2))) rfl e1; clear e1; refine zb (yb4 (yai (zr ?_))); obtain ⟨hi7, h⟩ := h; refine zq (ycv hE13 rfl hi7) (zq (zm (ii (v2 + 1))) (yaa ?_)); obtain ⟨mq, hlt, h⟩ := h; exact again mq _ _ _ ⟨_, _, h, rfl, hE1, hE2, hE3, hE11, hE12, rfl, (hS.sel [0, 2] (by decide))⟩ hlt
    clear hJ; intro j; refine zr (zq (yam rfl underlying95 rfl yaj) (zq (zl underlying3 (Row.cell (hS.bx 2 rfl) (i := 0) rfl)) (zq (yam rfl underlying95 rfl yaj) (zq (zl underlying3 (Row.cell (hS.bx 2 rfl) (i := 1) rfl)) (zq zN (zq (zm (.bool (!(decide (((ge g2 v2.toNat).1) = ((ge g2 v2.toNat).2.1)))))) ?_)))))); by_cases hp2 : ((ge g2 v2.toNat).1) = ((ge g2 v2.toNat).2.1)
    · replace h := h.1 hp2; refine rl_p (yab rfl (yac rfl (congrArg Value.bool (congrArg Bool.not (decide_eq_true hp2)))) rfl) rfl (rl_p (yab rfl (yac rfl (congrArg Value.bool (congrArg Bool.not (decide_eq_true hp2)))) rfl) rfl (rl_p (yab rfl (yac rfl (congrArg Value.bool (congrArg Bool.not (decide_eq_true hp2)))) rfl) rfl (rl_p (yab rfl (yac rfl (congrArg Value.bool (congrArg Bool.not (decide_eq_true hp2)))) rfl) rfl (rl_p (yab rfl (yac rfl (congrArg Value.bool (congrArg Bool.not (decide_eq_true hp2)))) rfl) rfl (rl_p (yaB rfl rfl) rfl (rl_p (yaB rfl rfl) rfl (rl_p (yaB rfl rfl) rfl (rl_p (yaB rfl rfl) rfl (rl_p (yab rfl (yac rfl (congrArg Value.bool (congrArg Bool.not (decide_eq_true hp2)))) rfl) rfl (zq (yap (v := (.bool (false))) (congrArg Value.bool (congrArg Bool.not (decide_eq_true hp2))) rfl) (yaa (yax rfl (yag (yai (zr ?_))))))))))))))); obtain ⟨hi8, h⟩ := h; refine zq (ycv hE13 rfl hi8) (zq (zm (ii (v2 + 1))) (yaa ?_)); obtain ⟨mq, hlt, h⟩ := h; exact again mq _ _ _ ⟨_, _, h, rfl, hE1, hE2, hE3, hE11, hE12, rfl, (hS.sel [0, 1] (by decide))⟩ hlt
    · replace h := h.2 hp2; refine rl_q (yad rfl (yac rfl (congrArg Value.bool (congrArg Bool.not (decide_eq_false hp2))))) rfl rfl (yam rfl underlying95 rfl yaj) (rl_q (yad rfl (yac rfl (congrArg Value.bool (congrArg Bool.not (decide_eq_false hp2))))) rfl rfl (zl underlying3 (Row.cell (hS.bx 2 rfl) (i := 0) rfl)) (rl_q (yad rfl (yac rfl (congrArg Value.bool (congrArg Bool.not (decide_eq_false hp2))))) rfl rfl (yae hE2) (rl_q (yad rfl (yac rfl (congrArg Value.bool (congrArg Bool.not (decide_eq_false hp2))))) rfl rfl zE (rl_q (yad rfl (yac rfl (congrArg Value.bool (congrArg Bool.not (decide_eq_false hp2))))) rfl rfl (zm (.bool (decide (((ge g2 v2.toNat).1) = v)))) ?_)))); by_cases hp3 : ((ge g2 v2.toNat).1) = v
      · replace h := h.1 hp3; exact rl_p (yab rfl (yac rfl (congrArg Value.bool (decide_eq_true hp3))) rfl) rfl (rl_p (yab rfl (yac rfl (congrArg Value.bool (decide_eq_true hp3))) rfl) rfl (rl_p (yab rfl (yac rfl (congrArg Value.bool (decide_eq_true hp3))) rfl) rfl (rl_p (yab rfl (yac rfl (congrArg Value.bool (decide_eq_true hp3))) rfl) rfl (rl_q (yad rfl (yac rfl (congrArg Value.bool (congrArg Bool.not (decide_eq_false hp2))))) rfl rfl (yao (v := (.bool (true))) (congrArg Value.bool (decide_eq_true hp3)) rfl) (zq (yao (v := (.bool (true))) (congrArg Value.bool (congrArg Bool.not (decide_eq_false hp2))) rfl) (yaa (yaq rfl (j _ _ _ ⟨h, rfl, hE1, hE2, hE3, rfl, hE11, hE12, hE13, (hS.sel [0, 2, 1] (by decide))⟩))))))))
      · replace h := h.2 hp3; refine rl_q (yad rfl (yac rfl (congrArg Value.bool (decide_eq_false hp3)))) rfl rfl (yam rfl underlying95 rfl yaj) (rl_q (yad rfl (yac rfl (congrArg Value.bool (decide_eq_false hp3)))) rfl rfl (zl underlying3 (Row.cell (hS.bx 2 rfl) (i := 1) rfl)) (rl_q (yad rfl (yac rfl (congrArg Value.bool (decide_eq_false hp3)))) rfl rfl (yae hE2) (rl_q (yad rfl (yac rfl (congrArg Value.bool (decide_eq_false hp3)))) rfl rfl zE (rl_q (yad rfl (yac rfl (congrArg Value.bool (congrArg Bool.not (decide_eq_false hp2))))) rfl rfl (yap (v := (.bool (decide (((ge g2 v2.toNat).2.1) = v)))) (congrArg Value.bool (decide_eq_false hp3)) rfl) (zq (yao (v := (.bool (decide (((ge g2 v2.toNat).2.1) = v)))) (congrArg Value.bool (congrArg Bool.not (decide_eq_false hp2))) rfl) (yaa ?_)))))); by_cases hp4 : ((ge g2 v2.toNat).2.1) = v
        · replace h := h.1 hp4; exact zc hp4 (j _ _ _ ⟨h, rfl, hE1, hE2, hE3, rfl, hE11, hE12, hE13, (hS.sel [0, 2, 1] (by decide))⟩)
        · replace h := h.2 hp4; refine zd hp4 (yag (yai (zr ?_))); obtain ⟨hi9, h⟩ := h; refine zq (ycv hE13 rfl hi9) (zq (zm (ii (v2 + 1))) (yaa ?_)); obtain ⟨mq, hlt, h⟩ := h; exact again mq _ _ _ ⟨_, _, h, rfl, hE1, hE2, hE3, hE11, hE12, rfl, (hS.sel [0, 1] (by decide))⟩ hlt
  · replace h := h.2 hp; exact zd hp (yaH rfl (yew rfl ⟨_, rfl, (hS.sel [0] (by decide)), h⟩))
def ylO (d : Int) (d2 : List E3) (i : List Int) (a : List Int) (R : Bool → (List Int) → Int → Prop) : Prop :=
ylU d d2 i (fun r =>
((r = 0 →
ylY a (fun r2 =>
((r2 = 0 →
(∃ J2 : (List Int) → (List Int) → Prop, (∀ (v : List Int) (v2 : List Int), J2 v v2 → (∃ I2 : Nat → Int → (List Int) → (List Int) → Prop, (∃ m0, I2 m0 0 v v2) ∧ ∀ m2 v3 v4 v5, I2 m2 v3 v4 v5 → 
(∃ I3 : Nat → (List Int) → Int → Prop, (∃ m0, I3 m0 ([]) 0) ∧ ∀ m3 v6 v7, I3 m3 v6 v7 → 
((v7 < ((v4.length : Nat) : Int) →
((0 ≤ v7 ∧ v7 < ((v4.length : Nat) : Int)) ∧
(((gi v4 v7.toNat) < 0 →
(v6.length + 1 ≤ 1000000000 ∧
(In64 (v7 + 1) ∧
∃ m4, m4 < m3 ∧ I3 m4 (v6 ++ [v7]) (v7 + 1)))) ∧
(¬ ((gi v4 v7.toNat) < 0) →
(In64 (v7 + 1) ∧
∃ m5, m5 < m3 ∧ I3 m5 v6 (v7 + 1)))))) ∧
(¬ (v7 < ((v4.length : Nat) : Int)) →
((((v6.length : Nat) : Int) = 0 →
R true v5 0) ∧
(¬ (((v6.length : Nat) : Int) = 0) →
ylP v5 (fun r3 =>
((r3 < 0 →
R false v5 0) ∧
(¬ (r3 < 0) →
((v3 = 1048576 →
R false ([]) 12) ∧
(¬ (v3 = 1048576) →
(((a.length : Nat) : Int) ≠ 0 ∧
((0 ≤ (v3.tmod ((a.length : Nat) : Int)) ∧ (v3.tmod ((a.length : Nat) : Int)) < ((a.length : Nat) : Int)) ∧
(((v6.length : Nat) : Int) ≠ 0 ∧
((0 ≤ ((gi a (v3.tmod ((a.length : Nat) : Int)).toNat).tmod ((v6.length : Nat) : Int)) ∧ ((gi a (v3.tmod ((a.length : Nat) : Int)).toNat).tmod ((v6.length : Nat) : Int)) < ((v6.length : Nat) : Int)) ∧
((0 ≤ (gi v6 ((gi a (v3.tmod ((a.length : Nat) : Int)).toNat).tmod ((v6.length : Nat) : Int)).toNat) ∧ (gi v6 ((gi a (v3.tmod ((a.length : Nat) : Int)).toNat).tmod ((v6.length : Nat) : Int)).toNat) < ((v5.length : Nat) : Int)) ∧
(In64 ((gi v5 (gi v6 ((gi a (v3.tmod ((a.length : Nat) : Int)).toNat).tmod ((v6.length : Nat) : Int)).toNat).toNat) - 1) ∧
ylZ d d2 v4 (gi v6 ((gi a (v3.tmod ((a.length : Nat) : Int)).toNat).tmod ((v6.length : Nat) : Int)).toNat) 1 (fun y =>
(In64 (v3 + 1) ∧
∃ m6, m6 < m2 ∧ I2 m6 (v3 + 1) y (v5.set (gi v6 ((gi a (v3.tmod ((a.length : Nat) : Int)).toNat).tmod ((v6.length : Nat) : Int)).toNat).toNat ((gi v5 (gi v6 ((gi a (v3.tmod ((a.length : Nat) : Int)).toNat).tmod ((v6.length : Nat) : Int)).toNat).toNat) - 1)))))))))))))))))))))) ∧
((yaM i (fun r4 =>
((0 ≤ d ∧ d ≤ 1000000) ∧
J2 r4 (List.replicate d.toNat (0 : Int))))) ∧
(((0 ≤ d ∧ d ≤ 1000000) ∧
yaM i (fun r5 =>
J2 r5 (List.replicate d.toNat (0 : Int)))))))) ∧
(¬ (r2 = 0) →
R false ([]) r2)))) ∧
(¬ (r = 0) →
R false ([]) r)))
theorem ymo {O : Nat → Prop} {w : World} {d d2 i a Ad ld cd Ai li ci Aa la ca} {R : Bool → (List Int) → Int → Prop} (h : ylO d d2 i a R) (hO : ∀ k, O k → k < w.heap.size) (hA0 : (FP.sl c3 Ad ld cd d2).P O w) (hA1 : (FP.sl cI Ai li ci i).P O w) (hA2 : (FP.sl cI Aa la ca a).P O w) :
    Calls Tryz.prog 125 #[(.agg #[(ii d), (.slice Ad ld cd)]), (.slice Ai li ci), (.slice Aa la ca)] w fun e w' => ∃ r6 r7 r8 Ar3 lr3 cr3, e = .returned (.tuple #[(.bool (r6)), (.slice Ar3 lr3 cr3), (ii r8)]) ∧ Sep w no O w' (rl [Res.own cI 3 Ar3 lr3 cr3 r7]) ∧ R r6 r7 r8 := by
  unfold ylO at h; have hS : Sep w no O w (rl [Res.ro (FP.sl c3 Ad ld cd d2), Res.ro (FP.sl cI Ai li ci i), Res.ro (FP.sl cI Aa la ca a)]) := Sep.startl hO [(FP.sl c3 Ad ld cd d2), (FP.sl cI Ai li ci i), (FP.sl cI Aa la ca a)] ⟨hA0, hA1, hA2, trivial⟩; refine yan (l := [(.agg #[(ii d), (.slice Ad ld cd)]), (.slice Ai li ci), (.slice Aa la ca)]) func125 rfl ntmps125 (Nat.le_of_ble_eq_true rfl) (zs (zn (yb6 (v := (.agg #[(ii d), (.slice Ad ld cd)])) rfl ?_))); intro g w2 hN; replace hS : Sep w no O w2 (stl _ 3 (Res.box 24 g [(ii d), (.slice Ad ld cd)])) := hS.new 3 rfl hN; clear hN; refine zb (zq (za (.bool (false))) (zq (za (.slice none 0 0)) (zq (za (ii 0)) (yaa (yaf (zs (zq (yav (vs := [(ii d), (.slice Ad ld cd)]) rfl underlying24 rfl yas ⟨Row.cell (hS.bx 3 rfl) (i := 0) rfl, Row.cell (hS.bx 3 rfl) (i := 1) rfl, trivial⟩) (zq (zm (.slice Ai li ci)) (zn (yal rfl (am2 rfl rfl) ynZ ((ymy h (yaN _) (hS.rdr 0 rfl) (hS.rdr 1 rfl)).mono ?_))))))))))); rintro _ w3 ⟨r, rfl, hC, h⟩; replace hS := hS.pur hC.pure; clear hC; refine ⟨_, rfl, ?_⟩; refine zb (zq (za (ii r)) (yaa (zs (zq (zm (ii r)) (zq zN (yaa ?_)))))); by_cases hp : r = 0
  · replace h := h.1 hp; refine ze hp (yag (yaf (zs (zq (zm (.slice Aa la ca)) (zn (yal rfl (am1 rfl) enter_181 ((ymW h (yaN _) (hS.rdr 2 rfl)).mono ?_))))))); rintro _ w4 ⟨r2, rfl, hC, h⟩; replace hS := hS.pur hC.pure; clear hC; refine ⟨_, rfl, ?_⟩; refine zb (zq (za (ii r2)) (yaa (zs (zq (zm (ii r2)) (zq zN (yaa ?_)))))); by_cases hp2 : r2 = 0
    · replace h := h.1 hp2; refine ze hp2 (yag (yaf ?_)); obtain ⟨J2, hJ, h⟩ := h; refine wt_cutD (fun E ds w' => ∃ v v2 Av lv cv Av2 lv2 cv2, J2 v v2 ∧ ds = [] ∧ E 2 = (Value.slice Aa la ca) ∧ E 3 = (Value.pointer (some (⟨g, 0, none⟩ : Addr))) ∧ E 11 = (Value.slice Av lv cv) ∧ E 12 = (Value.slice Av2 lv2 cv2) ∧ Sep w no O w' (rl [Res.own cI 3 Av lv cv v, Res.own cI 3 Av2 lv2 cv2 v2, Res.ro (FP.sl cI Aa la ca a), Res.box 24 g [(ii d), (.slice Ad ld cd)], Res.ro (FP.sl c3 Ad ld cd d2)])) ?_ ?_
      · clear h hS; rintro E ds w5 ⟨v, v2, Av, lv, cv, Av2, lv2, cv2, h, rfl, hE2, hE3, hE11, hE12, hS⟩; replace h := hJ v v2 h; refine zs (zq (za (ii 0)) (yaa (yak ?_))); obtain ⟨I2, ⟨m0, h0⟩, hr⟩ := h; refine yaO (fun m E ds w' => ∃ v3 v4 v5, I2 m v3 v4 v5 ∧ ds = [] ∧ E 2 = (Value.slice Aa la ca) ∧ E 3 = (Value.pointer (some (⟨g, 0, none⟩ : Addr))) ∧ E 11 = (Value.slice Av lv cv) ∧ E 12 = (Value.slice Av2 lv2 cv2) ∧ E 13 = (ii v3) ∧ Sep w no O w' (rl [Res.ro (FP.sl cI Aa la ca a), Res.box 24 g [(ii d), (.slice Ad ld cd)], Res.ro (FP.sl c3 Ad ld cd d2), Res.own cI 3 Av lv cv v4, Res.own cI 3 Av2 lv2 cv2 v5])) m0 ⟨_, _, _, h0, rfl, hE2, hE3, hE11, hE12, rfl, (hS.sel [2, 3, 4, 0, 1] (by decide))⟩ ?_; clear h0 hS; rintro m2 E ds w6 ⟨v3, v4, v5, h, rfl, hE2, hE3, hE11, hE12, hE13, hS⟩ again; replace h := hr m2 v3 v4 v5 h; clear hr; refine yaf (yak (zs (zq (za (.slice none 0 0)) (yaa (yaf (zs (zq (yae hE11) (zq (ybc (n := v4.length) rfl underlying26 (ya2 (hS.rdo 3 rfl))) (zq (zm (ii 0)) (yaa (yak ?_))))))))))); replace hS := hS.nil 5 rfl cI 3; obtain ⟨I3, ⟨m0, h0⟩, hr⟩ := h; refine yaO (fun m E ds w' => ∃ v6 v7 Av3 lv3 cv3, I3 m v6 v7 ∧ ds = [] ∧ E 2 = (Value.slice Aa la ca) ∧ E 3 = (Value.pointer (some (⟨g, 0, none⟩ : Addr))) ∧ E 11 = (Value.slice Av lv cv) ∧ E 12 = (Value.slice Av2 lv2 cv2) ∧ E 13 = (ii v3) ∧ E 14 = (Value.slice Av3 lv3 cv3) ∧ E 36 = (Value.slice Av lv cv) ∧ E 37 = (ii ((v4.length : Nat) : Int)) ∧ E 38 = (ii v7) ∧ Sep w no O w' (rl [Res.own cI 3 Av3 lv3 cv3 v6, Res.ro (FP.sl cI Aa la ca a), Res.box 24 g [(ii d), (.slice Ad ld cd)], Res.ro (FP.sl c3 Ad ld cd d2), Res.own cI 3 Av lv cv v4, Res.own cI 3 Av2 lv2 cv2 v5])) m0 ⟨_, _, _, _, _, h0, rfl, hE2, hE3, hE11, hE12, hE13, rfl, rfl, rfl, rfl, (hS.sel [5, 0, 1, 2, 3, 4] (by decide))⟩ ?_; clear h0 hS; rintro m3 E ds w7 ⟨v6, v7, Av3, lv3, cv3, h, rfl, hE2, hE3, hE11, hE12, hE13, hE14, hE36, hE37, hE38, hS⟩ again2; replace h := hr m3 v6 v7 h; clear hr; refine zs (zq (yd4 hE38 hE37) (yaa (yaf ?_))); by_cases hp3 : v7 < ((v4.length : Nat) : Int)
        · replace h := h.1 hp3; refine zc hp3 (yag (yaf (yak (zs (zq (yae hE38) ?_))))); obtain ⟨hx, h⟩ := h; refine zq (yeK hE36 hE38 underlying26 yaj (ybh (hS.rdo 4 rfl) hx)) (zq (yaA (v := (ii (gi v4 v7.toNat))) rfl underlying3 rfl (rd_1 (hS.rdo 4 rfl) hx (fun q => ybs q) rfl)) ?_); refine zq (za (ii v7)) (zq (za (ii (gi v4 v7.toNat))) (yaa (zs (zq (zm (ii (gi v4 v7.toNat))) (zq zL (yaa ?_)))))); by_cases hp4 : (gi v4 v7.toNat) < 0
          · replace h := h.1 hp4; refine zc hp4 (zr (zq (yae hE14) (zq (zm (ii v7)) (zn (yaR (l := [(0, (ii v7))]) (cells := [(ii v7)]) (bp1 rfl) underlying25 yaj rfl rfl ?_))))); intro g2 w8 hN; replace hS := hS.litf (n := 1) 6 rfl (fI .i64) hN ([v7] : List Int) rfl (by decide) rfl; clear hN; refine zb ?_; obtain ⟨hx2, h⟩ := h; refine zn (n_app (c := cI) rfl rfl underlying25 underlying25 yaj rfl rfl (by decide) hS 0 rfl (hS.yo 6 rfl) hx2 ?_); clear hS; intro A c w9 hS; refine zb (zq (za (.slice A (lv3 + 1) c)) (yaa (yai (zr ?_)))); obtain ⟨hi, h⟩ := h; refine zq (ycv hE38 rfl hi) (zq (zm (ii (v7 + 1))) (yaa ?_)); obtain ⟨mq, hlt, h⟩ := h; exact again2 mq _ _ _ ⟨_, _, _, _, _, h, rfl, hE2, hE3, hE11, hE12, hE13, rfl, hE36, hE37, rfl, (hS.sel [0, 1, 2, 3, 4, 5] (by decide))⟩ hlt
          · replace h := h.2 hp4; refine zd hp4 (yag (yai (zr ?_))); obtain ⟨hi2, h⟩ := h; refine zq (ycv hE38 rfl hi2) (zq (zm (ii (v7 + 1))) (yaa ?_)); obtain ⟨mq, hlt, h⟩ := h; exact again2 mq _ _ _ ⟨_, _, _, _, _, h, rfl, hE2, hE3, hE11, hE12, hE13, hE14, hE36, hE37, rfl, (hS.sel [0, 1, 2, 3, 4, 5] (by decide))⟩ hlt
        · replace h := h.2 hp3; refine zd hp3 (yaH rfl (yaf (yak (zs (zq (yae hE14) (zq (ybc (n := v6.length) rfl underlying25 (ya2 (hS.rdo 0 rfl))) (zq zE (zq (za (.bool (decide (((v6.length : Nat) : Int) = 0)))) (yaa ?_))))))))); by_cases hp5 : ((v6.length : Nat) : Int) = 0
          · replace h := h.1 hp5; exact zc hp5 (zs (zq (yae hE12) (zq (za (.bool (true))) (zq (za (.slice Av2 lv2 cv2)) (zq (za (ii 0)) (yaa (yfS rfl rfl rfl rfl ⟨_, _, _, _, _, _, rfl, (hS.sel [5] (by decide)), h⟩)))))))
          · replace h := h.2 hp5; refine zd hp5 (zs (zq (yae hE12) (zn (yal rfl (am1 rfl) enter_182 ((ymB h (yaN _) (hS.rdo 5 rfl)).mono ?_))))); rintro _ w10 ⟨r3, rfl, hC, h⟩; replace hS := hS.pur hC.pure; clear hC; refine ⟨_, rfl, ?_⟩; refine zb (zq zL (zq (za (.bool (decide (r3 < 0)))) (yaa ?_))); by_cases hp6 : r3 < 0
            · replace h := h.1 hp6; exact zc hp6 (zs (zq (yae hE12) (zq (za (.bool (false))) (zq (za (.slice Av2 lv2 cv2)) (zq (za (ii 0)) (yaa (yfS rfl rfl rfl rfl ⟨_, _, _, _, _, _, rfl, (hS.sel [5] (by decide)), h⟩)))))))
            · replace h := h.2 hp6; refine zd hp6 (zs (zq (yae hE13) (zq zE (zq (za (.bool (decide (v3 = 1048576)))) (yaa ?_))))); by_cases hp7 : v3 = 1048576
              · replace h := h.1 hp7; refine zc hp7 (zs (zq (za (.bool (false))) (zq (za (.slice none 0 0)) (zq (za (ii 12)) (yaa ?_))))); replace hS := hS.nil 6 rfl cI 3; exact yfS rfl rfl rfl rfl ⟨_, _, _, _, _, _, rfl, (hS.sel [6] (by decide)), h⟩
              · replace h := h.2 hp7; refine zd hp7 (yag (yai (zs (zq (yae hE14) (zq (yae hE2) (zq (yae hE13) (zq (yae hE2) (zq (ybc (n := a.length) rfl underlying25 (ya2 (hS.rdr 1 rfl))) ?_)))))))); obtain ⟨hz, h⟩ := h; refine zq (v_rem rfl rfl hz) ?_; obtain ⟨hx3, h⟩ := h; refine zq (zi underlying25 yaj (ybh (hS.rdr 1 rfl) hx3)) (zq (yaA (v := (ii (gi a (v3.tmod ((a.length : Nat) : Int)).toNat))) rfl underlying3 rfl (rd_1 (hS.rdr 1 rfl) hx3 (fun q => ybs q) rfl)) ?_); refine zq (yae hE14) (zq (ybc (n := v6.length) rfl underlying25 (ya2 (hS.rdo 0 rfl))) ?_); obtain ⟨hz2, h⟩ := h; refine zq (v_rem rfl rfl hz2) ?_; obtain ⟨hx4, h⟩ := h; refine zq (zi underlying25 yaj (ybh (hS.rdo 0 rfl) hx4)) (zq (yaA (v := (ii (gi v6 ((gi a (v3.tmod ((a.length : Nat) : Int)).toNat).tmod ((v6.length : Nat) : Int)).toNat))) rfl underlying3 rfl (rd_1 (hS.rdo 0 rfl) hx4 (fun q => ybs q) rfl)) ?_); refine zq (za (ii (gi v6 ((gi a (v3.tmod ((a.length : Nat) : Int)).toNat).tmod ((v6.length : Nat) : Int)).toNat))) (yaa (zs (zq (yae hE12) (zq (zm (ii (gi v6 ((gi a (v3.tmod ((a.length : Nat) : Int)).toNat).tmod ((v6.length : Nat) : Int)).toNat))) ?_)))); obtain ⟨hx5, h⟩ := h; refine zq (zi underlying36 yaj (ybh (hS.rdo 5 rfl) hx5)) (zq (yaA (v := (ii (gi v5 (gi v6 ((gi a (v3.tmod ((a.length : Nat) : Int)).toNat).tmod ((v6.length : Nat) : Int)).toNat).toNat))) rfl underlying3 rfl (rd_1 (hS.rdo 5 rfl) hx5 (fun q => ybs q) rfl)) ?_); obtain ⟨hi3, h⟩ := h; refine zq (zS hi3) (zq (zi underlying36 yaj (ybh (hS.rdo 5 rfl) hx5)) (zo (zt (ii ((gi v5 (gi v6 ((gi a (v3.tmod ((a.length : Nat) : Int)).toNat).tmod ((v6.length : Nat) : Int)).toNat).toNat) - 1)) yaj (hS.wr 5 rfl rfl hx5) ?_))); intro w11 e1; replace hS := hS.st 5 rfl rfl hx5 (x := (gi v5 (gi v6 ((gi a (v3.tmod ((a.length : Nat) : Int)).toNat).tmod ((v6.length : Nat) : Int)).toNat).toNat) - 1) rfl e1; clear e1; refine zb (yaa (zr (zq (yav (vs := [(ii d), (.slice Ad ld cd)]) hE3 underlying24 rfl yas ⟨Row.cell (hS.bx 2 rfl) (i := 0) rfl, Row.cell (hS.bx 2 rfl) (i := 1) rfl, trivial⟩) (zq (yae hE11) (zq (zm (ii (gi v6 ((gi a (v3.tmod ((a.length : Nat) : Int)).toNat).tmod ((v6.length : Nat) : Int)).toNat))) ?_))))); have hB := hS.lend (asc [(4, 0)]) [3, 4] (by decide) ⟨.inr rfl, .inl (ycu rfl), trivial⟩; refine zn (yeH (vs := #[(.agg #[(ii d), (.slice Ad ld cd)]), (.slice Av lv cv), (ii (gi v6 ((gi a (v3.tmod ((a.length : Nat) : Int)).toNat).tmod ((v6.length : Nat) : Int)).toNat)), (ii 1)]) (us := #[]) rfl (am4 rfl rfl rfl rfl) enter_183 ((ybp (by simp) (ymZ h hB)).mono ?_)); rintro _ w12 ⟨y, rfl, hC, h⟩; replace hS := hS.back (asc [(4, 0)]) (yfu (by decide)) hC; clear hC hB; refine ⟨_, rfl, ?_⟩; refine zb (yaa (yai (zr (zq (yae hE13) ?_)))); obtain ⟨hi4, h⟩ := h; refine zq (zA hi4) (zq (za (ii (v3 + 1))) (yaa ?_)); obtain ⟨mq, hlt, h⟩ := h; exact again mq _ _ _ ⟨_, _, _, h, rfl, hE2, hE3, hE11, hE12, rfl, (hS.sel [1, 2, 3, 4, 5] (by decide))⟩ hlt
      clear hJ; intro j; refine wp_draw2 1 4 [0, 2, 3, 1, 5, 4, 6] [0, 2, 3, 4, 1, 5, 6] (fun i => match i with | 1 => [2, 3] | 4 => [0, 5] | _ => []) (fun i => match i with | 4 => [0] | 1 => [2, 3] | _ => []) yaQ (by kernel_rfl) (by kernel_rfl) ?_ ?_
      · replace h := h.1; replace hS := hS.drew; refine zp (zm (.slice Ai li ci)) (zp (yam rfl underlying24 rfl yaj) (zp (zl underlying3 (Row.cell (hS.bx 3 rfl) (i := 0) rfl)) (rp_n rfl rfl rfl rfl (yal rfl (am1 rfl) ynY ((ycB h (yaN _) (hS.rdr 1 rfl)).mono ?_))))); rintro _ w13 ⟨r4, Ar, lr, cr, rfl, hC, h⟩; replace hS := hS.call1 (hC.widen (yea (ybl (fI .i64) _ _ _ _ _) ye0) hS.blt) 4 0 rfl; clear hC; refine ⟨_, rfl, ?_⟩; refine ⟨⟨fun _ => (zl underlying3 (Row.cell (hS.bx 3 rfl) (i := 0) rfl)), ⟨fun _ => (yam rfl underlying24 rfl yaj), ⟨fun hh => Bool.noConfusion (show false = true from hh), trivial⟩⟩⟩, ?_⟩; refine zp (za (.slice Ar lr cr)) ?_; obtain ⟨hx6, h⟩ := h; refine rp_n rfl rfl rfl rfl (yky rfl rfl underlying36 yaj (by decide) rfl hx6 ?_); intro g3 w14 hN; replace hS := hS.made 5 rfl cI (ii 0) (0 : Int) (fun _ _ => rfl) hN (by omega); clear hN; refine ⟨⟨fun _ => (za (.slice Ar lr cr)), ⟨fun hh => Bool.noConfusion (show false = true from hh), ⟨fun hh => Bool.noConfusion (show false = true from hh), ⟨fun _ => (zm (.slice Ai li ci)), trivial⟩⟩⟩⟩, ?_⟩; exact zp (za (.slice (some ⟨g3, 0, none⟩) d.toNat d.toNat)) (yb4 (j _ _ _ ⟨_, _, _, _, _, _, _, _, h, rfl, rfl, rfl, rfl, rfl, (hS.sel [4, 5, 2, 3, 0] (by decide))⟩))
      · replace h := h.2; replace hS := hS.drew; refine zp (zm (.slice Ai li ci)) (zp (yam rfl underlying24 rfl yaj) (zp (zl underlying3 (Row.cell (hS.bx 3 rfl) (i := 0) rfl)) ?_)); obtain ⟨hx7, h⟩ := h; refine rp_n rfl rfl rfl rfl (yky rfl rfl underlying36 yaj (by decide) rfl hx7 ?_); intro g4 w15 hN; replace hS := hS.made 4 rfl cI (ii 0) (0 : Int) (fun _ _ => rfl) hN (by omega); clear hN; refine ⟨⟨fun hh => Bool.noConfusion (show false = true from hh), ⟨fun hh => Bool.noConfusion (show false = true from hh), ⟨fun _ => (zm (.slice Ai li ci)), trivial⟩⟩⟩, ?_⟩; refine rp_n rfl rfl rfl rfl (yal rfl (am1 rfl) ynY ((ycB h (yaN _) (hS.rdr 1 rfl)).mono ?_)); rintro _ w16 ⟨r5, Ar2, lr2, cr2, rfl, hC, h⟩; replace hS := hS.call1 (hC.widen (yea (ybl (fI .i64) _ _ _ _ _) ye0) hS.blt) 5 0 rfl; clear hC; refine ⟨_, rfl, ?_⟩; refine ⟨⟨fun _ => (zl underlying3 (Row.cell (hS.bx 3 rfl) (i := 0) rfl)), ⟨fun _ => (yam rfl underlying24 rfl yaj), ⟨fun hh => Bool.noConfusion (show false = true from hh), trivial⟩⟩⟩, ?_⟩; exact zp (za (.slice Ar2 lr2 cr2)) (zp (za (.slice (some ⟨g4, 0, none⟩) d.toNat d.toNat)) (yb4 (j _ _ _ ⟨_, _, _, _, _, _, _, _, h, rfl, rfl, rfl, rfl, rfl, (hS.sel [5, 4, 2, 3, 0] (by decide))⟩)))
    · replace h := h.2 hp2; refine zf hp2 (zs (zq (zm (ii r2)) (zq (za (.bool (false))) (zq (za (.slice none 0 0)) (zq (za (ii r2)) (yaa ?_)))))); replace hS := hS.nil 4 rfl cI 3; exact yfS rfl rfl rfl rfl ⟨_, _, _, _, _, _, rfl, (hS.sel [4] (by decide)), h⟩
  · replace h := h.2 hp; refine zf hp (zs (zq (zm (ii r)) (zq (za (.bool (false))) (zq (za (.slice none 0 0)) (zq (za (ii r)) (yaa ?_)))))); replace hS := hS.nil 4 rfl cI 3; exact yfS rfl rfl rfl rfl ⟨_, _, _, _, _, _, rfl, (hS.sel [4] (by decide)), h⟩
def yl3 (s : List Int) (R : (List Int) → Prop) : Prop :=
(0 < s.length ∧
((cpy (List.replicate 12 (0 : Int)) s).length = 12 ∧
R (cpy (List.replicate 12 (0 : Int)) s)))
theorem ym2 {O : Nat → Prop} {w : World} {s As ls cs} {R : (List Int) → Prop} (h : yl3 s R) (hO : ∀ k, O k → k < w.heap.size) (hA0 : (FP.sl cI As ls cs s).P O w) :
    Calls Tryz.prog 192 #[(.slice As ls cs)] w fun e w' => ∃ r, e = .returned (kE r) ∧ Sep w no O w' (rl []) ∧ R r := by
  unfold yl3 at h; have hS : Sep w no O w (rl [Res.ro (FP.sl cI As ls cs s)]) := Sep.startl hO [(FP.sl cI As ls cs s)] ⟨hA0, trivial⟩; refine yan (l := [(.slice As ls cs)]) func192 rfl ntmps192 (Nat.le_of_ble_eq_true rfl) (zs (zn (ybJ yme ?_))); intro g w2 hN; replace hS := hS.made (n := 12) 1 rfl cI (ii 0) (0 : Int) (fun _ _ => rfl) (hN : New _ _ _ (Array.replicate 12 (ii 0)) 191) (by decide); clear hN; refine zb (yaa (zs (zn (ybJ yme ?_)))); intro g2 w3 hN; replace hS := hS.made (n := 12) 2 rfl cI (ii 0) (0 : Int) (fun _ _ => rfl) (hN : New _ _ _ (Array.replicate 12 (ii 0)) 191) (by decide); clear hN; refine zb (yaa (zs (zq (ykw rfl underlying191 yaj) (zq (zm (.slice As ls cs)) ?_)))); obtain ⟨hx, h⟩ := h; refine zn (n_cpy rfl rfl underlying25 yaj hS 2 rfl (hS.rdr 0 rfl) hx ?_); clear hS; intro w4 hS; refine zb (yaa (zs (zq (yav (vs := (cpy (List.replicate 12 (0 : Int)) s).map (.int .i64)) rfl underlying191 rfl (ygv yme (hS.rdo 2 rfl)) (yfG (hS.rdo 2 rfl))) ?_))); obtain ⟨hx2, h⟩ := h; refine zo (n_starr rfl rfl yme hS 1 rfl hx2 ?_); clear hS; intro w5 hS; exact zb (yaa (wt_retx1 rfl (rv_a rfl underlying191 rfl yme hS 1 rfl) ⟨_, rfl, (hS.sel [] (by decide)), h⟩))
def ylD (x : Int) (x2 : List E3) (x3 : List Int) (x4 : Int) (x5 : Int) (s : List Int) (R : (List Int) → Prop) : Prop :=
yaM x3 (fun r =>
(∃ I2 : Nat → Int → (List Int) → Prop, (∃ m0, I2 m0 0 r) ∧ ∀ m2 v out, I2 m2 v out → 
((v < ((x2.length : Nat) : Int) →
((0 ≤ v ∧ v < ((x2.length : Nat) : Int)) ∧
((0 ≤ ((ge x2 v.toNat).1) ∧ ((ge x2 v.toNat).1) < ((s.length : Nat) : Int)) ∧
((0 ≤ ((ge x2 v.toNat).2.1) ∧ ((ge x2 v.toNat).2.1) < ((s.length : Nat) : Int)) ∧
(In64 ((gi s ((ge x2 v.toNat).1).toNat) - (gi s ((ge x2 v.toNat).2.1).toNat)) ∧
(In64 (((ge x2 v.toNat).2.2) * ((gi s ((ge x2 v.toNat).1).toNat) - (gi s ((ge x2 v.toNat).2.1).toNat))) ∧
((0 ≤ ((ge x2 v.toNat).1) ∧ ((ge x2 v.toNat).1) < ((out.length : Nat) : Int)) ∧
(In64 ((gi out ((ge x2 v.toNat).1).toNat) - (((ge x2 v.toNat).2.2) * ((gi s ((ge x2 v.toNat).1).toNat) - (gi s ((ge x2 v.toNat).2.1).toNat)))) ∧
((0 ≤ ((ge x2 v.toNat).2.1) ∧ ((ge x2 v.toNat).2.1) < (((out.set ((ge x2 v.toNat).1).toNat ((gi out ((ge x2 v.toNat).1).toNat) - (((ge x2 v.toNat).2.2) * ((gi s ((ge x2 v.toNat).1).toNat) - (gi s ((ge x2 v.toNat).2.1).toNat))))).length : Nat) : Int)) ∧
(In64 ((gi (out.set ((ge x2 v.toNat).1).toNat ((gi out ((ge x2 v.toNat).1).toNat) - (((ge x2 v.toNat).2.2) * ((gi s ((ge x2 v.toNat).1).toNat) - (gi s ((ge x2 v.toNat).2.1).toNat))))) ((ge x2 v.toNat).2.1).toNat) + (((ge x2 v.toNat).2.2) * ((gi s ((ge x2 v.toNat).1).toNat) - (gi s ((ge x2 v.toNat).2.1).toNat)))) ∧
(In64 (v + 1) ∧
∃ m3, m3 < m2 ∧ I2 m3 (v + 1) ((out.set ((ge x2 v.toNat).1).toNat ((gi out ((ge x2 v.toNat).1).toNat) - (((ge x2 v.toNat).2.2) * ((gi s ((ge x2 v.toNat).1).toNat) - (gi s ((ge x2 v.toNat).2.1).toNat))))).set ((ge x2 v.toNat).2.1).toNat ((gi (out.set ((ge x2 v.toNat).1).toNat ((gi out ((ge x2 v.toNat).1).toNat) - (((ge x2 v.toNat).2.2) * ((gi s ((ge x2 v.toNat).1).toNat) - (gi s ((ge x2 v.toNat).2.1).toNat))))) ((ge x2 v.toNat).2.1).toNat) + (((ge x2 v.toNat).2.2) * ((gi s ((ge x2 v.toNat).1).toNat) - (gi s ((ge x2 v.toNat).2.1).toNat)))))))))))))))) ∧
(¬ (v < ((x2.length : Nat) : Int)) →
R out))))
theorem yl5 {S O : Nat → Prop} {w : World} {x x2 x3 x4 x5 s gc Ax lx cx Ax2 lx2 cx2 As ls cs} {R : (List Int) → Prop} (h : ylD x x2 x3 x4 x5 s R) (hS : Sep w S O w (rl [Res.box 135 gc [(Value.int .i64 x), (Value.slice Ax lx cx), (Value.slice Ax2 lx2 cx2), (Value.int .i64 x4), (Value.int .i64 x5)], Res.ro (FP.sl c3 Ax lx cx x2), Res.ro (FP.sl cI Ax2 lx2 cx2 x3), Res.ro (FP.sl cI As ls cs s)])) :
    Calls Tryz.prog 189 #[(.pointer (some (⟨gc, 0, none⟩ : Addr))), (.slice As ls cs)] w fun e w' => ∃ r2 Ar2 lr2 cr2, e = .returned (.slice Ar2 lr2 cr2) ∧ Sep w S O w' (rl [Res.box 135 gc [(ii x), (.slice Ax lx cx), (.slice Ax2 lx2 cx2), (ii x4), (ii x5)], Res.own cI 3 Ar2 lr2 cr2 r2]) ∧ R r2 := by
  unfold ylD at h; refine yan (l := [(.pointer (some (⟨gc, 0, none⟩ : Addr))), (.slice As ls cs)]) func189 rfl ntmps189 (Nat.le_of_ble_eq_true rfl) (zs (zq (za (.slice none 0 0)) (yaa (zs (zq (zm (.pointer (some (⟨gc, 0, none⟩ : Addr)))) (zq (ycz rfl) (zq (yam rfl underlying135 rfl ya0) (zq (zl underlying26 (Row.cell (hS.bx 0 rfl) (i := 2) rfl)) (zn (yal rfl (am1 rfl) ynY ((ycB h (yaN _) (hS.rdr 2 rfl)).mono ?_))))))))))); rintro _ w2 ⟨r, Ar, lr, cr, rfl, hC, h⟩; replace hS := hS.call1 (hC.widen (yea (ybl (fI .i64) _ _ _ _ _) ye0) hS.blt) 4 0 rfl; clear hC; refine ⟨_, rfl, ?_⟩; refine zb (zq (za (.slice Ar lr cr)) (yaa (yaf (zs (zq (zm (.pointer (some (⟨gc, 0, none⟩ : Addr)))) (zq (ycz rfl) (zq (yam rfl underlying135 rfl yas) (zq (yam rfl underlying24 rfl ydy) (zq (zl underlying22 (Row.cell (hS.bx 0 rfl) (i := 1) rfl)) (zq (ybc (n := x2.length) rfl underlying22 (ya2 (hS.rdr 1 rfl))) (zq (zm (ii 0)) (yaa (yak ?_))))))))))))); obtain ⟨I2, ⟨m0, h0⟩, hr⟩ := h; refine yaO (fun m E ds w' => ∃ v out, I2 m v out ∧ ds = [] ∧ E 0 = (Value.pointer (some (⟨gc, 0, none⟩ : Addr))) ∧ E 1 = (Value.slice As ls cs) ∧ E 5 = (Value.slice Ar lr cr) ∧ E 18 = (Value.slice Ax lx cx) ∧ E 19 = (ii ((x2.length : Nat) : Int)) ∧ E 20 = (ii v) ∧ Sep w S O w' (rl [Res.box 135 gc [(ii x), (.slice Ax lx cx), (.slice Ax2 lx2 cx2), (ii x4), (ii x5)], Res.ro (FP.sl c3 Ax lx cx x2), Res.ro (FP.sl cI Ax2 lx2 cx2 x3), Res.ro (FP.sl cI As ls cs s), Res.own cI 3 Ar lr cr out])) m0 ⟨_, _, h0, rfl, rfl, rfl, rfl, rfl, rfl, rfl, (hS.sel [0, 1, 2, 3, 4] (by decide))⟩ ?_; clear h0 hS; rintro m2 E ds w3 ⟨v, out, h, rfl, hE0, hE1, hE5, hE18, hE19, hE20, hS⟩ again; replace h := hr m2 v out h; clear hr; refine zs (zq (yd4 hE20 hE19) (yaa (yaf ?_))); by_cases hp : v < ((x2.length : Nat) : Int)
  · replace h := h.1 hp; refine zc hp (yag (yaf (yak (zs ?_)))); obtain ⟨hx, h⟩ := h; refine zq (yeK hE18 hE20 underlying22 ybf (ybh (hS.rdr 1 rfl) hx)) (zq (yav (vs := [(ii ((ge x2 v.toNat).1)), (ii ((ge x2 v.toNat).2.1)), (ii ((ge x2 v.toNat).2.2))]) rfl underlying95 rfl ybf (yn2 (hS.rdr 1 rfl) hx (fun q => yd6 q))) ?_); refine zn (ybJ ybf ?_); intro g w4 hN; replace hS : Sep w S O w4 (stl _ 5 (Res.box 95 g [(ii 0), (ii 0), (ii 0)])) := hS.new 5 rfl hN; clear hN; refine zb (zo (yeb (b := g) (o := 0) (cells := #[(ii ((ge x2 v.toNat).1)), (ii ((ge x2 v.toNat).2.1)), (ii ((ge x2 v.toNat).2.2))]) rfl rfl ybf rfl rfl (yc7 (hS.bx 5 rfl) (Nat.le_of_ble_eq_true rfl)) ?_)); intro w5 e1; replace hS := hS.bstn 5 rfl 0 [(ii ((ge x2 v.toNat).1)), (ii ((ge x2 v.toNat).2.1)), (ii ((ge x2 v.toNat).2.2))] e1; clear e1; refine zb (yaa (yaf (ybt [0, 1, 2, 3, 4, 5, 6, 7, 8, 9, 10, 11, 12, 13, 14] st0 yaQ (by kernel_rfl) (by kernel_rfl) ?_))); replace hS := hS.drew; refine zp (yam rfl underlying95 rfl yaj) (zp (zl underlying3 (Row.cell (hS.bx 5 rfl) (i := 2) rfl)) (zp (yae hE1) (zp (yam rfl underlying95 rfl yaj) (zp (zl underlying3 (Row.cell (hS.bx 5 rfl) (i := 0) rfl)) ?_)))); obtain ⟨hx2, h⟩ := h; refine zp (zi underlying36 yaj (ybh (hS.rdr 3 rfl) hx2)) (zp (yaA (v := (ii (gi s ((ge x2 v.toNat).1).toNat))) rfl underlying3 rfl (rd_1 (hS.rdr 3 rfl) hx2 (fun q => ybs q) rfl)) ?_); refine zp (yae hE1) (zp (yam rfl underlying95 rfl yaj) (zp (zl underlying3 (Row.cell (hS.bx 5 rfl) (i := 1) rfl)) ?_)); obtain ⟨hx3, h⟩ := h; refine zp (zi underlying36 yaj (ybh (hS.rdr 3 rfl) hx3)) (zp (yaA (v := (ii (gi s ((ge x2 v.toNat).2.1).toNat))) rfl underlying3 rfl (rd_1 (hS.rdr 3 rfl) hx3 (fun q => ybs q) rfl)) ?_); obtain ⟨hi, h⟩ := h; refine zp (zS hi) ?_; obtain ⟨hi2, h⟩ := h; refine zp (v_mul rfl rfl hi2) (zp (za (ii (((ge x2 v.toNat).2.2) * ((gi s ((ge x2 v.toNat).1).toNat) - (gi s ((ge x2 v.toNat).2.1).toNat))))) (yb4 (zs (zq (yae hE5) (zq (yam rfl underlying95 rfl yaj) (zq (zl underlying3 (Row.cell (hS.bx 5 rfl) (i := 0) rfl)) ?_)))))); obtain ⟨hx4, h⟩ := h; refine zq (zi underlying26 yaj (ybh (hS.rdo 4 rfl) hx4)) (zq (yaA (v := (ii (gi out ((ge x2 v.toNat).1).toNat))) rfl underlying3 rfl (rd_1 (hS.rdo 4 rfl) hx4 (fun q => ybs q) rfl)) ?_); refine zq (zm (ii (((ge x2 v.toNat).2.2) * ((gi s ((ge x2 v.toNat).1).toNat) - (gi s ((ge x2 v.toNat).2.1).toNat))))) ?_; obtain ⟨hi3, h⟩ := h; refine zq (zS hi3) (zq (zi underlying26 yaj (ybh (hS.rdo 4 rfl) hx4)) (zo (zt (ii ((gi out ((ge x2 v.toNat).1).toNat) - (((ge x2 v.toNat).2.2) * ((gi s ((ge x2 v.toNat).1).toNat) - (gi s ((ge x2 v.toNat).2.1).toNat))))) yaj (hS.wr 4 rfl rfl hx4) ?_))); intro w6 e1; replace hS := hS.st 4 rfl rfl hx4 (x := (gi out ((ge x2 v.toNat).1).toNat) - (((ge x2 v.toNat).2.2) * ((gi s ((ge x2 v.toNat).1).toNat) - (gi s ((ge x2 v.toNat).2.1).toNat)))) rfl e1; clear e1; refine zb (yaa (zr (zq (yae hE5) (zq (yam rfl underlying95 rfl yaj) (zq (zl underlying3 (Row.cell (hS.bx 5 rfl) (i := 1) rfl)) ?_))))); obtain ⟨hx5, h⟩ := h; refine zq (zi underlying26 yaj (ybh (hS.rdo 4 rfl) hx5)) (zq (yaA (v := (ii (gi (out.set ((ge x2 v.toNat).1).toNat ((gi out ((ge x2 v.toNat).1).toNat) - (((ge x2 v.toNat).2.2) * ((gi s ((ge x2 v.toNat).1).toNat) - (gi s ((ge x2 v.toNat).2.1).toNat))))) ((ge x2 v.toNat).2.1).toNat))) rfl underlying3 rfl (rd_1 (hS.rdo 4 rfl) hx5 (fun q => ybs q) rfl)) ?_); refine zq (zm (ii (((ge x2 v.toNat).2.2) * ((gi s ((ge x2 v.toNat).1).toNat) - (gi s ((ge x2 v.toNat).2.1).toNat))))) ?_; obtain ⟨hi4, h⟩ := h; refine zq (zA hi4) (zq (zi underlying26 yaj (ybh (hS.rdo 4 rfl) hx5)) (zo (zt (ii ((gi (out.set ((ge x2 v.toNat).1).toNat ((gi out ((ge x2 v.toNat).1).toNat) - (((ge x2 v.toNat).2.2) * ((gi s ((ge x2 v.toNat).1).toNat) - (gi s ((ge x2 v.toNat).2.1).toNat))))) ((ge x2 v.toNat).2.1).toNat) + (((ge x2 v.toNat).2.2) * ((gi s ((ge x2 v.toNat).1).toNat) - (gi s ((ge x2 v.toNat).2.1).toNat))))) yaj (hS.wr 4 rfl rfl hx5) ?_))); intro w7 e1; replace hS := hS.st 4 rfl rfl hx5 (x := (gi (out.set ((ge x2 v.toNat).1).toNat ((gi out ((ge x2 v.toNat).1).toNat) - (((ge x2 v.toNat).2.2) * ((gi s ((ge x2 v.toNat).1).toNat) - (gi s ((ge x2 v.toNat).2.1).toNat))))) ((ge x2 v.toNat).2.1).toNat) + (((ge x2 v.toNat).2.2) * ((gi s ((ge x2 v.toNat).1).toNat) - (gi s ((ge x2 v.toNat).2.1).toNat)))) rfl e1; clear e1; refine zb (yaa (yai (zr ?_))); obtain ⟨hi5, h⟩ := h; refine zq (ycv hE20 rfl hi5) (zq (zm (ii (v + 1))) (yaa ?_)); obtain ⟨mq, hlt, h⟩ := h; exact again mq _ _ _ ⟨_, _, h, rfl, hE0, hE1, hE5, hE18, hE19, rfl, (hS.sel [0, 1, 2, 3, 4] (by decide))⟩ hlt
  · replace h := h.2 hp; exact zd hp (yaH rfl (zs (zq (yae hE5) (zq (za (.slice Ar lr cr)) (yaa (yah rfl rfl ⟨_, _, _, _, rfl, (hS.sel [0, 4] (by decide)), h⟩))))))
def ylI (x : Int) (x2 : List E3) (x3 : List Int) (x4 : Int) (x5 : Int) (l : List (List Int)) (R : (List Int) → Prop) : Prop :=
(∃ I2 : Nat → (List Int) → Int → Prop, (∃ m0, I2 m0 ([]) 0) ∧ ∀ m2 best v, I2 m2 best v → 
((v < ((l.length : Nat) : Int) →
((0 ≤ v ∧ v < ((l.length : Nat) : Int)) ∧
ylD x x2 x3 x4 x5 (gx l v.toNat) (fun r =>
yl0 r (fun r2 =>
((r2 = 0 →
((best = [] →
(In64 (v + 1) ∧
((gx l v.toNat) ≠ [] ∧
∃ m3, m3 < m2 ∧ I2 m3 (gx l v.toNat) (v + 1)))) ∧
(¬ (best = []) →
ylH (gx l v.toNat) best (fun r3 =>
((r3 < 0 →
(In64 (v + 1) ∧
((gx l v.toNat) ≠ [] ∧
∃ m4, m4 < m2 ∧ I2 m4 (gx l v.toNat) (v + 1)))) ∧
(¬ (r3 < 0) →
(In64 (v + 1) ∧
∃ m5, m5 < m2 ∧ I2 m5 best (v + 1)))))))) ∧
(¬ (r2 = 0) →
(In64 (v + 1) ∧
∃ m6, m6 < m2 ∧ I2 m6 best (v + 1)))))))) ∧
(¬ (v < ((l.length : Nat) : Int)) →
R best)))
theorem ymr {S O : Nat → Prop} {w : World} {x x2 x3 x4 x5 l gc Ax lx cx Ax2 lx2 cx2 Al ll cl} {R : (List Int) → Prop} (h : ylI x x2 x3 x4 x5 l R) (hS : Sep w S O w (rl [Res.box 135 gc [(Value.int .i64 x), (Value.slice Ax lx cx), (Value.slice Ax2 lx2 cx2), (Value.int .i64 x4), (Value.int .i64 x5)], Res.ro (FP.sl c3 Ax lx cx x2), Res.ro (FP.sl cI Ax2 lx2 cx2 x3), Res.ro (FP.sl (cL cI) Al ll cl l)])) :
    Calls Tryz.prog 134 #[(.pointer (some (⟨gc, 0, none⟩ : Addr))), (.slice Al ll cl)] w fun e w' => ∃ r4 Ar2 lr2 cr2, e = .returned (.slice Ar2 lr2 cr2) ∧ Option.isNone Ar2 = decide (r4 = []) ∧ Sep w S O w' (rl [Res.box 135 gc [(ii x), (.slice Ax lx cx), (.slice Ax2 lx2 cx2), (ii x4), (ii x5)], Res.ro (FP.sl cI Ar2 lr2 cr2 r4)]) ∧ R r4 := by
  unfold ylI at h; refine yan (l := [(.pointer (some (⟨gc, 0, none⟩ : Addr))), (.slice Al ll cl)]) func134 rfl ntmps134 (Nat.le_of_ble_eq_true rfl) (zs (zq (za (.slice none 0 0)) (yaa (zs (zq (za (.slice none 0 0)) (yaa (yaf (zs (zq (zm (.slice Al ll cl)) (zq (ybc (n := l.length) rfl underlying136 (ya2 (hS.rdr 3 rfl))) (zq (zm (ii 0)) (yaa (yak ?_))))))))))))); replace hS := hS.addro 4 rfl _ (yhk cI _ _); obtain ⟨I2, ⟨m0, h0⟩, hr⟩ := h; refine yaO (fun m E ds w' => ∃ best v Abest lbest cbest, I2 m best v ∧ ds = [] ∧ E 0 = (Value.pointer (some (⟨gc, 0, none⟩ : Addr))) ∧ E 5 = (Value.slice Abest lbest cbest) ∧ E 8 = (Value.slice Al ll cl) ∧ E 9 = (ii ((l.length : Nat) : Int)) ∧ E 10 = (ii v) ∧ Option.isNone Abest = decide (best = []) ∧ Sep w S O w' (rl [Res.ro (FP.sl cI Abest lbest cbest best), Res.box 135 gc [(ii x), (.slice Ax lx cx), (.slice Ax2 lx2 cx2), (ii x4), (ii x5)], Res.ro (FP.sl c3 Ax lx cx x2), Res.ro (FP.sl cI Ax2 lx2 cx2 x3), Res.ro (FP.sl (cL cI) Al ll cl l)])) m0 ⟨_, _, _, _, _, h0, rfl, rfl, rfl, rfl, rfl, rfl, nn_nil, (hS.sel [4, 0, 1, 2, 3] (by decide))⟩ ?_; clear h0 hS; rintro m2 E ds w2 ⟨best, v, Abest, lbest, cbest, h, rfl, hE0, hE5, hE8, hE9, hE10, hnn5, hS⟩ again; replace h := hr m2 best v h; clear hr; refine zs (zq (yd4 hE10 hE9) (yaa (yaf ?_))); by_cases hp : v < ((l.length : Nat) : Int)
  · replace h := h.1 hp; refine zc hp (yag (yaf (yak (zs ?_)))); obtain ⟨hx, h⟩ := h; refine zq (yeK hE8 hE10 underlying136 yeN (ybh (hS.rdr 4 rfl) hx)) ?_; obtain ⟨A, l2, c, hc, hq⟩ := hS.el 4 rfl hx 5 6 rfl rfl (by decide); replace hS := hq; clear hq; refine zq (yaA (v := (.slice A l2 c)) rfl underlying36 rfl (hS.clr 6 rfl)) (zq (za (.slice A l2 c)) (yaa (zs (zq (yae (v := (.pointer (some (⟨gc, 0, none⟩ : Addr)))) hE0) (zq (zm (.slice A l2 c)) ?_))))); have hB := hS.lend (asc [(1, 0), (7, 1)]) [1, 2, 3, 5] (by decide) ⟨.inl (ycu rfl), .inr rfl, .inr rfl, .inr rfl, trivial⟩; refine zn (yeH (vs := #[(.pointer (some (⟨gc, 0, none⟩ : Addr))), (.slice A l2 c)]) (us := #[]) rfl (am2 rfl rfl) enter_189 ((ybp (by simp) (yl5 h hB)).mono ?_)); rintro _ w3 ⟨r, Ar, lr, cr, rfl, hC, h⟩; replace hS := hS.back (asc [(1, 0), (7, 1)]) (yfu (by decide)) hC; clear hC hB; refine ⟨_, rfl, ?_⟩; refine zb (zn (yal rfl (am1 rfl) enter_188 ((ymF h (yaN _) (hS.rdo 7 rfl)).mono ?_))); rintro _ w4 ⟨r2, rfl, hC, h⟩; replace hS := hS.pur hC.pure; clear hC; refine ⟨_, rfl, ?_⟩; refine zb (zq zE (zq (zm (.bool (decide (r2 = 0)))) ?_)); by_cases hp2 : r2 = 0
    · replace h := h.1 hp2; refine rl_q (yad rfl (yac rfl (congrArg Value.bool (decide_eq_true hp2)))) rfl rfl (yae hE5) (rl_q (yad rfl (yac rfl (congrArg Value.bool (decide_eq_true hp2)))) rfl rfl (v_seqlx rfl rfl underlying36 hnn5) (rl_q (yad rfl (yac rfl (congrArg Value.bool (decide_eq_true hp2)))) rfl rfl (zm (.bool (decide (best = [])))) ?_)); by_cases hp3 : best = []
      · replace h := h.1 hp3; refine rl_p (yab rfl (yac rfl (congrArg Value.bool (decide_eq_true hp3))) rfl) rfl (rl_p (yab rfl (yac rfl (congrArg Value.bool (decide_eq_true hp3))) rfl) rfl (rl_p (yab rfl (yac rfl (congrArg Value.bool (decide_eq_true hp3))) rfl) rfl (rl_p (yab rfl (yac rfl (congrArg Value.bool (decide_eq_true hp3))) rfl) rfl (rl_q (yad rfl (yac rfl (congrArg Value.bool (decide_eq_true hp2)))) rfl rfl (yao (v := (.bool (true))) (congrArg Value.bool (decide_eq_true hp3)) rfl) (zq (yao (v := (.bool (true))) (congrArg Value.bool (decide_eq_true hp2)) rfl) (yaa (yaq rfl (zr (zq (zm (.slice A l2 c)) (zq (za (.slice A l2 c)) (yaa (yai (zr ?_))))))))))))); obtain ⟨hi, h⟩ := h; refine zq (ycv hE10 rfl hi) (zq (zm (ii (v + 1))) (yaa ?_)); obtain ⟨hne, h⟩ := h; obtain ⟨mq, hlt, h⟩ := h; exact again mq _ _ _ ⟨_, _, _, _, _, h, rfl, hE0, rfl, hE8, hE9, rfl, (nn_ne (hS.rdr 5 rfl) hne), (hS.sel [5, 1, 2, 3, 4] (by decide))⟩ hlt
      · replace h := h.2 hp3; refine rl_q (yad rfl (yac rfl (congrArg Value.bool (decide_eq_false hp3)))) rfl rfl (zm (.slice A l2 c)) (rl_q (yad rfl (yac rfl (congrArg Value.bool (decide_eq_false hp3)))) rfl rfl (yae hE5) (rl_n (yad rfl (yac rfl (congrArg Value.bool (decide_eq_false hp3)))) rfl rfl rfl (yal rfl (am2 rfl rfl) enter_190 ((ymn h (yaN _) (hS.rdr 5 rfl) (hS.rdr 0 rfl)).mono ?_)))); rintro _ w5 ⟨r3, rfl, hC, h⟩; replace hS := hS.pur hC.pure; clear hC; refine ⟨_, rfl, ?_⟩; refine zb (rl_q (yad rfl (yac rfl (congrArg Value.bool (decide_eq_false hp3)))) rfl rfl zL (rl_q (yad rfl (yac rfl (congrArg Value.bool (decide_eq_true hp2)))) rfl rfl (yap (v := (.bool (decide (r3 < 0)))) (congrArg Value.bool (decide_eq_false hp3)) rfl) (zq (yao (v := (.bool (decide (r3 < 0)))) (congrArg Value.bool (decide_eq_true hp2)) rfl) (yaa ?_)))); by_cases hp4 : r3 < 0
        · replace h := h.1 hp4; refine zc hp4 (zr (zq (zm (.slice A l2 c)) (zq (za (.slice A l2 c)) (yaa (yai (zr ?_)))))); obtain ⟨hi2, h⟩ := h; refine zq (ycv hE10 rfl hi2) (zq (zm (ii (v + 1))) (yaa ?_)); obtain ⟨hne2, h⟩ := h; obtain ⟨mq, hlt, h⟩ := h; exact again mq _ _ _ ⟨_, _, _, _, _, h, rfl, hE0, rfl, hE8, hE9, rfl, (nn_ne (hS.rdr 5 rfl) hne2), (hS.sel [5, 1, 2, 3, 4] (by decide))⟩ hlt
        · replace h := h.2 hp4; refine zd hp4 (yag (yai (zr ?_))); obtain ⟨hi3, h⟩ := h; refine zq (ycv hE10 rfl hi3) (zq (zm (ii (v + 1))) (yaa ?_)); obtain ⟨mq, hlt, h⟩ := h; exact again mq _ _ _ ⟨_, _, _, _, _, h, rfl, hE0, hE5, hE8, hE9, rfl, hnn5, (hS.sel [0, 1, 2, 3, 4] (by decide))⟩ hlt
    · replace h := h.2 hp2; refine rl_p (yab rfl (yac rfl (congrArg Value.bool (decide_eq_false hp2))) rfl) rfl (rl_p (yab rfl (yac rfl (congrArg Value.bool (decide_eq_false hp2))) rfl) rfl (rl_p (yab rfl (yac rfl (congrArg Value.bool (decide_eq_false hp2))) rfl) rfl (rl_p (yaB rfl rfl) rfl (rl_p (yaB rfl rfl) rfl (rl_p (yaB rfl rfl) rfl (rl_p (yaB rfl rfl) rfl (rl_p (yab rfl (yac rfl (congrArg Value.bool (decide_eq_false hp2))) rfl) rfl (zq (yap (v := (.bool (false))) (congrArg Value.bool (decide_eq_false hp2)) rfl) (yaa (yax rfl (yag (yai (zr ?_))))))))))))); obtain ⟨hi4, h⟩ := h; refine zq (ycv hE10 rfl hi4) (zq (zm (ii (v + 1))) (yaa ?_)); obtain ⟨mq, hlt, h⟩ := h; exact again mq _ _ _ ⟨_, _, _, _, _, h, rfl, hE0, hE5, hE8, hE9, rfl, hnn5, (hS.sel [0, 1, 2, 3, 4] (by decide))⟩ hlt
  · replace h := h.2 hp; exact zd hp (yaH rfl (zs (zq (yae hE5) (zq (za (.slice Abest lbest cbest)) (yaa (yah rfl rfl ⟨_, _, _, _, rfl, hnn5, (hS.sel [1, 0] (by decide)), h⟩))))))
def ylM (d : Int) (d2 : List E3) (d3 : List Int) (d4 : Int) (d5 : Int) (i : List (List Int)) (a : Int) (R : (List (List Int)) → Prop) : Prop :=
(∃ I2 : Nat → (List (List Int)) → Int → (List (List Int × Bool)) → Prop, (∃ m0, I2 m0 ([]) 0 ([] : List (List Int × Bool))) ∧ ∀ m2 v v2 v3, I2 m2 v v2 v3 → 
((v2 < ((i.length : Nat) : Int) →
((0 ≤ v2 ∧ v2 < ((i.length : Nat) : Int)) ∧
(∃ I3 : Nat → (List (List Int)) → Int → (List (List Int × Bool)) → Prop, (∃ m0, I3 m0 v 0 v3) ∧ ∀ m3 v4 v5 v6, I3 m3 v4 v5 v6 → 
((v5 < (((gx i v2.toNat).length : Nat) : Int) →
((0 ≤ v5 ∧ v5 < (((gx i v2.toNat).length : Nat) : Int)) ∧
(∃ I4 : Nat → (List (List Int)) → Int → (List (List Int × Bool)) → Prop, (∃ m0, I4 m0 v4 0 v6) ∧ ∀ m4 v7 v8 v9, I4 m4 v7 v8 v9 → 
((v8 < 2 →
((0 ≤ v8 ∧ v8 < 2) ∧
(In64 ((gi (gx i v2.toNat) v5.toNat) * (gi [-1, 1] v8.toNat)) ∧
((((gi (gx i v2.toNat) v5.toNat) * (gi [-1, 1] v8.toNat)) < 0 →
(In64 (v8 + 1) ∧
∃ m5, m5 < m4 ∧ I4 m5 v7 (v8 + 1) v9)) ∧
(¬ (((gi (gx i v2.toNat) v5.toNat) * (gi [-1, 1] v8.toNat)) < 0) →
ylJ (gx i v2.toNat) (fun r =>
((0 ≤ v5 ∧ v5 < ((r.length : Nat) : Int)) ∧
(In64 ((gi r v5.toNat) + (gi [-1, 1] v8.toNat)) ∧
yl3 (r.set v5.toNat ((gi r v5.toNat) + (gi [-1, 1] v8.toNat))) (fun r2 =>
(r2.length = 12 ∧
(KOk 12 v9 ∧
yfx 12 r2 ∧
((((mget v9 r2).getD false) = true →
(In64 (v8 + 1) ∧
∃ m6, m6 < m4 ∧ I4 m6 v7 (v8 + 1) v9)) ∧
(¬ (((mget v9 r2).getD false) = true) →
(In64 (a + 1) ∧
ylD d d2 d3 d4 d5 (r.set v5.toNat ((gi r v5.toNat) + (gi [-1, 1] v8.toNat))) (fun r3 =>
yl2 r3 d4 (fun r4 =>
(In64 ((a + 1) + r4) ∧
((((a + 1) + r4) ≤ d5 →
(v7.length + 1 ≤ 1000000000 ∧
(In64 (v8 + 1) ∧
∃ m7, m7 < m4 ∧ I4 m7 (v7 ++ [(r.set v5.toNat ((gi r v5.toNat) + (gi [-1, 1] v8.toNat)))]) (v8 + 1) (mput v9 r2 true)))) ∧
(¬ (((a + 1) + r4) ≤ d5) →
(In64 (v8 + 1) ∧
∃ m8, m8 < m4 ∧ I4 m8 v7 (v8 + 1) (mput v9 r2 true))))))))))))))))))))) ∧
(¬ (v8 < 2) →
(In64 (v5 + 1) ∧
∃ m9, m9 < m3 ∧ I3 m9 v7 (v5 + 1) v9)))))) ∧
(¬ (v5 < (((gx i v2.toNat).length : Nat) : Int)) →
(In64 (v2 + 1) ∧
∃ m10, m10 < m2 ∧ I2 m10 v4 (v2 + 1) v6)))))) ∧
(¬ (v2 < ((i.length : Nat) : Int)) →
R v)))
theorem ymz {S O : Nat → Prop} {w : World} {d d2 d3 d4 d5 i a gc Ad ld cd Ad2 ld2 cd2 Ai li ci} {R : (List (List Int)) → Prop} (h : ylM d d2 d3 d4 d5 i a R) (hS : Sep w S O w (rl [Res.box 135 gc [(Value.int .i64 d), (Value.slice Ad ld cd), (Value.slice Ad2 ld2 cd2), (Value.int .i64 d4), (Value.int .i64 d5)], Res.ro (FP.sl c3 Ad ld cd d2), Res.ro (FP.sl cI Ad2 ld2 cd2 d3), Res.ro (FP.sl (cL cI) Ai li ci i)])) :
    Calls Tryz.prog 135 #[(.pointer (some (⟨gc, 0, none⟩ : Addr))), (.slice Ai li ci), (ii a)] w fun e w' => ∃ r5 Ar3 lr3 cr3, e = .returned (.slice Ar3 lr3 cr3) ∧ Sep w S O w' (rl [Res.box 135 gc [(ii d), (.slice Ad ld cd), (.slice Ad2 ld2 cd2), (ii d4), (ii d5)], Res.own (cL cI) 36 Ar3 lr3 cr3 r5]) ∧ R r5 := by
  unfold ylM at h; refine yan (l := [(.pointer (some (⟨gc, 0, none⟩ : Addr))), (.slice Ai li ci), (ii a)]) func135 rfl ntmps135 (Nat.le_of_ble_eq_true rfl) (zs (zq (za (.slice none 0 0)) (yaa (zs (zn (n_mkmap (vE := Value.bool) rfl ?_)))))); intro g w2 e1 e2; replace hS : Sep w S O w2 (stl _ 4 (Res.obj g (mapO Value.bool ([] : List (List Int × Bool))))) := hS.newm 4 rfl e1 e2; clear e1 e2; refine zb (zq (za (Value.map (some g))) (yaa (zs (zq (za (.slice none 0 0)) (yaa (yaf (zs (zq (zm (.slice Ai li ci)) (zq (ybc (n := i.length) rfl underlying136 (ya2 (hS.rdr 3 rfl))) (zq (zm (ii 0)) (yaa (yak ?_)))))))))))); replace hS := hS.nil 5 rfl (cL cI) 36; obtain ⟨I2, ⟨m0, h0⟩, hr⟩ := h; refine yaO (fun m E ds w' => ∃ v v2 v3 Av lv cv, I2 m v v2 v3 ∧ ds = [] ∧ E 0 = (Value.pointer (some (⟨gc, 0, none⟩ : Addr))) ∧ E 2 = (ii a) ∧ E 7 = (Value.map (some g)) ∧ E 8 = (Value.slice Av lv cv) ∧ E 18 = (Value.slice Ai li ci) ∧ E 19 = (ii ((i.length : Nat) : Int)) ∧ E 20 = (ii v2) ∧ Sep w S O w' (rl [Res.own (cL cI) 36 Av lv cv v, Res.box 135 gc [(ii d), (.slice Ad ld cd), (.slice Ad2 ld2 cd2), (ii d4), (ii d5)], Res.ro (FP.sl c3 Ad ld cd d2), Res.ro (FP.sl cI Ad2 ld2 cd2 d3), Res.obj g (mapO Value.bool v3), Res.ro (FP.sl (cL cI) Ai li ci i)])) m0 ⟨_, _, _, _, _, _, h0, rfl, rfl, rfl, rfl, rfl, rfl, rfl, rfl, (hS.sel [5, 0, 1, 2, 4, 3] (by decide))⟩ ?_; clear h0 hS; rintro m2 E ds w3 ⟨v, v2, v3, Av, lv, cv, h, rfl, hE0, hE2, hE7, hE8, hE18, hE19, hE20, hS⟩ again; replace h := hr m2 v v2 v3 h; clear hr; refine zs (zq (yd4 hE20 hE19) (yaa (yaf ?_))); by_cases hp : v2 < ((i.length : Nat) : Int)
  · replace h := h.1 hp; refine zc hp (yag (yaf (yak (zs ?_)))); obtain ⟨hx, h⟩ := h; refine zq (yeK hE18 hE20 underlying136 yeN (ybh (hS.rdr 5 rfl) hx)) ?_; obtain ⟨A, l, c, hc, hq⟩ := hS.el 5 rfl hx 6 7 rfl rfl (by decide); replace hS := hq; clear hq; refine zq (yaA (v := (.slice A l c)) rfl underlying36 rfl (hS.clr 7 rfl)) (zq (za (.slice A l c)) (yaa (zs (zq (zm (.slice A l c)) (zq (ybc (n := (gx i v2.toNat).length) rfl underlying36 (ya2 (hS.rdr 6 rfl))) (zq (zm (ii 0)) (yaa (yak ?_)))))))); obtain ⟨I3, ⟨m0, h0⟩, hr⟩ := h; refine yaO (fun m E ds w' => ∃ v4 v5 v6 Av2 lv2 cv2, I3 m v4 v5 v6 ∧ ds = [] ∧ E 0 = (Value.pointer (some (⟨gc, 0, none⟩ : Addr))) ∧ E 2 = (ii a) ∧ E 7 = (Value.map (some g)) ∧ E 8 = (Value.slice Av2 lv2 cv2) ∧ E 10 = (Value.slice A l c) ∧ E 18 = (Value.slice Ai li ci) ∧ E 19 = (ii ((i.length : Nat) : Int)) ∧ E 20 = (ii v2) ∧ E 24 = (Value.slice A l c) ∧ E 25 = (ii (((gx i v2.toNat).length : Nat) : Int)) ∧ E 26 = (ii v5) ∧ Sep w S O w' (rl [Res.own (cL cI) 36 Av2 lv2 cv2 v4, Res.box 135 gc [(ii d), (.slice Ad ld cd), (.slice Ad2 ld2 cd2), (ii d4), (ii d5)], Res.ro (FP.sl c3 Ad ld cd d2), Res.ro (FP.sl cI Ad2 ld2 cd2 d3), Res.obj g (mapO Value.bool v6), Res.ro (FP.sl cI A l c (gx i v2.toNat)), Res.ro (FP.sl (cL cI) Ai li ci i)])) m0 ⟨_, _, _, _, _, _, h0, rfl, hE0, hE2, hE7, hE8, rfl, hE18, hE19, hE20, rfl, rfl, rfl, (hS.sel [0, 1, 2, 3, 4, 6, 5] (by decide))⟩ ?_; clear h0 hS; rintro m3 E ds w4 ⟨v4, v5, v6, Av2, lv2, cv2, h, rfl, hE0, hE2, hE7, hE8, hE10, hE18, hE19, hE20, hE24, hE25, hE26, hS⟩ again2; replace h := hr m3 v4 v5 v6 h; clear hr; refine zs (zq (yd4 hE26 hE25) (yaa (yaf ?_))); by_cases hp2 : v5 < (((gx i v2.toNat).length : Nat) : Int)
    · replace h := h.1 hp2; refine zc hp2 (yag (yaf (yak (zs (zq (yae hE26) ?_))))); obtain ⟨hx2, h⟩ := h; refine zq (yeK hE24 hE26 underlying36 yaj (ybh (hS.rdr 5 rfl) hx2)) (zq (yaA (v := (ii (gi (gx i v2.toNat) v5.toNat))) rfl underlying3 rfl (rd_1 (hS.rdr 5 rfl) hx2 (fun q => ybs q) rfl)) ?_); refine zq (za (ii v5)) (zq (za (ii (gi (gx i v2.toNat) v5.toNat))) (yaa (zs (zn (n_builda (l := [(0, (ii (-1))), (1, (ii 1))]) (cells := [(ii (-1)), (ii 1)]) (bp2 rfl rfl) underlying190 ym6 yaj rfl ?_))))); refine zb (zq (zm (ii 0)) (yaa (yak ?_))); obtain ⟨I4, ⟨m0, h0⟩, hr⟩ := h; refine yaO (fun m E ds w' => ∃ v7 v8 v9 Av3 lv3 cv3, I4 m v7 v8 v9 ∧ ds = [] ∧ E 0 = (Value.pointer (some (⟨gc, 0, none⟩ : Addr))) ∧ E 2 = (ii a) ∧ E 7 = (Value.map (some g)) ∧ E 8 = (Value.slice Av3 lv3 cv3) ∧ E 10 = (Value.slice A l c) ∧ E 11 = (ii v5) ∧ E 12 = (ii (gi (gx i v2.toNat) v5.toNat)) ∧ E 18 = (Value.slice Ai li ci) ∧ E 19 = (ii ((i.length : Nat) : Int)) ∧ E 20 = (ii v2) ∧ E 24 = (Value.slice A l c) ∧ E 25 = (ii (((gx i v2.toNat).length : Nat) : Int)) ∧ E 26 = (ii v5) ∧ E 31 = (Value.agg #[(ii (-1)), (ii 1)]) ∧ E 32 = (ii v8) ∧ Sep w S O w' (rl [Res.own (cL cI) 36 Av3 lv3 cv3 v7, Res.box 135 gc [(ii d), (.slice Ad ld cd), (.slice Ad2 ld2 cd2), (ii d4), (ii d5)], Res.ro (FP.sl c3 Ad ld cd d2), Res.ro (FP.sl cI Ad2 ld2 cd2 d3), Res.obj g (mapO Value.bool v9), Res.ro (FP.sl cI A l c (gx i v2.toNat)), Res.ro (FP.sl (cL cI) Ai li ci i)])) m0 ⟨_, _, _, _, _, _, h0, rfl, hE0, hE2, hE7, hE8, hE10, rfl, rfl, hE18, hE19, hE20, hE24, hE25, hE26, rfl, rfl, (hS.sel [0, 1, 2, 3, 4, 5, 6] (by decide))⟩ ?_; clear h0 hS; rintro m4 E ds w5 ⟨v7, v8, v9, Av3, lv3, cv3, h, rfl, hE0, hE2, hE7, hE8, hE10, hE11, hE12, hE18, hE19, hE20, hE24, hE25, hE26, hE31, hE32, hS⟩ again3; replace h := hr m4 v7 v8 v9 h; clear hr; refine zs (zq (yd4 hE32 rfl) (yaa (yaf ?_))); by_cases hp3 : v8 < 2
      · replace h := h.1 hp3; refine zc hp3 (yag (yaf (yak (zs ?_)))); obtain ⟨hx3, h⟩ := h; refine zq (v_index hE31 hE32 underlying190 underlying3 rfl yaj hx3 (arr_idx [-1, 1] hx3)) (zq (za (ii (gi [-1, 1] v8.toNat))) (yaa (yaf (zs (zq (yae (v := (ii (gi (gx i v2.toNat) v5.toNat))) hE12) (zq (zm (ii (gi [-1, 1] v8.toNat))) ?_)))))); obtain ⟨hi, h⟩ := h; refine zq (v_mul rfl rfl hi) (zq zL (yaa ?_)); by_cases hp4 : ((gi (gx i v2.toNat) v5.toNat) * (gi [-1, 1] v8.toNat)) < 0
        · replace h := h.1 hp4; refine zc hp4 (yaH rfl (zr ?_)); obtain ⟨hi2, h⟩ := h; refine zq (ycv hE32 rfl hi2) (zq (zm (ii (v8 + 1))) (yaa ?_)); obtain ⟨mq, hlt, h⟩ := h; exact again3 mq _ _ _ ⟨_, _, _, _, _, _, h, rfl, hE0, hE2, hE7, hE8, hE10, hE11, hE12, hE18, hE19, hE20, hE24, hE25, hE26, hE31, rfl, (hS.sel [0, 1, 2, 3, 4, 5, 6] (by decide))⟩ hlt
        · replace h := h.2 hp4; refine zd hp4 (yag (zs (zq (yae hE10) (zn (yal rfl (am1 rfl) enter_191 ((ymv h (yaN _) (hS.rdr 5 rfl)).mono ?_)))))); rintro _ w6 ⟨r, Ar, lr, cr, rfl, hC, h⟩; replace hS := hS.call1 (hC.widen (yea (ybl (fI .i64) _ _ _ _ _) ye0) hS.blt) 7 0 rfl; clear hC; refine ⟨_, rfl, ?_⟩; refine zb (zq (za (.slice Ar lr cr)) (yaa (zs (zq (zm (.slice Ar lr cr)) (zq (yae hE11) ?_))))); obtain ⟨hx4, h⟩ := h; refine zq (zi underlying36 yaj (ybh (hS.rdo 7 rfl) hx4)) (zq (yaA (v := (ii (gi r v5.toNat))) rfl underlying3 rfl (rd_1 (hS.rdo 7 rfl) hx4 (fun q => ybs q) rfl)) ?_); refine zq (zm (ii (gi [-1, 1] v8.toNat))) ?_; obtain ⟨hi3, h⟩ := h; refine zq (zA hi3) (zq (zi underlying36 yaj (ybh (hS.rdo 7 rfl) hx4)) (zo (zt (ii ((gi r v5.toNat) + (gi [-1, 1] v8.toNat))) yaj (hS.wr 7 rfl rfl hx4) ?_))); intro w7 e1; replace hS := hS.st 7 rfl rfl hx4 (x := (gi r v5.toNat) + (gi [-1, 1] v8.toNat)) rfl e1; clear e1; refine zb (yaa (zs (zq (zm (.slice Ar lr cr)) (zn (yal rfl (am1 rfl) enter_192 ((ym2 h (yaN _) (hS.rdo 7 rfl)).mono ?_)))))); rintro _ w8 ⟨r2, rfl, hC, h⟩; replace hS := hS.pur hC.pure; clear hC; refine ⟨_, rfl, ?_⟩; refine zb (zn (ybJ yme ?_)); intro g2 w9 hN; replace hS := hS.made (n := 12) 8 rfl cI (ii 0) (0 : Int) (fun _ _ => rfl) (hN : New _ _ _ (Array.replicate 12 (ii 0)) 191) (by decide); clear hN; refine zb ?_; obtain ⟨hx5, h⟩ := h; refine zo (n_starr rfl rfl yme hS 8 rfl hx5 ?_); clear hS; intro w10 hS; refine zb (yaa (zs (zq (yae hE7) (zq (yav (vs := r2.map (.int .i64)) rfl underlying191 rfl (ygv yme (hS.rdo 8 rfl)) (yfG (hS.rdo 8 rfl))) ?_)))); obtain ⟨hx6, h⟩ := h; obtain ⟨hx7, h⟩ := h; refine zn (n_val (v_mget1 (vE := Value.bool) (x0 := false) (keyt_191) hx6 hx7 rfl rfl underlying189 ycm (hS.mp 4 rfl)) ?_); refine zb (zq (ydn rfl) (yaa ?_)); by_cases hp5 : ((mget v9 r2).getD false) = true
          · replace h := h.1 hp5; refine yax (congrArg Value.bool (congrArg Bool.not hp5)) (yag (yai (zr ?_))); obtain ⟨hi4, h⟩ := h; refine zq (ycv hE32 rfl hi4) (zq (zm (ii (v8 + 1))) (yaa ?_)); obtain ⟨mq, hlt, h⟩ := h; exact again3 mq _ _ _ ⟨_, _, _, _, _, _, h, rfl, hE0, hE2, hE7, hE8, hE10, hE11, hE12, hE18, hE19, hE20, hE24, hE25, hE26, hE31, rfl, (hS.sel [0, 1, 2, 3, 4, 5, 6] (by decide))⟩ hlt
          · replace h := h.2 hp5; refine yaq (congrArg Value.bool (congrArg Bool.not (Bool.eq_false_iff.2 hp5))) (zs (zq (yae hE7) (zq (yav (vs := r2.map (.int .i64)) rfl underlying191 rfl (ygv yme (hS.rdo 8 rfl)) (yfG (hS.rdo 8 rfl))) (zo (n_mput (vE := Value.bool) (keyt_191) hx6 hx7 (v := true) rfl rfl rfl underlying189 (hS.mp 4 rfl) ?_))))); intro w11 e1 e2; replace hS := hS.mst 4 rfl e1 e2; clear e1 e2; refine zb (yaa (yaf (ybt [0, 1, 2, 3, 5, 6, 7, 8, 11, 12, 13, 14, 4, 9, 10, 15] (fun i => match i with | 4 => [0, 1, 5, 6, 7, 8, 11, 12, 13, 14] | 9 => [0, 1, 11, 12, 13, 14] | _ => []) yaQ (by kernel_rfl) (by kernel_rfl) ?_))); replace hS := hS.drew; refine zp (yae hE2) ?_; obtain ⟨hi5, h⟩ := h; refine zp (zA hi5) (zp (yae (v := (.pointer (some (⟨gc, 0, none⟩ : Addr)))) hE0) (zp (zm (.slice Ar lr cr)) (zp (yae (v := (.pointer (some (⟨gc, 0, none⟩ : Addr)))) hE0) (zp (ycz rfl) (zp (yam rfl underlying135 rfl yaj) (zp (zl underlying3 (Row.cell (hS.bx 1 rfl) (i := 3) rfl)) (zp (yae (v := (.pointer (some (⟨gc, 0, none⟩ : Addr)))) hE0) (zp (ycz rfl) (zp (yam rfl underlying135 rfl yaj) (zp (zl underlying3 (Row.cell (hS.bx 1 rfl) (i := 4) rfl)) ?_)))))))))); replace hS := hS.frz 7 rfl; have hB := hS.lend (asc [(1, 0), (9, 1)]) [1, 2, 3, 7] (by decide) ⟨.inl (ycu rfl), .inr rfl, .inr rfl, .inr rfl, trivial⟩; refine rp_n rfl rfl rfl rfl (yeH (vs := #[(.pointer (some (⟨gc, 0, none⟩ : Addr))), (.slice Ar lr cr)]) (us := #[]) rfl (am2 rfl rfl) enter_189 ((ybp (by simp) (yl5 h hB)).mono ?_)); rintro _ w12 ⟨r3, Ar2, lr2, cr2, rfl, hC, h⟩; replace hS := hS.back (asc [(1, 0), (9, 1)]) (yfu (by decide)) hC; clear hC hB; refine ⟨_, rfl, ?_⟩; refine ⟨⟨fun _ => (zl underlying3 (Row.cell (hS.bx 1 rfl) (i := 4) rfl)), ⟨fun _ => (yam rfl underlying135 rfl yaj), ⟨fun _ => (ycz rfl), ⟨fun _ => (yae (v := (Value.pointer (some (⟨gc, 0, none⟩ : Addr)))) hE0), ⟨fun _ => (zl underlying3 (Row.cell (hS.bx 1 rfl) (i := 3) rfl)), ⟨fun _ => (yam rfl underlying135 rfl yaj), ⟨fun _ => (ycz rfl), ⟨fun _ => (yae (v := (Value.pointer (some (⟨gc, 0, none⟩ : Addr)))) hE0), ⟨fun hh => Bool.noConfusion (show false = true from hh), ⟨fun hh => Bool.noConfusion (show false = true from hh), ⟨fun _ => (zA hi5), ⟨fun _ => (yae hE2), trivial⟩⟩⟩⟩⟩⟩⟩⟩⟩⟩⟩⟩, ?_⟩; refine rp_n rfl rfl rfl rfl (yal rfl (am2 rfl rfl) enter_193 ((ym5 h (yaN _) (hS.rdo 9 rfl)).mono ?_)); rintro _ w13 ⟨r4, rfl, hC, h⟩; replace hS := hS.pur hC.pure; clear hC; refine ⟨_, rfl, ?_⟩; refine ⟨⟨fun _ => (zl underlying3 (Row.cell (hS.bx 1 rfl) (i := 4) rfl)), ⟨fun _ => (yam rfl underlying135 rfl yaj), ⟨fun _ => (ycz rfl), ⟨fun _ => (yae (v := (Value.pointer (some (⟨gc, 0, none⟩ : Addr)))) hE0), ⟨fun hh => Bool.noConfusion (show false = true from hh), ⟨fun hh => Bool.noConfusion (show false = true from hh), ⟨fun hh => Bool.noConfusion (show false = true from hh), ⟨fun hh => Bool.noConfusion (show false = true from hh), ⟨fun hh => Bool.noConfusion (show false = true from hh), ⟨fun hh => Bool.noConfusion (show false = true from hh), ⟨fun _ => (zA hi5), ⟨fun _ => (yae hE2), trivial⟩⟩⟩⟩⟩⟩⟩⟩⟩⟩⟩⟩, ?_⟩; obtain ⟨hi6, h⟩ := h; refine zp (zA hi6) (zp (v_leq rfl rfl) (yb4 ?_)); by_cases hp6 : ((a + 1) + r4) ≤ d5
            · replace h := h.1 hp6; refine zc hp6 (zr (zq (yae hE8) (zq (zm (.slice Ar lr cr)) (zn (yaR (l := [(0, (.slice Ar lr cr))]) (cells := [(.slice Ar lr cr)]) (bp1 rfl) underlying136 yeN rfl rfl ?_))))); intro g3 w14 hN; replace hS := hS.lit (n := 1) (c := (cL cI)) 10 rfl hN ([(r.set v5.toNat ((gi r v5.toNat) + (gi [-1, 1] v8.toNat)))] : List (List Int)) rfl (by decide) ⟨[(.slice Ar lr cr)], _, rfl, (ro_R (hS.ro 7 rfl)), rfl⟩; clear hN; refine zb ?_; obtain ⟨hx8, h⟩ := h; refine zn (n_app (c := (cL cI)) rfl rfl underlying136 underlying136 yeN rfl rfl (by decide) hS 0 rfl (hS.yo 10 rfl) hx8 ?_); clear hS; intro A2 c2 w15 hS; refine zb (zq (za (.slice A2 (lv3 + 1) c2)) (yaa (yai (zr ?_)))); obtain ⟨hi7, h⟩ := h; refine zq (ycv hE32 rfl hi7) (zq (zm (ii (v8 + 1))) (yaa ?_)); obtain ⟨mq, hlt, h⟩ := h; exact again3 mq _ _ _ ⟨_, _, _, _, _, _, h, rfl, hE0, hE2, hE7, rfl, hE10, hE11, hE12, hE18, hE19, hE20, hE24, hE25, hE26, hE31, rfl, (hS.sel [0, 1, 2, 3, 4, 5, 6] (by decide))⟩ hlt
            · replace h := h.2 hp6; refine zd hp6 (yag (yai (zr ?_))); obtain ⟨hi8, h⟩ := h; refine zq (ycv hE32 rfl hi8) (zq (zm (ii (v8 + 1))) (yaa ?_)); obtain ⟨mq, hlt, h⟩ := h; exact again3 mq _ _ _ ⟨_, _, _, _, _, _, h, rfl, hE0, hE2, hE7, hE8, hE10, hE11, hE12, hE18, hE19, hE20, hE24, hE25, hE26, hE31, rfl, (hS.sel [0, 1, 2, 3, 4, 5, 6] (by decide))⟩ hlt
      · replace h := h.2 hp3; refine zd hp3 (yaH rfl (yai (zr ?_))); obtain ⟨hi9, h⟩ := h; refine zq (ycv hE26 rfl hi9) (zq (zm (ii (v5 + 1))) (yaa ?_)); obtain ⟨mq, hlt, h⟩ := h; exact again2 mq _ _ _ ⟨_, _, _, _, _, _, h, rfl, hE0, hE2, hE7, hE8, hE10, hE18, hE19, hE20, hE24, hE25, rfl, (hS.sel [0, 1, 2, 3, 4, 5, 6] (by decide))⟩ hlt
    · replace h := h.2 hp2; refine zd hp2 (yaH rfl (yai (zr ?_))); obtain ⟨hi10, h⟩ := h; refine zq (ycv hE20 rfl hi10) (zq (zm (ii (v2 + 1))) (yaa ?_)); obtain ⟨mq, hlt, h⟩ := h; exact again mq _ _ _ ⟨_, _, _, _, _, _, h, rfl, hE0, hE2, hE7, hE8, hE18, hE19, rfl, (hS.sel [0, 1, 2, 3, 4, 6] (by decide))⟩ hlt
  · replace h := h.2 hp; exact zd hp (yaH rfl (zs (zq (yae hE8) (zq (za (.slice Av lv cv)) (yaa (yah rfl rfl ⟨_, _, _, _, rfl, (hS.sel [1, 0] (by decide)), h⟩))))))
def ylT (d : Int) (d2 : List E3) (i : List Int) (a : Int) (R : (List Int) → Int → Int → Prop) : Prop :=
ylU d d2 i (fun r =>
((r = 0 →
(∃ J2 : Prop, (J2 → yaW d d2 i (fun r2 r3 r4 r5 =>
((r5 = 0 →
((r2 = true →
ylR d d2 (fun r6 =>
((0 ≤ d ∧ d ≤ 1000000) ∧
(∃ I2 : Nat → (List (List Int)) → Int → Prop, (∃ m0, I2 m0 ([(List.replicate d.toNat (0 : Int))]) 0) ∧ ∀ m2 v v2, I2 m2 v v2 → 
((v2 ≤ a →
ylI d d2 i r6 a v (fun r7 =>
((r7 = [] →
ylM d d2 i r6 a v v2 (fun r8 =>
(In64 (v2 + 1) ∧
∃ m3, m3 < m2 ∧ I2 m3 r8 (v2 + 1)))) ∧
(¬ (r7 = []) →
R r7 v2 0)))) ∧
(¬ (v2 ≤ a) →
R ([]) 0 12)))))) ∧
(¬ (r2 = true) →
R ([]) 0 6))) ∧
(¬ (r5 = 0) →
R ([]) 0 r5)))) ∧
((a < 0 →
R ([]) 0 2) ∧
(¬ (a < 0) →
((8 < a →
R ([]) 0 2) ∧
(¬ (8 < a) →
J2)))))) ∧
(¬ (r = 0) →
R ([]) 0 r)))
theorem ym3 {O : Nat → Prop} {w : World} {d d2 i a Ad ld cd Ai li ci} {R : (List Int) → Int → Int → Prop} (h : ylT d d2 i a R) (hO : ∀ k, O k → k < w.heap.size) (hA0 : (FP.sl c3 Ad ld cd d2).P O w) (hA1 : (FP.sl cI Ai li ci i).P O w) :
    Calls Tryz.prog 64 #[(.agg #[(ii d), (.slice Ad ld cd)]), (.slice Ai li ci), (ii a)] w fun e w' => ∃ r9 r10 r11 Ar5 lr5 cr5, e = .returned (.tuple #[(.slice Ar5 lr5 cr5), (ii r10), (ii r11)]) ∧ Sep w no O w' (rl [Res.ro (FP.sl cI Ar5 lr5 cr5 r9)]) ∧ R r9 r10 r11 := by
  unfold ylT at h; have hS : Sep w no O w (rl [Res.ro (FP.sl c3 Ad ld cd d2), Res.ro (FP.sl cI Ai li ci i)]) := Sep.startl hO [(FP.sl c3 Ad ld cd d2), (FP.sl cI Ai li ci i)] ⟨hA0, hA1, trivial⟩; refine yan (l := [(.agg #[(ii d), (.slice Ad ld cd)]), (.slice Ai li ci), (ii a)]) func64 rfl ntmps64 (Nat.le_of_ble_eq_true rfl) (zs (zn (yb6 (v := (.agg #[(ii d), (.slice Ad ld cd)])) rfl ?_))); intro g w2 hN; replace hS : Sep w no O w2 (stl _ 2 (Res.box 24 g [(ii d), (.slice Ad ld cd)])) := hS.new 2 rfl hN; clear hN; refine zb (zq (za (.slice none 0 0)) (zq (za (ii 0)) (zq (za (ii 0)) (yaa (yaf (zs (zq (yav (vs := [(ii d), (.slice Ad ld cd)]) rfl underlying24 rfl yas ⟨Row.cell (hS.bx 2 rfl) (i := 0) rfl, Row.cell (hS.bx 2 rfl) (i := 1) rfl, trivial⟩) (zq (zm (.slice Ai li ci)) (zn (yal rfl (am2 rfl rfl) ynZ ((ymy h (yaN _) (hS.rdr 0 rfl) (hS.rdr 1 rfl)).mono ?_))))))))))); rintro _ w3 ⟨r, rfl, hC, h⟩; replace hS := hS.pur hC.pure; clear hC; refine ⟨_, rfl, ?_⟩; refine zb (zq (za (ii r)) (yaa (zs (zq (zm (ii r)) (zq zN (yaa ?_)))))); by_cases hp : r = 0
  · replace h := h.1 hp; refine ze hp (yag (yaf (yaf ?_))); obtain ⟨J2, hJ, h⟩ := h; refine ycZ (fun E ds w' => J2 ∧ ds = [] ∧ E 1 = (Value.slice Ai li ci) ∧ E 2 = (ii a) ∧ E 3 = (Value.pointer (some (⟨g, 0, none⟩ : Addr))) ∧ Sep w no O w' (rl [Res.ro (FP.sl cI Ai li ci i), Res.box 24 g [(ii d), (.slice Ad ld cd)], Res.ro (FP.sl c3 Ad ld cd d2)])) ?_ ?_
    · clear h hS; rintro E ds w4 ⟨h, rfl, hE1, hE2, hE3, hS⟩; replace h := hJ h; refine zs (zq (yav (vs := [(ii d), (.slice Ad ld cd)]) hE3 underlying24 rfl yas ⟨Row.cell (hS.bx 1 rfl) (i := 0) rfl, Row.cell (hS.bx 1 rfl) (i := 1) rfl, trivial⟩) (zq (yae hE1) (zn (yal rfl (am2 rfl rfl) enter_19 ((yep h (yaN _) (hS.rdr 2 rfl) (hS.rdr 0 rfl)).mono ?_))))); rintro _ w5 ⟨r2, r3, r4, r5, Ar, lr, cr, Ar2, lr2, cr2, rfl, hC, h⟩; replace hS := hS.call2 (hC.widen (yea (ybl (fI .i64) _ _ _ _ _) (yea (ybl (fI .i64) _ _ _ _ _) ye0)) hS.blt) 3 0 4 1 rfl rfl (by decide) (by decide); clear hC; refine ⟨_, rfl, ?_⟩; refine zb (zq (zm (.tuple #[(.bool (r2)), (.slice Ar lr cr), (.slice Ar2 lr2 cr2), (ii r5)])) (zq (zx (.bool (r2))) (zq (zx (.slice Ar lr cr)) (zq (zx (.slice Ar2 lr2 cr2)) (zq (zx (ii r5)) (zq (za (.bool (r2))) (zq (za (.slice Ar lr cr)) (zq (za (.slice Ar2 lr2 cr2)) (zq (za (ii r5)) (yaa (yaf (yak (zs (zq (zm (ii r5)) (zq zN (zq (za (.bool (!(decide (r5 = 0))))) (yaa ?_))))))))))))))))); by_cases hp2 : r5 = 0
      · replace h := h.1 hp2; refine ze hp2 (zs (zq (zm (.bool (r2))) (zq (ydn rfl) (zq (za (.bool (!(r2)))) (yaa ?_))))); by_cases hp3 : r2 = true
        · replace h := h.1 hp3; refine yax (congrArg Value.bool (congrArg Bool.not hp3)) (yag (yai (yaf (ybt [0, 1, 2, 4, 3, 5, 6, 7] (fun i => match i with | 3 => [0, 1, 4] | _ => []) yaQ (by kernel_rfl) (by kernel_rfl) ?_)))); replace hS := hS.drew; refine zp (yav (vs := [(ii d), (.slice Ad ld cd)]) hE3 underlying24 rfl yas ⟨Row.cell (hS.bx 1 rfl) (i := 0) rfl, Row.cell (hS.bx 1 rfl) (i := 1) rfl, trivial⟩) (zp (yae hE1) (zp (yav (vs := [(ii d), (.slice Ad ld cd)]) hE3 underlying24 rfl yas ⟨Row.cell (hS.bx 1 rfl) (i := 0) rfl, Row.cell (hS.bx 1 rfl) (i := 1) rfl, trivial⟩) (zp (yae hE2) (rp_n rfl rfl rfl rfl (yal rfl (am1 rfl) enter_133 ((ymM h (yaN _) (hS.rdr 2 rfl)).mono ?_)))))); rintro _ w6 ⟨r6, rfl, hC, h⟩; replace hS := hS.pur hC.pure; clear hC; refine ⟨_, rfl, ?_⟩; refine ⟨⟨fun _ => (yae hE2), ⟨fun hh => Bool.noConfusion (show false = true from hh), ⟨fun _ => (yae hE1), ⟨fun _ => (yav (vs := [(ii d), (.slice Ad ld cd)]) hE3 underlying24 rfl yas ⟨Row.cell (hS.bx 1 rfl) (i := 0) rfl, Row.cell (hS.bx 1 rfl) (i := 1) rfl, trivial⟩), trivial⟩⟩⟩⟩, ?_⟩; refine rp_n rfl rfl rfl rfl (yfr (l := [(0, (.agg #[(ii d), (.slice Ad ld cd)])), (1, (.slice Ai li ci)), (2, (ii r6)), (3, (ii a))]) (cells := [(ii d), (.slice Ad ld cd), (.slice Ai li ci), (ii r6), (ii a)]) (places := [(0, 2), (2, 1), (3, 1), (4, 1)]) (bp4 rfl rfl rfl rfl) underlying135 info_135 (by kernel_rfl) rfl ?_); refine zb (rp_n rfl rfl rfl rfl (yb6 (v := (.agg #[(ii d), (.slice Ad ld cd), (.slice Ai li ci), (ii r6), (ii a)])) rfl ?_)); intro g2 w7 hN; replace hS : Sep w no O w7 (stl _ 5 (Res.box 135 g2 [(ii d), (.slice Ad ld cd), (.slice Ai li ci), (ii r6), (ii a)])) := hS.new 5 rfl hN; clear hN; refine zb (zp (za (.pointer (some (⟨g2, 0, none⟩ : Addr)))) (yb4 (zs (zq (yam hE3 underlying24 rfl yaj) (zq (zl underlying3 (Row.cell (hS.bx 1 rfl) (i := 0) rfl)) ?_))))); obtain ⟨hx, h⟩ := h; refine zn (yky rfl rfl underlying36 yaj (by decide) rfl hx ?_); intro g3 w8 hN; replace hS := hS.made 6 rfl cI (ii 0) (0 : Int) (fun _ _ => rfl) hN (by omega); clear hN; refine zb ?_; replace hS := hS.frz 6 rfl; refine zn (yaR (l := [(0, (.slice (some ⟨g3, 0, none⟩) d.toNat d.toNat))]) (cells := [(.slice (some ⟨g3, 0, none⟩) d.toNat d.toNat)]) (bp1 rfl) underlying136 yeN rfl rfl ?_); intro g4 w9 hN; replace hS := hS.lit (n := 1) (c := (cL cI)) 7 rfl hN ([(List.replicate d.toNat (0 : Int))] : List (List Int)) rfl (by decide) ⟨[(.slice (some ⟨g3, 0, none⟩) d.toNat d.toNat)], _, rfl, (ro_R (hS.ro 6 rfl)), rfl⟩; clear hN; refine zb (zq (za (.slice (some ⟨g4, 0, none⟩) 1 1)) (yaa (yaf (zs (zq (za (ii 0)) (yaa (yak ?_))))))); obtain ⟨I2, ⟨m0, h0⟩, hr⟩ := h; refine yaO (fun m E ds w' => ∃ v v2 Av lv cv, I2 m v v2 ∧ ds = [] ∧ E 2 = (ii a) ∧ E 14 = (Value.pointer (some (⟨g2, 0, none⟩ : Addr))) ∧ E 15 = (Value.slice Av lv cv) ∧ E 16 = (ii v2) ∧ Sep w no O w' (rl [Res.own (cL cI) 36 Av lv cv v, Res.box 135 g2 [(ii d), (.slice Ad ld cd), (.slice Ai li ci), (ii r6), (ii a)], Res.ro (FP.sl c3 Ad ld cd d2), Res.ro (FP.sl cI Ai li ci i)])) m0 ⟨_, _, _, _, _, h0, rfl, hE2, rfl, rfl, rfl, (hS.sel [7, 5, 2, 0] (by decide))⟩ ?_; clear h0 hS; rintro m2 E ds w10 ⟨v, v2, Av, lv, cv, h, rfl, hE2, hE14, hE15, hE16, hS⟩ again; replace h := hr m2 v v2 h; clear hr; refine yaf (zs (zq (yae hE16) (zq (yae hE2) (zq (v_leq rfl rfl) (yaa ?_))))); by_cases hp4 : v2 ≤ a
          · replace h := h.1 hp4; refine zc hp4 (yag (yaf (yak (yaf (zs (zq (yae (v := (.pointer (some (⟨g2, 0, none⟩ : Addr)))) hE14) (zq (yae hE15) ?_))))))); replace hS := hS.frz 0 rfl; have hB := hS.lend (asc [(1, 0), (4, 1)]) [1, 2, 3, 0] (by decide) ⟨.inl (ycu rfl), .inr rfl, .inr rfl, .inr rfl, trivial⟩; refine zn (yeH (vs := #[(.pointer (some (⟨g2, 0, none⟩ : Addr))), (.slice Av lv cv)]) (us := #[]) rfl (am2 rfl rfl) enter_134 ((ybp (by simp) (ymr h hB)).mono ?_)); rintro _ w11 ⟨r7, Ar3, lr3, cr3, rfl, hnnr, hC, h⟩; replace hS := hS.back (asc [(1, 0), (4, 1)]) (yfu (by decide)) hC; clear hC hB; refine ⟨_, rfl, ?_⟩; refine zb (zq (za (.slice Ar3 lr3 cr3)) (yaa (zs (zq (zm (.slice Ar3 lr3 cr3)) (zq (v_sneqx rfl rfl underlying36 hnnr) (yaa ?_)))))); by_cases hp5 : r7 = []
            · replace h := h.1 hp5; refine ze hp5 (yag (zr (zq (yae (v := (.pointer (some (⟨g2, 0, none⟩ : Addr)))) hE14) (zq (yae hE15) (zq (yae hE16) ?_))))); have hB := hS.lend (asc [(1, 0), (5, 1)]) [1, 2, 3, 0] (by decide) ⟨.inl (ycu rfl), .inr rfl, .inr rfl, .inr rfl, trivial⟩; refine zn (yeH (vs := #[(.pointer (some (⟨g2, 0, none⟩ : Addr))), (.slice Av lv cv), (ii v2)]) (us := #[]) rfl (am3 rfl rfl rfl) enter_135 ((ybp (by simp) (ymz h hB)).mono ?_)); rintro _ w12 ⟨r8, Ar4, lr4, cr4, rfl, hC, h⟩; replace hS := hS.back (asc [(1, 0), (5, 1)]) (yfu (by decide)) hC; clear hC hB; refine ⟨_, rfl, ?_⟩; refine zb (zq (za (.slice Ar4 lr4 cr4)) (yaa (yai (zr (zq (yae hE16) ?_))))); obtain ⟨hi, h⟩ := h; refine zq (zA hi) (zq (za (ii (v2 + 1))) (yaa ?_)); obtain ⟨mq, hlt, h⟩ := h; exact again mq _ _ _ ⟨_, _, _, _, _, h, rfl, hE2, hE14, rfl, rfl, (hS.sel [5, 1, 2, 3] (by decide))⟩ hlt
            · replace h := h.2 hp5; exact zf hp5 (zs (zq (zm (.slice Ar3 lr3 cr3)) (zq (yae hE16) (zq (za (.slice Ar3 lr3 cr3)) (zq (za (ii v2)) (zq (za (ii 0)) (yaa (yfS rfl rfl rfl rfl ⟨_, _, _, _, _, _, rfl, (hS.sel [4] (by decide)), h⟩))))))))
          · replace h := h.2 hp4; refine zd hp4 (yaH rfl (zs (zq (za (.slice none 0 0)) (zq (za (ii 0)) (zq (za (ii 12)) (yaa ?_)))))); replace hS := hS.addro 4 rfl _ (yhk cI _ _); exact yfS rfl rfl rfl rfl ⟨_, _, _, _, _, _, rfl, (hS.sel [4] (by decide)), h⟩
        · replace h := h.2 hp3; refine yaq (congrArg Value.bool (congrArg Bool.not (Bool.eq_false_iff.2 hp3))) (zs (zq (za (.slice none 0 0)) (zq (za (ii 0)) (zq (za (ii 6)) (yaa ?_))))); replace hS := hS.addro 5 rfl _ (yhk cI _ _); exact yfS rfl rfl rfl rfl ⟨_, _, _, _, _, _, rfl, (hS.sel [5] (by decide)), h⟩
      · replace h := h.2 hp2; refine zf hp2 (zs (zq (zm (ii r5)) (zq (za (.slice none 0 0)) (zq (za (ii 0)) (zq (za (ii r5)) (yaa ?_)))))); replace hS := hS.addro 5 rfl _ (yhk cI _ _); exact yfS rfl rfl rfl rfl ⟨_, _, _, _, _, _, rfl, (hS.sel [5] (by decide)), h⟩
    clear hJ; intro j; refine zr (zq (zm (ii a)) (zq zL (zq (zm (.bool (decide (a < 0)))) ?_))); by_cases hp6 : a < 0
    · replace h := h.1 hp6; refine rl_p (yab rfl (yac rfl (congrArg Value.bool (decide_eq_true hp6))) rfl) rfl (rl_p (yab rfl (yac rfl (congrArg Value.bool (decide_eq_true hp6))) rfl) rfl (zq (yao (v := (.bool (true))) (congrArg Value.bool (decide_eq_true hp6)) rfl) (yaa (yaq rfl (zs (zq (za (.slice none 0 0)) (zq (za (ii 0)) (zq (za (ii 2)) (yaa ?_))))))))); replace hS := hS.addro 3 rfl _ (yhk cI _ _); exact yfS rfl rfl rfl rfl ⟨_, _, _, _, _, _, rfl, (hS.sel [3] (by decide)), h⟩
    · replace h := h.2 hp6; refine rl_q (yad rfl (yac rfl (congrArg Value.bool (decide_eq_false hp6)))) rfl rfl (zm (ii a)) (rl_q (yad rfl (yac rfl (congrArg Value.bool (decide_eq_false hp6)))) rfl rfl zG (zq (yap (v := (.bool (decide (8 < a)))) (congrArg Value.bool (decide_eq_false hp6)) rfl) (yaa ?_))); by_cases hp7 : 8 < a
      · replace h := h.1 hp7; refine zc hp7 (zs (zq (za (.slice none 0 0)) (zq (za (ii 0)) (zq (za (ii 2)) (yaa ?_))))); replace hS := hS.addro 3 rfl _ (yhk cI _ _); exact yfS rfl rfl rfl rfl ⟨_, _, _, _, _, _, rfl, (hS.sel [3] (by decide)), h⟩
      · replace h := h.2 hp7; exact zd hp7 (yag (j _ _ _ ⟨h, rfl, rfl, rfl, rfl, (hS.sel [1, 2, 0] (by decide))⟩))
  · replace h := h.2 hp; refine zf hp (zs (zq (zm (ii r)) (zq (za (.slice none 0 0)) (zq (za (ii 0)) (zq (za (ii r)) (yaa ?_)))))); replace hS := hS.addro 3 rfl _ (yhk cI _ _); exact yfS rfl rfl rfl rfl ⟨_, _, _, _, _, _, rfl, (hS.sel [3] (by decide)), h⟩
def ynx (g : Int) (g2 : List E3) (s : List Int) (R : (List (Int × Bool)) → Int → Prop) : Prop :=
ynw g g2 s (fun r =>
((r = 0 →
yny s (fun r2 =>
((4096 < r2 →
R ([]) 12) ∧
(¬ (4096 < r2) →
(∃ I2 : Nat → (List (Int × Bool)) → Int → Prop, (∃ m0, I2 m0 ([]) 0) ∧ ∀ m2 out v, I2 m2 out v → 
((v < ((s.length : Nat) : Int) →
((0 ≤ v ∧ v < ((s.length : Nat) : Int)) ∧
yns (gi s v.toNat) (fun r3 =>
yno ([(v, decide ((gi s v.toNat) < 0))]) r3 (fun r4 =>
(out.length + r4.length ≤ 1000000000 ∧
(In64 (v + 1) ∧
∃ m3, m3 < m2 ∧ I2 m3 (out ++ r4) (v + 1))))))) ∧
(¬ (v < ((s.length : Nat) : Int)) →
R out 0))))))) ∧
(¬ (r = 0) →
R ([]) r)))
theorem ynX {O : Nat → Prop} {w : World} {g g2 s Ag lg cg As ls cs} {R : (List (Int × Bool)) → Int → Prop} (h : ynx g g2 s R) (hO : ∀ k, O k → k < w.heap.size) (hA0 : (FP.sl c3 Ag lg cg g2).P O w) (hA1 : (FP.sl cI As ls cs s).P O w) :
    Calls Tryz.prog 65 #[(.agg #[(ii g), (.slice Ag lg cg)]), (.slice As ls cs)] w fun e w' => ∃ r5 r6 Ar2 lr2 cr2, e = .returned (.tuple #[(.slice Ar2 lr2 cr2), (ii r6)]) ∧ Sep w no O w' (rl [Res.own (fP (fI .i64) fB).cod 142 Ar2 lr2 cr2 r5]) ∧ R r5 r6 := by
  unfold ynx at h; have hS : Sep w no O w (rl [Res.ro (FP.sl c3 Ag lg cg g2), Res.ro (FP.sl cI As ls cs s)]) := Sep.startl hO [(FP.sl c3 Ag lg cg g2), (FP.sl cI As ls cs s)] ⟨hA0, hA1, trivial⟩; refine yan (l := [(.agg #[(ii g), (.slice Ag lg cg)]), (.slice As ls cs)]) func65 rfl ntmps65 (Nat.le_of_ble_eq_true rfl) (zs (zn (yb6 (v := (.agg #[(ii g), (.slice Ag lg cg)])) rfl ?_))); intro g3 w2 hN; replace hS : Sep w no O w2 (stl _ 2 (Res.box 24 g3 [(ii g), (.slice Ag lg cg)])) := hS.new 2 rfl hN; clear hN; refine zb (zq (za (.slice none 0 0)) (zq (za (ii 0)) (yaa (yaf (zs (zq (yav (vs := [(ii g), (.slice Ag lg cg)]) rfl underlying24 rfl yas ⟨Row.cell (hS.bx 2 rfl) (i := 0) rfl, Row.cell (hS.bx 2 rfl) (i := 1) rfl, trivial⟩) (zq (zm (.slice As ls cs)) (zn (yal rfl (am2 rfl rfl) enter_136 ((ynP h (yaN _) (hS.rdr 0 rfl) (hS.rdr 1 rfl)).mono ?_)))))))))); rintro _ w3 ⟨r, rfl, hC, h⟩; replace hS := hS.pur hC.pure; clear hC; refine ⟨_, rfl, ?_⟩; refine zb (zq (za (ii r)) (yaa (zs (zq (zm (ii r)) (zq zN (yaa ?_)))))); by_cases hp : r = 0
  · replace h := h.1 hp; refine ze hp (yag (yaf (zs (zq (zm (.slice As ls cs)) (zn (yal rfl (am1 rfl) enter_137 ((yn1 h (yaN _) (hS.rdr 1 rfl)).mono ?_))))))); rintro _ w4 ⟨r2, rfl, hC, h⟩; replace hS := hS.pur hC.pure; clear hC; refine ⟨_, rfl, ?_⟩; refine zb (zq zG (yaa ?_)); by_cases hp2 : 4096 < r2
    · replace h := h.1 hp2; refine zc hp2 (zs (zq (za (.slice none 0 0)) (zq (za (ii 12)) (yaa ?_)))); replace hS := hS.nil 3 rfl (fP (fI .i64) fB).cod 142; exact ybF rfl rfl rfl ⟨_, _, _, _, _, rfl, (hS.sel [3] (by decide)), h⟩
    · replace h := h.2 hp2; refine zd hp2 (yag (zs (zq (za (.slice none 0 0)) (yaa (yaf (zs (zq (zm (.slice As ls cs)) (zq (ybc (n := s.length) rfl underlying36 (ya2 (hS.rdr 1 rfl))) (zq (zm (ii 0)) (yaa (yak ?_))))))))))); replace hS := hS.nil 3 rfl (fP (fI .i64) fB).cod 142; obtain ⟨I2, ⟨m0, h0⟩, hr⟩ := h; refine yaO (fun m E ds w' => ∃ out v Aout lout cout, I2 m out v ∧ ds = [] ∧ E 7 = (Value.slice Aout lout cout) ∧ E 19 = (Value.slice As ls cs) ∧ E 20 = (ii ((s.length : Nat) : Int)) ∧ E 21 = (ii v) ∧ Sep w no O w' (rl [Res.own (fP (fI .i64) fB).cod 142 Aout lout cout out, Res.ro (FP.sl cI As ls cs s)])) m0 ⟨_, _, _, _, _, h0, rfl, rfl, rfl, rfl, rfl, (hS.sel [3, 1] (by decide))⟩ ?_; clear h0 hS; rintro m2 E ds w5 ⟨out, v, Aout, lout, cout, h, rfl, hE7, hE19, hE20, hE21, hS⟩ again; replace h := hr m2 out v h; clear hr; refine zs (zq (yd4 hE21 hE20) (yaa (yaf ?_))); by_cases hp3 : v < ((s.length : Nat) : Int)
      · replace h := h.1 hp3; refine zc hp3 (yag (yaf (yak (zs (zq (yae hE21) ?_))))); obtain ⟨hx, h⟩ := h; refine zq (yeK hE19 hE21 underlying36 yaj (ybh (hS.rdr 1 rfl) hx)) (zq (yaA (v := (ii (gi s v.toNat))) rfl underlying3 rfl (rd_1 (hS.rdr 1 rfl) hx (fun q => ybs q) rfl)) ?_); refine zq (za (ii v)) (zq (za (ii (gi s v.toNat))) (yaa (zr (zq (yae hE7) (zq (zm (ii v)) (zq (zm (ii (gi s v.toNat))) (zq zL (zn (yfr (l := [(0, (ii v)), (1, (.bool (decide ((gi s v.toNat) < 0))))]) (cells := [(ii v), (.bool (decide ((gi s v.toNat) < 0)))]) (places := [(0, 1), (1, 1)]) (bp2 rfl rfl) underlying142 ynq (by kernel_rfl) rfl ?_))))))))); refine zb (zn (yaR (l := [(0, (.agg #[(ii v), (.bool (decide ((gi s v.toNat) < 0)))]))]) (cells := [(ii v), (.bool (decide ((gi s v.toNat) < 0)))]) (bp1 rfl) underlying89 ynq rfl rfl ?_)); intro g4 w6 hN; replace hS := hS.litf (n := 1) 2 rfl (fP (fI .i64) fB) hN ([(v, decide ((gi s v.toNat) < 0))] : List (Int × Bool)) rfl (by decide) rfl; clear hN; refine zb (zq (zm (ii (gi s v.toNat))) (zn (yal rfl (am1 rfl) enter_139 ((ynA h (yaN _)).mono ?_)))); rintro _ w7 ⟨r3, rfl, hC, h⟩; replace hS := hS.pur hC.pure; clear hC; refine ⟨_, rfl, ?_⟩; refine zb (zn (yal rfl (am2 rfl rfl) enter_138 ((ynz h (yaN _) (hS.rdo 2 rfl)).mono ?_))); rintro _ w8 ⟨r4, Ar, lr, cr, rfl, hC, h⟩; replace hS := hS.call1 (hC.widen (yea (ybl (fP (fI .i64) fB) _ _ _ _ _) ye0) hS.blt) 3 0 rfl; clear hC; refine ⟨_, rfl, ?_⟩; refine zb ?_; obtain ⟨hx2, h⟩ := h; refine zn (n_app (c := (fP (fI .i64) fB).cod) rfl rfl underlying89 underlying89 ynq rfl rfl (by decide) hS 0 rfl (hS.yo 3 rfl) hx2 ?_); clear hS; intro A c w9 hS; refine zb (zq (za (.slice A (lout + lr) c)) (yaa (yai (zr ?_)))); obtain ⟨hi, h⟩ := h; refine zq (ycv hE21 rfl hi) (zq (zm (ii (v + 1))) (yaa ?_)); obtain ⟨mq, hlt, h⟩ := h; exact again mq _ _ _ ⟨_, _, _, _, _, h, rfl, rfl, hE19, hE20, rfl, (hS.sel [0, 1] (by decide))⟩ hlt
      · replace h := h.2 hp3; exact zd hp3 (yaH rfl (zs (zq (yae hE7) (zq (za (.slice Aout lout cout)) (zq (za (ii 0)) (yaa (ybF rfl rfl rfl ⟨_, _, _, _, _, rfl, (hS.sel [0] (by decide)), h⟩)))))))
  · replace h := h.2 hp; refine zf hp (zs (zq (zm (ii r)) (zq (za (.slice none 0 0)) (zq (za (ii r)) (yaa ?_))))); replace hS := hS.nil 3 rfl (fP (fI .i64) fB).cod 142; exact ybF rfl rfl rfl ⟨_, _, _, _, _, rfl, (hS.sel [3] (by decide)), h⟩
def ynu (d : Int) (d2 : List E3) (i : List Int) (a : List (Int × Bool)) (R : (List Int) → Int → Prop) : Prop :=
ylU d d2 i (fun r =>
((r = 0 →
((4096 < ((a.length : Nat) : Int) →
R ([]) 5) ∧
(¬ (4096 < ((a.length : Nat) : Int)) →
((0 ≤ d ∧ d ≤ 1000000) ∧
(∃ I2 : Nat → Int → (List Int) → Prop, (∃ m0, I2 m0 0 (List.replicate d.toNat (0 : Int))) ∧ ∀ m2 v v2, I2 m2 v v2 → 
((v < ((a.length : Nat) : Int) →
((0 ≤ v ∧ v < ((a.length : Nat) : Int)) ∧
(∃ J2 : Prop, (J2 → (((gx a v.toNat).2 = true →
((0 ≤ ((gx a v.toNat).1) ∧ ((gx a v.toNat).1) < ((v2.length : Nat) : Int)) ∧
(In64 ((gi v2 ((gx a v.toNat).1).toNat) - 1) ∧
(In64 (v + 1) ∧
∃ m3, m3 < m2 ∧ I2 m3 (v + 1) (v2.set ((gx a v.toNat).1).toNat ((gi v2 ((gx a v.toNat).1).toNat) - 1)))))) ∧
(¬ ((gx a v.toNat).2 = true) →
((0 ≤ ((gx a v.toNat).1) ∧ ((gx a v.toNat).1) < ((v2.length : Nat) : Int)) ∧
(In64 ((gi v2 ((gx a v.toNat).1).toNat) + 1) ∧
(In64 (v + 1) ∧
∃ m4, m4 < m2 ∧ I2 m4 (v + 1) (v2.set ((gx a v.toNat).1).toNat ((gi v2 ((gx a v.toNat).1).toNat) + 1)))))))) ∧
((((gx a v.toNat).1) < 0 →
R ([]) 2) ∧
(¬ (((gx a v.toNat).1) < 0) →
((d ≤ ((gx a v.toNat).1) →
R ([]) 2) ∧
(¬ (d ≤ ((gx a v.toNat).1)) →
J2))))))) ∧
(¬ (v < ((a.length : Nat) : Int)) →
yh1 d d2 i v2 (fun r2 r3 =>
R r2 r3)))))))) ∧
(¬ (r = 0) →
R ([]) r)))
theorem ynI {O : Nat → Prop} {w : World} {d d2 i a Ad ld cd Ai li ci Aa la ca} {R : (List Int) → Int → Prop} (h : ynu d d2 i a R) (hO : ∀ k, O k → k < w.heap.size) (hA0 : (FP.sl c3 Ad ld cd d2).P O w) (hA1 : (FP.sl cI Ai li ci i).P O w) (hA2 : (FP.sl (fP (fI .i64) fB).cod Aa la ca a).P O w) :
    Calls Tryz.prog 66 #[(.agg #[(ii d), (.slice Ad ld cd)]), (.slice Ai li ci), (.slice Aa la ca)] w fun e w' => ∃ r4 r5 Ar2 lr2 cr2, e = .returned (.tuple #[(.slice Ar2 lr2 cr2), (ii r5)]) ∧ Sep w no O w' (rl [Res.ro (FP.sl cI Ar2 lr2 cr2 r4)]) ∧ R r4 r5 := by
  unfold ynu at h; have hS : Sep w no O w (rl [Res.ro (FP.sl c3 Ad ld cd d2), Res.ro (FP.sl cI Ai li ci i), Res.ro (FP.sl (fP (fI .i64) fB).cod Aa la ca a)]) := Sep.startl hO [(FP.sl c3 Ad ld cd d2), (FP.sl cI Ai li ci i), (FP.sl (fP (fI .i64) fB).cod Aa la ca a)] ⟨hA0, hA1, hA2, trivial⟩; refine yan (l := [(.agg #[(ii d), (.slice Ad ld cd)]), (.slice Ai li ci), (.slice Aa la ca)]) func66 rfl ntmps66 (Nat.le_of_ble_eq_true rfl) (zs (zn (yb6 (v := (.agg #[(ii d), (.slice Ad ld cd)])) rfl ?_))); intro g w2 hN; replace hS : Sep w no O w2 (stl _ 3 (Res.box 24 g [(ii d), (.slice Ad ld cd)])) := hS.new 3 rfl hN; clear hN; refine zb (zq (za (.slice none 0 0)) (zq (za (ii 0)) (yaa (yaf (zs (zq (yav (vs := [(ii d), (.slice Ad ld cd)]) rfl underlying24 rfl yas ⟨Row.cell (hS.bx 3 rfl) (i := 0) rfl, Row.cell (hS.bx 3 rfl) (i := 1) rfl, trivial⟩) (zq (zm (.slice Ai li ci)) (zn (yal rfl (am2 rfl rfl) ynZ ((ymy h (yaN _) (hS.rdr 0 rfl) (hS.rdr 1 rfl)).mono ?_)))))))))); rintro _ w3 ⟨r, rfl, hC, h⟩; replace hS := hS.pur hC.pure; clear hC; refine ⟨_, rfl, ?_⟩; refine zb (zq (za (ii r)) (yaa (zs (zq (zm (ii r)) (zq zN (yaa ?_)))))); by_cases hp : r = 0
  · replace h := h.1 hp; refine ze hp (yag (yaf (zs (zq (zm (.slice Aa la ca)) (zq (ybc (n := a.length) rfl underlying89 (ya2 (hS.rdr 2 rfl))) (zq zG (yaa ?_))))))); by_cases hp2 : 4096 < ((a.length : Nat) : Int)
    · replace h := h.1 hp2; refine zc hp2 (zs (zq (za (.slice none 0 0)) (zq (za (ii 5)) (yaa ?_)))); replace hS := hS.addro 4 rfl _ (yhk cI _ _); exact ybF rfl rfl rfl ⟨_, _, _, _, _, rfl, (hS.sel [4] (by decide)), h⟩
    · replace h := h.2 hp2; refine zd hp2 (yag (zs (zq (yam rfl underlying24 rfl yaj) (zq (zl underlying3 (Row.cell (hS.bx 3 rfl) (i := 0) rfl)) ?_)))); obtain ⟨hx, h⟩ := h; refine zn (yky rfl rfl underlying36 yaj (by decide) rfl hx ?_); intro g2 w4 hN; replace hS := hS.made 4 rfl cI (ii 0) (0 : Int) (fun _ _ => rfl) hN (by omega); clear hN; refine zb (zq (za (.slice (some ⟨g2, 0, none⟩) d.toNat d.toNat)) (yaa (yaf (zs (zq (zm (.slice Aa la ca)) (zq (ybc (n := a.length) rfl underlying89 (ya2 (hS.rdr 2 rfl))) (zq (zm (ii 0)) (yaa (yak ?_))))))))); obtain ⟨I2, ⟨m0, h0⟩, hr⟩ := h; refine yaO (fun m E ds w' => ∃ v v2, I2 m v v2 ∧ ds = [] ∧ E 1 = (Value.slice Ai li ci) ∧ E 3 = (Value.pointer (some (⟨g, 0, none⟩ : Addr))) ∧ E 9 = (Value.slice (some ⟨g2, 0, none⟩) d.toNat d.toNat) ∧ E 24 = (Value.slice Aa la ca) ∧ E 25 = (ii ((a.length : Nat) : Int)) ∧ E 26 = (ii v) ∧ Sep w no O w' (rl [Res.ro (FP.sl cI Ai li ci i), Res.box 24 g [(ii d), (.slice Ad ld cd)], Res.ro (FP.sl c3 Ad ld cd d2), Res.own cI 3 (some ⟨g2, 0, none⟩) d.toNat d.toNat v2, Res.ro (FP.sl (fP (fI .i64) fB).cod Aa la ca a)])) m0 ⟨_, _, h0, rfl, rfl, rfl, rfl, rfl, rfl, rfl, (hS.sel [1, 3, 0, 4, 2] (by decide))⟩ ?_; clear h0 hS; rintro m2 E ds w5 ⟨v, v2, h, rfl, hE1, hE3, hE9, hE24, hE25, hE26, hS⟩ again; replace h := hr m2 v v2 h; clear hr; refine zs (zq (yd4 hE26 hE25) (yaa (yaf ?_))); by_cases hp3 : v < ((a.length : Nat) : Int)
      · replace h := h.1 hp3; refine zc hp3 (yag (yaf (yak (zs ?_)))); obtain ⟨hx2, h⟩ := h; refine zq (yeK hE24 hE26 underlying89 ynq (ybh (hS.rdr 4 rfl) hx2)) (zq (yav (vs := [(ii ((gx a v.toNat).1)), (.bool ((gx a v.toNat).2))]) rfl underlying142 rfl ynq (yn2 (hS.rdr 4 rfl) hx2 (fun q => yfn q))) ?_); refine zn (ybJ ynq ?_); intro g3 w6 hN; replace hS : Sep w no O w6 (stl _ 5 (Res.box 142 g3 [(ii 0), (.bool (false))])) := hS.new 5 rfl hN; clear hN; refine zb (zo (yeb (b := g3) (o := 0) (cells := #[(ii ((gx a v.toNat).1)), (.bool ((gx a v.toNat).2))]) rfl rfl ynq rfl rfl (yc7 (hS.bx 5 rfl) (Nat.le_of_ble_eq_true rfl)) ?_)); intro w7 e1; replace hS := hS.bstn 5 rfl 0 [(ii ((gx a v.toNat).1)), (.bool ((gx a v.toNat).2))] e1; clear e1; refine zb (yaa (yak (yaf ?_))); obtain ⟨J2, hJ, h⟩ := h; refine wt_cutB1 (fun E ds w' => J2 ∧ ds = [] ∧ E 1 = (Value.slice Ai li ci) ∧ E 3 = (Value.pointer (some (⟨g, 0, none⟩ : Addr))) ∧ E 9 = (Value.slice (some ⟨g2, 0, none⟩) d.toNat d.toNat) ∧ E 11 = (Value.pointer (some (⟨g3, 0, none⟩ : Addr))) ∧ E 24 = (Value.slice Aa la ca) ∧ E 25 = (ii ((a.length : Nat) : Int)) ∧ E 26 = (ii v) ∧ Sep w no O w' (rl [Res.ro (FP.sl cI Ai li ci i), Res.box 24 g [(ii d), (.slice Ad ld cd)], Res.ro (FP.sl c3 Ad ld cd d2), Res.own cI 3 (some ⟨g2, 0, none⟩) d.toNat d.toNat v2, Res.box 142 g3 [(ii ((gx a v.toNat).1)), (.bool ((gx a v.toNat).2))], Res.ro (FP.sl (fP (fI .i64) fB).cod Aa la ca a)])) ?_ ?_
        · clear h hS; rintro E ds w8 ⟨h, rfl, hE1, hE3, hE9, hE11, hE24, hE25, hE26, hS⟩; replace h := hJ h; refine zs (zq (yam hE11 underlying142 rfl ycm) (zq (zl underlying4 (Row.cell (hS.bx 4 rfl) (i := 1) rfl)) (zq (za (.bool ((gx a v.toNat).2))) (yaa ?_)))); by_cases hp4 : (gx a v.toNat).2 = true
          · replace h := h.1 hp4; refine yaq (congrArg Value.bool hp4) (zr (zq (yae hE9) (zq (yam hE11 underlying142 rfl yaj) (zq (zl underlying3 (Row.cell (hS.bx 4 rfl) (i := 0) rfl)) ?_)))); obtain ⟨hx3, h⟩ := h; refine zq (zi underlying36 yaj (ybh (hS.rdo 3 rfl) hx3)) (zq (yaA (v := (ii (gi v2 ((gx a v.toNat).1).toNat))) rfl underlying3 rfl (rd_1 (hS.rdo 3 rfl) hx3 (fun q => ybs q) rfl)) ?_); obtain ⟨hi, h⟩ := h; refine zq (zS hi) (zq (zi underlying36 yaj (ybh (hS.rdo 3 rfl) hx3)) (zo (zt (ii ((gi v2 ((gx a v.toNat).1).toNat) - 1)) yaj (hS.wr 3 rfl rfl hx3) ?_))); intro w9 e1; replace hS := hS.st 3 rfl rfl hx3 (x := (gi v2 ((gx a v.toNat).1).toNat) - 1) rfl e1; clear e1; refine zb (yaa (yai (yai (zr ?_)))); obtain ⟨hi2, h⟩ := h; refine zq (ycv hE26 rfl hi2) (zq (zm (ii (v + 1))) (yaa ?_)); obtain ⟨mq, hlt, h⟩ := h; exact again mq _ _ _ ⟨_, _, h, rfl, hE1, hE3, hE9, hE24, hE25, rfl, (hS.sel [0, 1, 2, 3, 5] (by decide))⟩ hlt
          · replace h := h.2 hp4; refine yax (congrArg Value.bool (Bool.eq_false_iff.2 hp4)) (zr (zq (yae hE9) (zq (yam hE11 underlying142 rfl yaj) (zq (zl underlying3 (Row.cell (hS.bx 4 rfl) (i := 0) rfl)) ?_)))); obtain ⟨hx4, h⟩ := h; refine zq (zi underlying36 yaj (ybh (hS.rdo 3 rfl) hx4)) (zq (yaA (v := (ii (gi v2 ((gx a v.toNat).1).toNat))) rfl underlying3 rfl (rd_1 (hS.rdo 3 rfl) hx4 (fun q => ybs q) rfl)) ?_); obtain ⟨hi3, h⟩ := h; refine zq (zA hi3) (zq (zi underlying36 yaj (ybh (hS.rdo 3 rfl) hx4)) (zo (zt (ii ((gi v2 ((gx a v.toNat).1).toNat) + 1)) yaj (hS.wr 3 rfl rfl hx4) ?_))); intro w10 e1; replace hS := hS.st 3 rfl rfl hx4 (x := (gi v2 ((gx a v.toNat).1).toNat) + 1) rfl e1; clear e1; refine zb (yaa (yai (yai (zr ?_)))); obtain ⟨hi4, h⟩ := h; refine zq (ycv hE26 rfl hi4) (zq (zm (ii (v + 1))) (yaa ?_)); obtain ⟨mq, hlt, h⟩ := h; exact again mq _ _ _ ⟨_, _, h, rfl, hE1, hE3, hE9, hE24, hE25, rfl, (hS.sel [0, 1, 2, 3, 5] (by decide))⟩ hlt
        clear hJ; intro j; refine zr (zq (yam rfl underlying142 rfl yaj) (zq (zl underlying3 (Row.cell (hS.bx 5 rfl) (i := 0) rfl)) (zq zL (zq (zm (.bool (decide (((gx a v.toNat).1) < 0)))) ?_)))); by_cases hp5 : ((gx a v.toNat).1) < 0
        · replace h := h.1 hp5; refine rl_p (yab rfl (yac rfl (congrArg Value.bool (decide_eq_true hp5))) rfl) rfl (rl_p (yab rfl (yac rfl (congrArg Value.bool (decide_eq_true hp5))) rfl) rfl (rl_p (yab rfl (yac rfl (congrArg Value.bool (decide_eq_true hp5))) rfl) rfl (rl_p (yab rfl (yac rfl (congrArg Value.bool (decide_eq_true hp5))) rfl) rfl (rl_p (yab rfl (yac rfl (congrArg Value.bool (decide_eq_true hp5))) rfl) rfl (zq (yao (v := (.bool (true))) (congrArg Value.bool (decide_eq_true hp5)) rfl) (zq (za (.bool (true))) (yaa (yaq rfl (zs (zq (za (.slice none 0 0)) (zq (za (ii 2)) (yaa ?_)))))))))))); replace hS := hS.addro 6 rfl _ (yhk cI _ _); exact ybF rfl rfl rfl ⟨_, _, _, _, _, rfl, (hS.sel [6] (by decide)), h⟩
        · replace h := h.2 hp5; refine rl_q (yad rfl (yac rfl (congrArg Value.bool (decide_eq_false hp5)))) rfl rfl (yam rfl underlying142 rfl yaj) (rl_q (yad rfl (yac rfl (congrArg Value.bool (decide_eq_false hp5)))) rfl rfl (zl underlying3 (Row.cell (hS.bx 5 rfl) (i := 0) rfl)) (rl_q (yad rfl (yac rfl (congrArg Value.bool (decide_eq_false hp5)))) rfl rfl (yam hE3 underlying24 rfl yaj) (rl_q (yad rfl (yac rfl (congrArg Value.bool (decide_eq_false hp5)))) rfl rfl (zl underlying3 (Row.cell (hS.bx 1 rfl) (i := 0) rfl)) (rl_q (yad rfl (yac rfl (congrArg Value.bool (decide_eq_false hp5)))) rfl rfl (yiO rfl rfl) (zq (yap (v := (.bool (decide (d ≤ ((gx a v.toNat).1))))) (congrArg Value.bool (decide_eq_false hp5)) rfl) (zq (za (.bool (decide (d ≤ ((gx a v.toNat).1))))) (yaa ?_))))))); by_cases hp6 : d ≤ ((gx a v.toNat).1)
          · replace h := h.1 hp6; refine zc hp6 (zs (zq (za (.slice none 0 0)) (zq (za (ii 2)) (yaa ?_)))); replace hS := hS.addro 6 rfl _ (yhk cI _ _); exact ybF rfl rfl rfl ⟨_, _, _, _, _, rfl, (hS.sel [6] (by decide)), h⟩
          · replace h := h.2 hp6; exact zd hp6 (j _ _ _ ⟨h, rfl, hE1, hE3, hE9, rfl, hE24, hE25, hE26, (hS.sel [0, 1, 2, 3, 5, 4] (by decide))⟩)
      · replace h := h.2 hp3; refine zd hp3 (yaH rfl (zs (zq (yav (vs := [(ii d), (.slice Ad ld cd)]) hE3 underlying24 rfl yas ⟨Row.cell (hS.bx 1 rfl) (i := 0) rfl, Row.cell (hS.bx 1 rfl) (i := 1) rfl, trivial⟩) (zq (yae hE1) (zq (yae hE9) ?_))))); replace hS := hS.frz 3 rfl; refine zn (yal rfl (am3 rfl rfl rfl) enter_30 ((yiK h hS.blt (hS.ro 2 rfl) (hS.ro 0 rfl) (hS.ro 3 rfl)).mono ?_)); rintro _ w11 ⟨r2, r3, Ar, lr, cr, rfl, hC, h⟩; replace hS := hS.call1 hC 5 0 rfl; clear hC; refine ⟨_, rfl, ?_⟩; exact zb (zq (zx (.slice Ar lr cr)) (zq (zx (ii r3)) (zq (za (.slice Ar lr cr)) (zq (za (ii r3)) (yaa (ybF rfl rfl rfl ⟨_, _, _, _, _, rfl, (hS.sel [5] (by decide)), h⟩))))))
  · replace h := h.2 hp; refine zf hp (zs (zq (zm (ii r)) (zq (za (.slice none 0 0)) (zq (za (ii r)) (yaa ?_))))); replace hS := hS.addro 4 rfl _ (yhk cI _ _); exact ybF rfl rfl rfl ⟨_, _, _, _, _, rfl, (hS.sel [4] (by decide)), h⟩
def ylN (R : Int → (List E3) → Prop) : Prop :=
R 3 ([(0, 1, 1), (0, 2, 1), (1, 2, 1)])
theorem ymj {O : Nat → Prop} {w : World} {R : Int → (List E3) → Prop} (h : ylN R) (hO : ∀ k, O k → k < w.heap.size) :
    Calls Tryz.prog 124 #[] w fun e w' => ∃ r r2 Ar lr cr, e = .returned (.agg #[(ii r), (.slice Ar lr cr)]) ∧ Sep w no O w' (rl [Res.own c3 95 Ar lr cr r2]) ∧ R r r2 := by
  unfold ylN at h; have hS : Sep w no O w (rl []) := Sep.start w hO; refine yan (l := []) func124 rfl ntmps124 (Nat.le_of_ble_eq_true rfl) (zs (zn (ybJ yas ?_))); intro g w2 hN; replace hS : Sep w no O w2 (stl _ 0 (Res.box 24 g [(ii 0), (.slice none 0 0)])) := hS.new 0 rfl hN; clear hN; refine zb (yaa (zs (zn (yfr (l := [(0, (ii 0)), (1, (ii 1)), (2, (ii 1))]) (cells := [(ii 0), (ii 1), (ii 1)]) (places := [(0, 1), (1, 1), (2, 1)]) (bp3 rfl rfl rfl) underlying95 ybf (by kernel_rfl) rfl ?_)))); refine zb (zn (yfr (l := [(0, (ii 0)), (1, (ii 2)), (2, (ii 1))]) (cells := [(ii 0), (ii 2), (ii 1)]) (places := [(0, 1), (1, 1), (2, 1)]) (bp3 rfl rfl rfl) underlying95 ybf (by kernel_rfl) rfl ?_)); refine zb (zn (yfr (l := [(0, (ii 1)), (1, (ii 2)), (2, (ii 1))]) (cells := [(ii 1), (ii 2), (ii 1)]) (places := [(0, 1), (1, 1), (2, 1)]) (bp3 rfl rfl rfl) underlying95 ybf (by kernel_rfl) rfl ?_)); refine zb (zn (yaR (l := [(0, (.agg #[(ii 0), (ii 1), (ii 1)])), (1, (.agg #[(ii 0), (ii 2), (ii 1)])), (2, (.agg #[(ii 1), (ii 2), (ii 1)]))]) (cells := [(ii 0), (ii 1), (ii 1), (ii 0), (ii 2), (ii 1), (ii 1), (ii 2), (ii 1)]) (bp3 rfl rfl rfl) underlying22 ybf rfl rfl ?_)); intro g2 w3 hN; replace hS := hS.litf (n := 3) 1 rfl (fP (fI .i64) (fP (fI .i64) (fI .i64))) hN ([(0, 1, 1), (0, 2, 1), (1, 2, 1)] : List E3) rfl (by decide) rfl; clear hN; refine zb (zn (yfr (l := [(0, (ii 3)), (1, (.slice (some ⟨g2, 0, none⟩) 3 3))]) (cells := [(ii 3), (.slice (some ⟨g2, 0, none⟩) 3 3)]) (places := [(0, 1), (1, 1)]) (bp2 rfl rfl) underlying24 yas (by kernel_rfl) rfl ?_)); refine zb (zo (yeb (b := g) (o := 0) (cells := #[(ii 3), (.slice (some ⟨g2, 0, none⟩) 3 3)]) rfl rfl yas rfl rfl (yc7 (hS.bx 0 rfl) (Nat.le_of_ble_eq_true rfl)) ?_)); intro w4 e1; replace hS := hS.bstn 0 rfl 0 [(ii 3), (.slice (some ⟨g2, 0, none⟩) 3 3)] e1; clear e1; exact zb (yaa (wt_retx1 rfl (rv_n (vs := [(ii 3), (.slice (some ⟨g2, 0, none⟩) 3 3)]) rfl underlying24 rfl yas ⟨Row.cell (hS.bx 0 rfl) (i := 0) rfl, Row.cell (hS.bx 0 rfl) (i := 1) rfl, trivial⟩) ⟨_, _, _, _, _, rfl, (hS.sel [1] (by decide)), h⟩))
def ylA (R : Bool → Prop) : Prop :=
ylN (fun r r2 =>
ylT r r2 ([-1, 0, 2]) 2 (fun r3 r4 r5 =>
ylO r r2 ([-1, 0, 1]) ([0]) (fun r6 r7 r8 =>
yiZ r r2 ([-1, 0, 1]) (fun r9 r10 =>
(In64 (r5 + r8) ∧
(In64 ((r5 + r8) + r10) ∧
((((r5 + r8) + r10) = 0 →
((r4 = 1 →
((r6 = true →
R false) ∧
(¬ (r6 = true) →
((r9 = (-1) →
ylS r3 ([0, 0, 1]) (fun r11 =>
R r11)) ∧
(¬ (r9 = (-1)) →
R false))))) ∧
(¬ (r4 = 1) →
R false))) ∧
(¬ (((r5 + r8) + r10) = 0) →
R false))))))))
theorem ylC {O : Nat → Prop} {w : World} {R : Bool → Prop} (h : ylA R) (hO : ∀ k, O k → k < w.heap.size) :
    Calls Tryz.prog 57 #[] w fun e w' => ∃ r12, e = .returned (.bool (r12)) ∧ Sep w no O w' (rl []) ∧ R r12 := by
  unfold ylA at h; have hS : Sep w no O w (rl []) := Sep.start w hO; refine yan (l := []) func57 rfl ntmps57 (Nat.le_of_ble_eq_true rfl) (zs (zq (za (.bool (false))) (yaa (zs (zn (yal rfl (am0) enter_124 ((ymj h (yaN _)).mono ?_))))))); rintro _ w2 ⟨r, r2, Ar, lr, cr, rfl, hC, h⟩; replace hS := hS.call1 (hC.widen (yea (ybl (fP (fI .i64) (fP (fI .i64) (fI .i64))) _ _ _ _ _) ye0) hS.blt) 0 0 rfl; clear hC; refine ⟨_, rfl, ?_⟩; refine zb (zn (ybJ yas ?_)); intro g w3 hN; replace hS : Sep w no O w3 (stl _ 1 (Res.box 24 g [(ii 0), (.slice none 0 0)])) := hS.new 1 rfl hN; clear hN; refine zb (zo (yeb (b := g) (o := 0) (cells := #[(ii r), (.slice Ar lr cr)]) rfl rfl yas rfl rfl (yc7 (hS.bx 1 rfl) (Nat.le_of_ble_eq_true rfl)) ?_)); intro w4 e1; replace hS := hS.bstn 1 rfl 0 [(ii r), (.slice Ar lr cr)] e1; clear e1; refine zb (yaa (zs (zq (yav (vs := [(ii r), (.slice Ar lr cr)]) rfl underlying24 rfl yas ⟨Row.cell (hS.bx 1 rfl) (i := 0) rfl, Row.cell (hS.bx 1 rfl) (i := 1) rfl, trivial⟩) (zn (yaR (l := [(0, (ii (-1))), (1, (ii 0)), (2, (ii 2))]) (cells := [(ii (-1)), (ii 0), (ii 2)]) (bp3 rfl rfl rfl) underlying26 yaj rfl rfl ?_))))); intro g2 w5 hN; replace hS := hS.litf (n := 3) 2 rfl (fI .i64) hN ([-1, 0, 2] : List Int) rfl (by decide) rfl; clear hN; refine zb ?_; replace hS := hS.frz 0 rfl; replace hS := hS.frz 2 rfl; refine zn (yal rfl (am3 rfl rfl rfl) enter_64 ((ym3 h hS.blt (hS.ro 0 rfl) (hS.ro 2 rfl)).mono ?_)); rintro _ w6 ⟨r3, r4, r5, Ar2, lr2, cr2, rfl, hC, h⟩; replace hS := hS.call1 hC 3 0 rfl; clear hC; refine ⟨_, rfl, ?_⟩; refine zb (zq (zm (.tuple #[(.slice Ar2 lr2 cr2), (ii r4), (ii r5)])) (zq (zx (.slice Ar2 lr2 cr2)) (zq (zx (ii r4)) (zq (zx (ii r5)) (zq (za (.slice Ar2 lr2 cr2)) (zq (za (ii r4)) (zq (za (ii r5)) (yaa (zs (zq (yav (vs := [(ii r), (.slice Ar lr cr)]) rfl underlying24 rfl yas ⟨Row.cell (hS.bx 1 rfl) (i := 0) rfl, Row.cell (hS.bx 1 rfl) (i := 1) rfl, trivial⟩) (zn (yaR (l := [(0, (ii (-1))), (1, (ii 0)), (2, (ii 1))]) (cells := [(ii (-1)), (ii 0), (ii 1)]) (bp3 rfl rfl rfl) underlying26 yaj rfl rfl ?_)))))))))))); intro g3 w7 hN; replace hS := hS.litf (n := 3) 4 rfl (fI .i64) hN ([-1, 0, 1] : List Int) rfl (by decide) rfl; clear hN; refine zb (zn (yaR (l := [(0, (ii 0))]) (cells := [(ii 0)]) (bp1 rfl) underlying25 yaj rfl rfl ?_)); intro g4 w8 hN; replace hS := hS.litf (n := 1) 5 rfl (fI .i64) hN ([0] : List Int) rfl (by decide) rfl; clear hN; refine zb (zn (yal rfl (am3 rfl rfl rfl) enter_125 ((ymo h (yaN _) (hS.rdr 0 rfl) (hS.rdo 4 rfl) (hS.rdo 5 rfl)).mono ?_))); rintro _ w9 ⟨r6, r7, r8, Ar3, lr3, cr3, rfl, hC, h⟩; replace hS := hS.call1 (hC.widen (yea (ybl (fI .i64) _ _ _ _ _) ye0) hS.blt) 6 0 rfl; clear hC; refine ⟨_, rfl, ?_⟩; refine zb (zq (zm (.tuple #[(.bool (r6)), (.slice Ar3 lr3 cr3), (ii r8)])) (zq (zx (.bool (r6))) (zq (zx (.slice Ar3 lr3 cr3)) (zq (zx (ii r8)) (zq (za (.bool (r6))) (zq (za (.slice Ar3 lr3 cr3)) (zq (za (ii r8)) (yaa (zs (zq (yav (vs := [(ii r), (.slice Ar lr cr)]) rfl underlying24 rfl yas ⟨Row.cell (hS.bx 1 rfl) (i := 0) rfl, Row.cell (hS.bx 1 rfl) (i := 1) rfl, trivial⟩) (zn (yaR (l := [(0, (ii (-1))), (1, (ii 0)), (2, (ii 1))]) (cells := [(ii (-1)), (ii 0), (ii 1)]) (bp3 rfl rfl rfl) underlying26 yaj rfl rfl ?_)))))))))))); intro g5 w10 hN; replace hS := hS.litf (n := 3) 7 rfl (fI .i64) hN ([-1, 0, 1] : List Int) rfl (by decide) rfl; clear hN; refine zb (zn (yal rfl (am2 rfl rfl) enter_97 ((yjB h (yaN _) (hS.rdr 0 rfl) (hS.rdo 7 rfl)).mono ?_))); rintro _ w11 ⟨r9, r10, rfl, hC, h⟩; replace hS := hS.pur hC.pure; clear hC; refine ⟨_, rfl, ?_⟩; refine zb (zq (zm (.tuple #[(ii r9), (ii r10)])) (zq (zx (ii r9)) (zq (zx (ii r10)) (zq (za (ii r9)) (zq (za (ii r10)) (yaa (zs (zq (zm (ii r5)) (zq (zm (ii r8)) ?_))))))))); obtain ⟨hi, h⟩ := h; refine zq (zA hi) (zq (zm (ii r10)) ?_); obtain ⟨hi2, h⟩ := h; refine zq (zA hi2) (zq zE (zq (zm (.bool (decide (((r5 + r8) + r10) = 0)))) ?_)); by_cases hp : ((r5 + r8) + r10) = 0
  · replace h := h.1 hp; refine rl_q (yad rfl (yac rfl (congrArg Value.bool (decide_eq_true hp)))) rfl rfl (zm (ii r4)) (rl_q (yad rfl (yac rfl (congrArg Value.bool (decide_eq_true hp)))) rfl rfl zE (zq (yao (v := (.bool (decide (r4 = 1)))) (congrArg Value.bool (decide_eq_true hp)) rfl) (zq (zm (.bool (decide (r4 = 1)))) ?_))); by_cases hp2 : r4 = 1
    · replace h := h.1 hp2; refine rl_q (yad rfl (yac rfl (congrArg Value.bool (decide_eq_true hp2)))) rfl rfl (zm (.bool (r6))) (rl_q (yad rfl (yac rfl (congrArg Value.bool (decide_eq_true hp2)))) rfl rfl (ydn rfl) (zq (yao (v := (.bool (!(r6)))) (congrArg Value.bool (decide_eq_true hp2)) rfl) (zq (zm (.bool (!(r6)))) ?_))); by_cases hp3 : r6 = true
      · replace h := h.1 hp3; exact rl_p (yab rfl (yac rfl (congrArg Value.bool (congrArg Bool.not hp3))) rfl) rfl (rl_p (yab rfl (yac rfl (congrArg Value.bool (congrArg Bool.not hp3))) rfl) rfl (zq (yap (v := (.bool (false))) (congrArg Value.bool (congrArg Bool.not hp3)) rfl) (zq (zm (.bool (false))) (rl_p (yab rfl (yac rfl rfl) rfl) rfl (rl_p (yab rfl (yac rfl rfl) rfl) rfl (rl_p (yab rfl (yac rfl rfl) rfl) rfl (zq (yap (v := (.bool (false))) rfl rfl) (zq (za (.bool (false))) (yaa (yah rfl rfl ⟨_, rfl, (hS.sel [] (by decide)), h⟩))))))))))
      · replace h := h.2 hp3; refine rl_q (yad rfl (yac rfl (congrArg Value.bool (congrArg Bool.not (Bool.eq_false_iff.2 hp3))))) rfl rfl (zm (ii r9)) (rl_q (yad rfl (yac rfl (congrArg Value.bool (congrArg Bool.not (Bool.eq_false_iff.2 hp3))))) rfl rfl zE (zq (yao (v := (.bool (decide (r9 = (-1))))) (congrArg Value.bool (congrArg Bool.not (Bool.eq_false_iff.2 hp3))) rfl) (zq (zm (.bool (decide (r9 = (-1))))) ?_))); by_cases hp4 : r9 = (-1)
        · replace h := h.1 hp4; refine rl_q (yad rfl (yac rfl (congrArg Value.bool (decide_eq_true hp4)))) rfl rfl (zm (.slice Ar2 lr2 cr2)) (rl_n (yad rfl (yac rfl (congrArg Value.bool (decide_eq_true hp4)))) rfl rfl rfl (yaR (l := [(0, (ii 0)), (1, (ii 0)), (2, (ii 1))]) (cells := [(ii 0), (ii 0), (ii 1)]) (bp3 rfl rfl rfl) underlying36 yaj rfl rfl ?_)); intro g6 w12 hN; replace hS := hS.litf (n := 3) 8 rfl (fI .i64) hN ([0, 0, 1] : List Int) rfl (by decide) rfl; clear hN; refine zb (rl_n (yad rfl (yac rfl (congrArg Value.bool (decide_eq_true hp4)))) rfl rfl rfl (yal rfl (am2 rfl rfl) enter_126 ((ymJ h (yaN _) (hS.rdr 3 rfl) (hS.rdo 8 rfl)).mono ?_))); rintro _ w13 ⟨r11, rfl, hC, h⟩; replace hS := hS.pur hC.pure; clear hC; refine ⟨_, rfl, ?_⟩; exact zb (zq (yao (v := (.bool (r11))) (congrArg Value.bool (decide_eq_true hp4)) rfl) (zq (za (.bool (r11))) (yaa (yah rfl rfl ⟨_, rfl, (hS.sel [] (by decide)), h⟩))))
        · replace h := h.2 hp4; exact rl_p (yab rfl (yac rfl (congrArg Value.bool (decide_eq_false hp4))) rfl) rfl (rl_p (yab rfl (yac rfl (congrArg Value.bool (decide_eq_false hp4))) rfl) rfl (rl_p (yab rfl (yac rfl (congrArg Value.bool (decide_eq_false hp4))) rfl) rfl (zq (yap (v := (.bool (false))) (congrArg Value.bool (decide_eq_false hp4)) rfl) (zq (za (.bool (false))) (yaa (yah rfl rfl ⟨_, rfl, (hS.sel [] (by decide)), h⟩))))))
    · replace h := h.2 hp2; exact rl_p (yab rfl (yac rfl (congrArg Value.bool (decide_eq_false hp2))) rfl) rfl (rl_p (yab rfl (yac rfl (congrArg Value.bool (decide_eq_false hp2))) rfl) rfl (zq (yap (v := (.bool (false))) (congrArg Value.bool (decide_eq_false hp2)) rfl) (zq (zm (.bool (false))) (rl_p (yab rfl (yac rfl rfl) rfl) rfl (rl_p (yab rfl (yac rfl rfl) rfl) rfl (zq (yap (v := (.bool (false))) rfl rfl) (zq (zm (.bool (false))) (rl_p (yab rfl (yac rfl rfl) rfl) rfl (rl_p (yab rfl (yac rfl rfl) rfl) rfl (rl_p (yab rfl (yac rfl rfl) rfl) rfl (zq (yap (v := (.bool (false))) rfl rfl) (zq (za (.bool (false))) (yaa (yah rfl rfl ⟨_, rfl, (hS.sel [] (by decide)), h⟩))))))))))))))
  · replace h := h.2 hp; exact rl_p (yab rfl (yac rfl (congrArg Value.bool (decide_eq_false hp))) rfl) rfl (rl_p (yab rfl (yac rfl (congrArg Value.bool (decide_eq_false hp))) rfl) rfl (zq (yap (v := (.bool (false))) (congrArg Value.bool (decide_eq_false hp)) rfl) (zq (zm (.bool (false))) (rl_p (yab rfl (yac rfl rfl) rfl) rfl (rl_p (yab rfl (yac rfl rfl) rfl) rfl (zq (yap (v := (.bool (false))) rfl rfl) (zq (zm (.bool (false))) (rl_p (yab rfl (yac rfl rfl) rfl) rfl (rl_p (yab rfl (yac rfl rfl) rfl) rfl (zq (yap (v := (.bool (false))) rfl rfl) (zq (zm (.bool (false))) (rl_p (yab rfl (yac rfl rfl) rfl) rfl (rl_p (yab rfl (yac rfl rfl) rfl) rfl (rl_p (yab rfl (yac rfl rfl) rfl) rfl (zq (yap (v := (.bool (false))) rfl rfl) (zq (za (.bool (false))) (yaa (yah rfl rfl ⟨_, rfl, (hS.sel [] (by decide)), h⟩))))))))))))))))))
def ynr (d : List Int) (R : Bool → Int → Prop) : Prop :=
yhe ([d]) (fun r =>
((r = 0 →
ybb d (fun r2 =>
R (decide (0 ≤ r2)) 0)) ∧
(¬ (r = 0) →
R false r)))
theorem ynC {O : Nat → Prop} {w : World} {d Ad ld cd} {R : Bool → Int → Prop} (h : ynr d R) (hO : ∀ k, O k → k < w.heap.size) (hA0 : (FP.sl cI Ad ld cd d).P O w) :
    Calls Tryz.prog 67 #[(.slice Ad ld cd)] w fun e w' => ∃ r3 r4, e = .returned (.tuple #[(.bool (r3)), (ii r4)]) ∧ Sep w no O w' (rl []) ∧ R r3 r4 := by
  unfold ynr at h; have hS : Sep w no O w (rl [Res.ro (FP.sl cI Ad ld cd d)]) := Sep.startl hO [(FP.sl cI Ad ld cd d)] ⟨hA0, trivial⟩; refine yan (l := [(.slice Ad ld cd)]) func67 rfl ntmps67 (Nat.le_of_ble_eq_true rfl) (zs (zq (za (.bool (false))) (zq (za (ii 0)) (yaa (yaf (zs (zq (zm (.slice Ad ld cd)) (zn (yaR (l := [(0, (.slice Ad ld cd))]) (cells := [(.slice Ad ld cd)]) (bp1 rfl) underlying44 ya0 rfl rfl ?_))))))))); intro g w2 hN; replace hS := hS.lit (n := 1) (c := (cL cI)) 1 rfl hN ([d] : List (List Int)) rfl (by decide) ⟨[(.slice Ad ld cd)], _, rfl, (ro_R (hS.ro 0 rfl)), rfl⟩; clear hN; refine zb (zn (yal rfl (am1 rfl) enter_140 ((ymQ h (yaN _) (hS.rdo 1 rfl)).mono ?_))); rintro _ w3 ⟨r, rfl, hC, h⟩; replace hS := hS.pur hC.pure; clear hC; refine ⟨_, rfl, ?_⟩; refine zb (zq (za (ii r)) (yaa (zs (zq (zm (ii r)) (zq zN (yaa ?_)))))); by_cases hp : r = 0
  · replace h := h.1 hp; refine ze hp (yag (zs (zq (zm (.slice Ad ld cd)) (zn (yal rfl (am1 rfl) enter_141 ((yen h (yaN _) (hS.rdr 0 rfl)).mono ?_)))))); rintro _ w4 ⟨r2, rfl, hC, h⟩; replace hS := hS.pur hC.pure; clear hC; refine ⟨_, rfl, ?_⟩; exact zb (zq (yiO rfl rfl) (zq (za (.bool (decide (0 ≤ r2)))) (zq (za (ii 0)) (yaa (ybF rfl rfl rfl ⟨_, _, rfl, (hS.sel [] (by decide)), h⟩)))))
  · replace h := h.2 hp; exact zf hp (zs (zq (zm (ii r)) (zq (za (.bool (false))) (zq (za (ii r)) (yaa (ybF rfl rfl rfl ⟨_, _, rfl, (hS.sel [] (by decide)), h⟩))))))
def ynp (d : Int) (d2 : List E3) (i : List Int) (a : Int) (R : Bool → Prop) : Prop :=
(∃ J2 : Prop, (J2 → ylT d d2 i 4 (fun r r2 r3 =>
((r3 = 0 →
ynx d d2 r (fun r4 r5 =>
(∃ J3 : Prop, (J3 → ((r2 = 0 →
yih i (fun r6 =>
((r6 = true →
ylA (fun r7 =>
R r7)) ∧
(¬ (r6 = true) →
R false)))) ∧
(¬ (r2 = 0) →
(In64 a ∧
(r2 ≠ 0 ∧
((0 ≤ (a.tmod r2) ∧ (a.tmod r2) ≤ ((r4.length : Nat) : Int)) ∧
(0 + (r4.drop (a.tmod r2).toNat).length ≤ 1000000000 ∧
(([] ++ (r4.drop (a.tmod r2).toNat)).length + (r4.take (a.tmod r2).toNat).length ≤ 1000000000 ∧
ynu d d2 i (([] ++ (r4.drop (a.tmod r2).toNat)) ++ (r4.take (a.tmod r2).toNat)) (fun r8 r9 =>
((0 ≤ (1 : Int) ∧ (1 : Int) ≤ (((([] ++ (r4.drop (a.tmod r2).toNat)) ++ (r4.take (a.tmod r2).toNat)).length : Nat) : Int)) ∧
ynu d d2 i ((([] ++ (r4.drop (a.tmod r2).toNat)) ++ (r4.take (a.tmod r2).toNat)).drop (1 : Int).toNat) (fun r10 r11 =>
ynr r8 (fun r12 r13 =>
ynr r10 (fun r14 r15 =>
(In64 (r9 + r11) ∧
(In64 ((r9 + r11) + r13) ∧
(In64 (((r9 + r11) + r13) + r15) ∧
(((((r9 + r11) + r13) + r15) = 0 →
((r12 = true →
((r14 = true →
R false) ∧
(¬ (r14 = true) →
ylA (fun r16 =>
R r16)))) ∧
(¬ (r12 = true) →
R false))) ∧
(¬ ((((r9 + r11) + r13) + r15) = 0) →
R false)))))))))))))))))) ∧
((r5 = 0 →
((((r4.length : Nat) : Int) = r2 →
J3) ∧
(¬ (((r4.length : Nat) : Int) = r2) →
R false))) ∧
(¬ (r5 = 0) →
R false))))) ∧
(¬ (r3 = 0) →
((r3 = 6 →
ylA (fun r17 =>
R r17)) ∧
(¬ (r3 = 6) →
((r3 = 12 →
ylA (fun r18 =>
R r18)) ∧
(¬ (r3 = 12) →
R false)))))))) ∧
ynD d d2 i (fun r19 =>
((r19 = true →
yl9 d d2 i (fun r20 =>
((r20 = 0 →
J2) ∧
(¬ (r20 = 0) →
ylA (fun r21 =>
R r21))))) ∧
(¬ (r19 = true) →
ylA (fun r22 =>
R r22)))))
theorem ynT {O : Nat → Prop} {w : World} {d d2 i a Ad ld cd Ai li ci} {R : Bool → Prop} (h : ynp d d2 i a R) (hO : ∀ k, O k → k < w.heap.size) (hA0 : (FP.sl c3 Ad ld cd d2).P O w) (hA1 : (FP.sl cI Ai li ci i).P O w) :
    Calls Tryz.prog 11 #[(.agg #[(ii d), (.slice Ad ld cd)]), (.slice Ai li ci), (.int .u8 a)] w fun e w' => ∃ r23, e = .returned (.bool (r23)) ∧ Sep w no O w' (rl []) ∧ R r23 := by
  unfold ynp at h; have hS : Sep w no O w (rl [Res.ro (FP.sl c3 Ad ld cd d2), Res.ro (FP.sl cI Ai li ci i)]) := Sep.startl hO [(FP.sl c3 Ad ld cd d2), (FP.sl cI Ai li ci i)] ⟨hA0, hA1, trivial⟩; refine yan (l := [(.agg #[(ii d), (.slice Ad ld cd)]), (.slice Ai li ci), (.int .u8 a)]) func11 rfl ntmps11 (Nat.le_of_ble_eq_true rfl) (zs (zn (yb6 (v := (.agg #[(ii d), (.slice Ad ld cd)])) rfl ?_))); intro g w2 hN; replace hS : Sep w no O w2 (stl _ 2 (Res.box 24 g [(ii d), (.slice Ad ld cd)])) := hS.new 2 rfl hN; clear hN; refine zb (zq (za (.bool (false))) (yaa (yaf (yaf ?_)))); obtain ⟨J2, hJ, h⟩ := h; refine ycZ (fun E ds w' => J2 ∧ ds = [] ∧ E 1 = (Value.slice Ai li ci) ∧ E 2 = (Value.int .u8 a) ∧ E 3 = (Value.pointer (some (⟨g, 0, none⟩ : Addr))) ∧ Sep w no O w' (rl [Res.ro (FP.sl cI Ai li ci i), Res.box 24 g [(ii d), (.slice Ad ld cd)], Res.ro (FP.sl c3 Ad ld cd d2)])) ?_ ?_
  · clear h hS; rintro E ds w3 ⟨h, rfl, hE1, hE2, hE3, hS⟩; replace h := hJ h; refine zs (zq (yav (vs := [(ii d), (.slice Ad ld cd)]) hE3 underlying24 rfl yas ⟨Row.cell (hS.bx 1 rfl) (i := 0) rfl, Row.cell (hS.bx 1 rfl) (i := 1) rfl, trivial⟩) (zq (yae hE1) (zn (yal rfl (am3 rfl rfl rfl) enter_64 ((ym3 h hS.blt (hS.ro 2 rfl) (hS.ro 0 rfl)).mono ?_))))); rintro _ w4 ⟨r, r2, r3, Ar, lr, cr, rfl, hC, h⟩; replace hS := hS.call1 hC 3 0 rfl; clear hC; refine ⟨_, rfl, ?_⟩; refine zb (zq (zm (.tuple #[(.slice Ar lr cr), (ii r2), (ii r3)])) (zq (zx (.slice Ar lr cr)) (zq (zx (ii r2)) (zq (zx (ii r3)) (zq (za (.slice Ar lr cr)) (zq (za (ii r2)) (zq (za (ii r3)) (yaa (yaf (zs (zq (zm (ii r3)) (zq zN (yaa ?_))))))))))))); by_cases hp : r3 = 0
    · replace h := h.1 hp; refine ze hp (yag (zs (zq (yav (vs := [(ii d), (.slice Ad ld cd)]) hE3 underlying24 rfl yas ⟨Row.cell (hS.bx 1 rfl) (i := 0) rfl, Row.cell (hS.bx 1 rfl) (i := 1) rfl, trivial⟩) (zq (zm (.slice Ar lr cr)) (zn (yal rfl (am2 rfl rfl) enter_65 ((ynX h (yaN _) (hS.rdr 2 rfl) (hS.rdr 3 rfl)).mono ?_))))))); rintro _ w5 ⟨r4, r5, Ar2, lr2, cr2, rfl, hC, h⟩; replace hS := hS.call1 (hC.widen (yea (ybl (fP (fI .i64) fB) _ _ _ _ _) ye0) hS.blt) 4 0 rfl; clear hC; refine ⟨_, rfl, ?_⟩; refine zb (zq (zm (.tuple #[(.slice Ar2 lr2 cr2), (ii r5)])) (zq (zx (.slice Ar2 lr2 cr2)) (zq (zx (ii r5)) (zq (za (.slice Ar2 lr2 cr2)) (zq (za (ii r5)) (yaa (yaf (yaf ?_)))))))); obtain ⟨J3, hJ, h⟩ := h; refine ycZ (fun E ds w' => J3 ∧ ds = [] ∧ E 1 = (Value.slice Ai li ci) ∧ E 2 = (Value.int .u8 a) ∧ E 3 = (Value.pointer (some (⟨g, 0, none⟩ : Addr))) ∧ E 8 = (ii r2) ∧ E 10 = (Value.slice Ar2 lr2 cr2) ∧ Sep w no O w' (rl [Res.ro (FP.sl cI Ai li ci i), Res.box 24 g [(ii d), (.slice Ad ld cd)], Res.ro (FP.sl c3 Ad ld cd d2), Res.own (fP (fI .i64) fB).cod 142 Ar2 lr2 cr2 r4])) ?_ ?_
      · clear h hS; rintro E ds w6 ⟨h, rfl, hE1, hE2, hE3, hE8, hE10, hS⟩; replace h := hJ h; refine yaf (zs (zq (yae hE8) (zq zE (yaa ?_)))); by_cases hp2 : r2 = 0
        · replace h := h.1 hp2; refine zc hp2 (zs (zq (yae hE1) (zn (yal rfl (am1 rfl) enter_34 ((pok_r17_Paid h (yaN _) (hS.rdr 0 rfl)).mono ?_))))); rintro _ w7 ⟨r6, rfl, hC, h⟩; replace hS := hS.pur hC.pure; clear hC; refine ⟨_, rfl, ?_⟩; refine zb (zq (zm (.bool (r6))) ?_); by_cases hp3 : r6 = true
          · replace h := h.1 hp3; refine rl_n (yad rfl (yac rfl (congrArg Value.bool hp3))) rfl rfl rfl (yal rfl (am0) ymR ((ylC h (yaN _)).mono ?_)); rintro _ w8 ⟨r7, rfl, hC, h⟩; replace hS := hS.pur hC.pure; clear hC; refine ⟨_, rfl, ?_⟩; exact zb (zq (yao (v := (.bool (r7))) (congrArg Value.bool hp3) rfl) (zq (za (.bool (r7))) (yaa (yah rfl rfl ⟨_, rfl, (hS.sel [] (by decide)), h⟩))))
          · replace h := h.2 hp3; exact rl_p (yab rfl (yac rfl (congrArg Value.bool (Bool.eq_false_iff.2 hp3))) rfl) rfl (zq (yap (v := (.bool (false))) (congrArg Value.bool (Bool.eq_false_iff.2 hp3)) rfl) (zq (za (.bool (false))) (yaa (yah rfl rfl ⟨_, rfl, (hS.sel [] (by decide)), h⟩))))
        · replace h := h.2 hp2; refine zd hp2 (yag (zs (zq (yae hE2) ?_))); obtain ⟨hi, h⟩ := h; refine zq (v_conv rfl underlying5 underlying3 hi) (zq (yae hE8) ?_); obtain ⟨hz, h⟩ := h; refine zq (v_rem rfl rfl hz) (zq (za (ii (a.tmod r2))) (yaa (yaf (ybt [1, 2, 3, 5, 6, 7, 0, 4, 8, 9] (fun i => match i with | 0 => [1, 2, 3, 5, 6, 7] | 4 => [5, 6, 7] | _ => []) yaQ (by kernel_rfl) (by kernel_rfl) ?_)))); replace hS := hS.drew; refine zp (yae hE10) (zp (zm (ii (a.tmod r2))) ?_); obtain ⟨hx, h⟩ := h; replace hS := hS.frz 3 rfl; replace hS := hS.addro 4 rfl _ (sl_drop (hS.ro 3 rfl) hx); refine zp (ynF rfl rfl underlying89 ynq (by rw [ya2 (hS.rdr 3 rfl)]; exact hx)) (zp (yae hE10) (zp (zm (ii (a.tmod r2))) ?_)); replace hS := hS.addro 5 rfl _ (sl_take (hS.ro 3 rfl) hx); refine zp (ynH rfl rfl underlying89 ynq (le_cap (hS.rdr 3 rfl) hx)) (rp_n rfl rfl rfl rfl (yaR (l := []) (cells := []) (bp0) underlying89 ynq rfl rfl ?_)); intro g2 w9 hN; replace hS := hS.litf (n := 0) 6 rfl (fP (fI .i64) fB) hN ([] : List (Int × Bool)) rfl (by decide) rfl; clear hN; refine ⟨⟨fun _ => (ynH rfl rfl underlying89 ynq (le_cap (hS.rdr 3 rfl) hx)), ⟨fun _ => (zm (ii (a.tmod r2))), ⟨fun _ => (yae hE10), ⟨fun _ => (ynF rfl rfl underlying89 ynq (by rw [ya2 (hS.rdr 3 rfl)]; exact hx)), ⟨fun _ => (zm (ii (a.tmod r2))), ⟨fun _ => (yae hE10), trivial⟩⟩⟩⟩⟩⟩, ?_⟩; obtain ⟨hx2, h⟩ := h; refine rp_n rfl rfl rfl rfl (n_app (c := (fP (fI .i64) fB).cod) rfl rfl underlying89 underlying89 ynq rfl rfl (by decide) hS 6 rfl (hS.yr 4 rfl) hx2 ?_); clear hS; intro A c w10 hS; refine ⟨⟨fun _ => (ynH rfl rfl underlying89 ynq (le_cap (hS.rdr 3 rfl) hx)), ⟨fun _ => (zm (ii (a.tmod r2))), ⟨fun _ => (yae hE10), ⟨fun hh => Bool.noConfusion (show false = true from hh), ⟨fun hh => Bool.noConfusion (show false = true from hh), ⟨fun hh => Bool.noConfusion (show false = true from hh), trivial⟩⟩⟩⟩⟩⟩, ?_⟩; obtain ⟨hx3, h⟩ := h; refine rp_n rfl rfl rfl rfl (n_app (c := (fP (fI .i64) fB).cod) rfl rfl underlying89 underlying89 ynq rfl rfl (by decide) hS 6 rfl (hS.yr 5 rfl) hx3 ?_); clear hS; intro A2 c2 w11 hS; refine zb (zp (za (.slice A2 ((0 + (lr2 - (a.tmod r2).toNat)) + ((a.tmod r2).toNat)) c2)) (yb4 (zs (zq (yav (vs := [(ii d), (.slice Ad ld cd)]) hE3 underlying24 rfl yas ⟨Row.cell (hS.bx 1 rfl) (i := 0) rfl, Row.cell (hS.bx 1 rfl) (i := 1) rfl, trivial⟩) (zq (yae hE1) (zq (zm (.slice A2 ((0 + (lr2 - (a.tmod r2).toNat)) + ((a.tmod r2).toNat)) c2)) ?_)))))); replace hS := hS.frz 6 rfl; refine zn (yal rfl (am3 rfl rfl rfl) enter_66 ((ynI h hS.blt (hS.ro 2 rfl) (hS.ro 0 rfl) (hS.ro 6 rfl)).mono ?_)); rintro _ w12 ⟨r8, r9, Ar3, lr3, cr3, rfl, hC, h⟩; replace hS := hS.call1 hC 7 0 rfl; clear hC; refine ⟨_, rfl, ?_⟩; refine zb (zq (zm (.tuple #[(.slice Ar3 lr3 cr3), (ii r9)])) (zq (zx (.slice Ar3 lr3 cr3)) (zq (zx (ii r9)) (zq (za (.slice Ar3 lr3 cr3)) (zq (za (ii r9)) (yaa (yaf (ybt [0, 1, 2, 3, 4, 5, 6, 7, 8, 9] st0 yaQ (by kernel_rfl) (by kernel_rfl) ?_)))))))); replace hS := hS.drew; refine zp (yav (vs := [(ii d), (.slice Ad ld cd)]) hE3 underlying24 rfl yas ⟨Row.cell (hS.bx 1 rfl) (i := 0) rfl, Row.cell (hS.bx 1 rfl) (i := 1) rfl, trivial⟩) (zp (yae hE1) (zp (zm (.slice A2 ((0 + (lr2 - (a.tmod r2).toNat)) + ((a.tmod r2).toNat)) c2)) ?_)); obtain ⟨hx4, h⟩ := h; replace hS := hS.addro 8 rfl _ (sl_drop (hS.ro 6 rfl) hx4); refine zp (ynF rfl rfl underlying89 ynq (by rw [ya2 (hS.rdr 6 rfl)]; exact hx4)) (rp_n rfl rfl rfl rfl (yal rfl (am3 rfl rfl rfl) enter_66 ((ynI h hS.blt (hS.ro 2 rfl) (hS.ro 0 rfl) (hS.ro 8 rfl)).mono ?_))); rintro _ w13 ⟨r10, r11, Ar4, lr4, cr4, rfl, hC, h⟩; replace hS := hS.call1 hC 9 0 rfl; clear hC; refine ⟨_, rfl, ?_⟩; refine zb (zp (zm (.tuple #[(.slice Ar4 lr4 cr4), (ii r11)])) (zp (zx (.slice Ar4 lr4 cr4)) (zp (zx (ii r11)) (zp (za (.slice Ar4 lr4 cr4)) (zp (za (ii r11)) (yb4 (zs (zq (zm (.slice Ar3 lr3 cr3)) (zn (yal rfl (am1 rfl) enter_67 ((ynC h (yaN _) (hS.rdr 7 rfl)).mono ?_))))))))))); rintro _ w14 ⟨r12, r13, rfl, hC, h⟩; replace hS := hS.pur hC.pure; clear hC; refine ⟨_, rfl, ?_⟩; refine zb (zq (zm (.tuple #[(.bool (r12)), (ii r13)])) (zq (zx (.bool (r12))) (zq (zx (ii r13)) (zq (za (.bool (r12))) (zq (za (ii r13)) (yaa (zs (zq (zm (.slice Ar4 lr4 cr4)) (zn (yal rfl (am1 rfl) enter_67 ((ynC h (yaN _) (hS.rdr 9 rfl)).mono ?_))))))))))); rintro _ w15 ⟨r14, r15, rfl, hC, h⟩; replace hS := hS.pur hC.pure; clear hC; refine ⟨_, rfl, ?_⟩; refine zb (zq (zm (.tuple #[(.bool (r14)), (ii r15)])) (zq (zx (.bool (r14))) (zq (zx (ii r15)) (zq (za (.bool (r14))) (zq (za (ii r15)) (yaa (zs (zq (zm (ii r9)) (zq (zm (ii r11)) ?_))))))))); obtain ⟨hi2, h⟩ := h; refine zq (zA hi2) (zq (zm (ii r13)) ?_); obtain ⟨hi3, h⟩ := h; refine zq (zA hi3) (zq (zm (ii r15)) ?_); obtain ⟨hi4, h⟩ := h; refine zq (zA hi4) (zq zE (zq (zm (.bool (decide ((((r9 + r11) + r13) + r15) = 0)))) ?_)); by_cases hp4 : (((r9 + r11) + r13) + r15) = 0
          · replace h := h.1 hp4; refine rl_q (yad rfl (yac rfl (congrArg Value.bool (decide_eq_true hp4)))) rfl rfl (zm (.bool (r12))) (zq (yao (v := (.bool (r12))) (congrArg Value.bool (decide_eq_true hp4)) rfl) (zq (zm (.bool (r12))) ?_)); by_cases hp5 : r12 = true
            · replace h := h.1 hp5; refine rl_q (yad rfl (yac rfl (congrArg Value.bool hp5))) rfl rfl (zm (.bool (r14))) (rl_q (yad rfl (yac rfl (congrArg Value.bool hp5))) rfl rfl (ydn rfl) (zq (yao (v := (.bool (!(r14)))) (congrArg Value.bool hp5) rfl) (zq (zm (.bool (!(r14)))) ?_))); by_cases hp6 : r14 = true
              · replace h := h.1 hp6; exact rl_p (yab rfl (yac rfl (congrArg Value.bool (congrArg Bool.not hp6))) rfl) rfl (zq (yap (v := (.bool (false))) (congrArg Value.bool (congrArg Bool.not hp6)) rfl) (zq (za (.bool (false))) (yaa (yah rfl rfl ⟨_, rfl, (hS.sel [] (by decide)), h⟩))))
              · replace h := h.2 hp6; refine rl_n (yad rfl (yac rfl (congrArg Value.bool (congrArg Bool.not (Bool.eq_false_iff.2 hp6))))) rfl rfl rfl (yal rfl (am0) ymR ((ylC h (yaN _)).mono ?_)); rintro _ w16 ⟨r16, rfl, hC, h⟩; replace hS := hS.pur hC.pure; clear hC; refine ⟨_, rfl, ?_⟩; exact zb (zq (yao (v := (.bool (r16))) (congrArg Value.bool (congrArg Bool.not (Bool.eq_false_iff.2 hp6))) rfl) (zq (za (.bool (r16))) (yaa (yah rfl rfl ⟨_, rfl, (hS.sel [] (by decide)), h⟩))))
            · replace h := h.2 hp5; exact rl_p (yab rfl (yac rfl (congrArg Value.bool (Bool.eq_false_iff.2 hp5))) rfl) rfl (rl_p (yab rfl (yac rfl (congrArg Value.bool (Bool.eq_false_iff.2 hp5))) rfl) rfl (zq (yap (v := (.bool (false))) (congrArg Value.bool (Bool.eq_false_iff.2 hp5)) rfl) (zq (zm (.bool (false))) (rl_p (yab rfl (yac rfl rfl) rfl) rfl (zq (yap (v := (.bool (false))) rfl rfl) (zq (za (.bool (false))) (yaa (yah rfl rfl ⟨_, rfl, (hS.sel [] (by decide)), h⟩))))))))
          · replace h := h.2 hp4; exact rl_p (yab rfl (yac rfl (congrArg Value.bool (decide_eq_false hp4))) rfl) rfl (zq (yap (v := (.bool (false))) (congrArg Value.bool (decide_eq_false hp4)) rfl) (zq (zm (.bool (false))) (rl_p (yab rfl (yac rfl rfl) rfl) rfl (rl_p (yab rfl (yac rfl rfl) rfl) rfl (zq (yap (v := (.bool (false))) rfl rfl) (zq (zm (.bool (false))) (rl_p (yab rfl (yac rfl rfl) rfl) rfl (zq (yap (v := (.bool (false))) rfl rfl) (zq (za (.bool (false))) (yaa (yah rfl rfl ⟨_, rfl, (hS.sel [] (by decide)), h⟩)))))))))))
      clear hJ; intro j2; refine zr (zq (zm (ii r5)) (zq zN (zq (zm (.bool (!(decide (r5 = 0))))) ?_))); by_cases hp7 : r5 = 0
      · replace h := h.1 hp7; refine rl_q (yad rfl (yac rfl (congrArg Value.bool (congrArg Bool.not (decide_eq_true hp7))))) rfl rfl (zm (.slice Ar2 lr2 cr2)) (rl_q (yad rfl (yac rfl (congrArg Value.bool (congrArg Bool.not (decide_eq_true hp7))))) rfl rfl (ybc (n := r4.length) rfl underlying89 (ya2 (hS.rdo 4 rfl))) (rl_q (yad rfl (yac rfl (congrArg Value.bool (congrArg Bool.not (decide_eq_true hp7))))) rfl rfl (zm (ii r2)) (rl_q (yad rfl (yac rfl (congrArg Value.bool (congrArg Bool.not (decide_eq_true hp7))))) rfl rfl zN (zq (yap (v := (.bool (!(decide (((r4.length : Nat) : Int) = r2))))) (congrArg Value.bool (congrArg Bool.not (decide_eq_true hp7))) rfl) (yaa ?_))))); by_cases hp8 : ((r4.length : Nat) : Int) = r2
        · replace h := h.1 hp8; exact ze hp8 (yag (j2 _ _ _ ⟨h, rfl, hE1, hE2, hE3, rfl, rfl, (hS.sel [0, 1, 2, 4] (by decide))⟩))
        · replace h := h.2 hp8; exact zf hp8 (zs (zq (za (.bool (false))) (yaa (yah rfl rfl ⟨_, rfl, (hS.sel [] (by decide)), h⟩))))
      · replace h := h.2 hp7; exact rl_p (yab rfl (yac rfl (congrArg Value.bool (congrArg Bool.not (decide_eq_false hp7)))) rfl) rfl (rl_p (yab rfl (yac rfl (congrArg Value.bool (congrArg Bool.not (decide_eq_false hp7)))) rfl) rfl (rl_p (yab rfl (yac rfl (congrArg Value.bool (congrArg Bool.not (decide_eq_false hp7)))) rfl) rfl (rl_p (yab rfl (yac rfl (congrArg Value.bool (congrArg Bool.not (decide_eq_false hp7)))) rfl) rfl (zq (yao (v := (.bool (true))) (congrArg Value.bool (congrArg Bool.not (decide_eq_false hp7))) rfl) (yaa (yaq rfl (zs (zq (za (.bool (false))) (yaa (yah rfl rfl ⟨_, rfl, (hS.sel [] (by decide)), h⟩))))))))))
    · replace h := h.2 hp; refine zf hp (zs (zq (zm (ii r3)) (zq zE (zq (zm (.bool (decide (r3 = 6)))) ?_)))); by_cases hp9 : r3 = 6
      · replace h := h.1 hp9; refine rl_p (yab rfl (yac rfl (congrArg Value.bool (decide_eq_true hp9))) rfl) rfl (rl_p (yab rfl (yac rfl (congrArg Value.bool (decide_eq_true hp9))) rfl) rfl (zq (yao (v := (.bool (true))) (congrArg Value.bool (decide_eq_true hp9)) rfl) (zq (zm (.bool (true))) (rl_n (yad rfl (yac rfl rfl)) rfl rfl rfl (yal rfl (am0) ymR ((ylC h (yaN _)).mono ?_)))))); rintro _ w17 ⟨r17, rfl, hC, h⟩; replace hS := hS.pur hC.pure; clear hC; refine ⟨_, rfl, ?_⟩; exact zb (zq (yao (v := (.bool (r17))) rfl rfl) (zq (za (.bool (r17))) (yaa (yah rfl rfl ⟨_, rfl, (hS.sel [] (by decide)), h⟩))))
      · replace h := h.2 hp9; refine rl_q (yad rfl (yac rfl (congrArg Value.bool (decide_eq_false hp9)))) rfl rfl (zm (ii r3)) (rl_q (yad rfl (yac rfl (congrArg Value.bool (decide_eq_false hp9)))) rfl rfl zE (zq (yap (v := (.bool (decide (r3 = 12)))) (congrArg Value.bool (decide_eq_false hp9)) rfl) (zq (zm (.bool (decide (r3 = 12)))) ?_))); by_cases hp10 : r3 = 12
        · replace h := h.1 hp10; refine rl_n (yad rfl (yac rfl (congrArg Value.bool (decide_eq_true hp10)))) rfl rfl rfl (yal rfl (am0) ymR ((ylC h (yaN _)).mono ?_)); rintro _ w18 ⟨r18, rfl, hC, h⟩; replace hS := hS.pur hC.pure; clear hC; refine ⟨_, rfl, ?_⟩; exact zb (zq (yao (v := (.bool (r18))) (congrArg Value.bool (decide_eq_true hp10)) rfl) (zq (za (.bool (r18))) (yaa (yah rfl rfl ⟨_, rfl, (hS.sel [] (by decide)), h⟩))))
        · replace h := h.2 hp10; exact rl_p (yab rfl (yac rfl (congrArg Value.bool (decide_eq_false hp10))) rfl) rfl (zq (yap (v := (.bool (false))) (congrArg Value.bool (decide_eq_false hp10)) rfl) (zq (za (.bool (false))) (yaa (yah rfl rfl ⟨_, rfl, (hS.sel [] (by decide)), h⟩))))
  clear hJ; intro j; refine zr (zq (yav (vs := [(ii d), (.slice Ad ld cd)]) rfl underlying24 rfl yas ⟨Row.cell (hS.bx 2 rfl) (i := 0) rfl, Row.cell (hS.bx 2 rfl) (i := 1) rfl, trivial⟩) (zq (zm (.slice Ai li ci)) (zn (yal rfl (am2 rfl rfl) enter_63 ((pok_r43_Small h (yaN _) (hS.rdr 0 rfl) (hS.rdr 1 rfl)).mono ?_))))); rintro _ w19 ⟨r19, rfl, hC, h⟩; replace hS := hS.pur hC.pure; clear hC; refine ⟨_, rfl, ?_⟩; refine zb (zq (ydn rfl) (zq (zm (.bool (!(r19)))) ?_)); by_cases hp11 : r19 = true
  · replace h := h.1 hp11; refine rl_q (yad rfl (yac rfl (congrArg Value.bool (congrArg Bool.not hp11)))) rfl rfl (yav (vs := [(ii d), (.slice Ad ld cd)]) rfl underlying24 rfl yas ⟨Row.cell (hS.bx 2 rfl) (i := 0) rfl, Row.cell (hS.bx 2 rfl) (i := 1) rfl, trivial⟩) (rl_q (yad rfl (yac rfl (congrArg Value.bool (congrArg Bool.not hp11)))) rfl rfl (zm (.slice Ai li ci)) (rl_n (yad rfl (yac rfl (congrArg Value.bool (congrArg Bool.not hp11)))) rfl rfl rfl (yal rfl (am2 rfl rfl) enter_55 ((ynQ h (yaN _) (hS.rdr 0 rfl) (hS.rdr 1 rfl)).mono ?_)))); rintro _ w20 ⟨r20, rfl, hC, h⟩; replace hS := hS.pur hC.pure; clear hC; refine ⟨_, rfl, ?_⟩; refine zb (rl_q (yad rfl (yac rfl (congrArg Value.bool (congrArg Bool.not hp11)))) rfl rfl zN (zq (yap (v := (.bool (!(decide (r20 = 0))))) (congrArg Value.bool (congrArg Bool.not hp11)) rfl) (yaa ?_))); by_cases hp12 : r20 = 0
    · replace h := h.1 hp12; exact ze hp12 (yag (j _ _ _ ⟨h, rfl, rfl, rfl, rfl, (hS.sel [1, 2, 0] (by decide))⟩))
    · replace h := h.2 hp12; refine zf hp12 (zs (zn (yal rfl (am0) ymR ((ylC h (yaN _)).mono ?_)))); rintro _ w21 ⟨r21, rfl, hC, h⟩; replace hS := hS.pur hC.pure; clear hC; refine ⟨_, rfl, ?_⟩; exact zb (zq (za (.bool (r21))) (yaa (yah rfl rfl ⟨_, rfl, (hS.sel [] (by decide)), h⟩)))
  · replace h := h.2 hp11; refine rl_p (yab rfl (yac rfl (congrArg Value.bool (congrArg Bool.not (Bool.eq_false_iff.2 hp11)))) rfl) rfl (rl_p (yab rfl (yac rfl (congrArg Value.bool (congrArg Bool.not (Bool.eq_false_iff.2 hp11)))) rfl) rfl (rl_p (yab rfl (yac rfl (congrArg Value.bool (congrArg Bool.not (Bool.eq_false_iff.2 hp11)))) rfl) rfl (rl_p (yab rfl (yac rfl (congrArg Value.bool (congrArg Bool.not (Bool.eq_false_iff.2 hp11)))) rfl) rfl (zq (yao (v := (.bool (true))) (congrArg Value.bool (congrArg Bool.not (Bool.eq_false_iff.2 hp11))) rfl) (yaa (yaq rfl (zs (zn (yal rfl (am0) ymR ((ylC h (yaN _)).mono ?_)))))))))); rintro _ w22 ⟨r22, rfl, hC, h⟩; replace hS := hS.pur hC.pure; clear hC; refine ⟨_, rfl, ?_⟩; exact zb (zq (za (.bool (r22))) (yaa (yah rfl rfl ⟨_, rfl, (hS.sel [] (by decide)), h⟩)))
end Go.Proofs.YtncilechkclmbaaGreat

/- Valences. -/
namespace Go.Proofs.YtncilechkclmbaaGreat
open Go Go.Proofs.Tryz
set_option linter.unusedVariables false
set_option linter.unusedSimpArgs false
theorem deg_w1 {n : Nat} {x : E3} {v : Nat} (hx : 0 ≤ x.1 ∧ x.1 < n ∧ 0 ≤ x.2.1 ∧ x.2.1 < n) : sm n (fun u => w1 x v u) = if x.1 = x.2.1 then 0 else if x.1 = v then x.2.2 else if x.2.1 = v then x.2.2 else 0 := by
  by_cases e : x.1 = x.2.1
  · rw [if_pos e, yau (g := fun _ => 0) fun u _ => by unfold w1; rw [if_neg (fun q => q.1 e)], ycf]
  · rw [if_neg e]
    by_cases e1 : x.1 = v
    · rw [if_pos e1]
      have h : sm n (fun u => w1 x v u) = sm n (fun u => if u = x.2.1.toNat then x.2.2 else 0) := yau fun u hu => by
        unfold w1
        by_cases c : u = x.2.1.toNat
        · rw [if_pos c, if_pos ⟨e, .inl ⟨e1, by omega⟩⟩]
        · rw [if_neg c, if_neg]
          rintro ⟨_, ⟨_, q⟩ | ⟨q, q2⟩⟩
          · omega
          · omega
      rw [h, yeI _ (by omega)]
    · rw [if_neg e1]
      by_cases e2 : x.2.1 = v
      · rw [if_pos e2]
        have h : sm n (fun u => w1 x v u) = sm n (fun u => if u = x.1.toNat then x.2.2 else 0) := yau fun u hu => by
          unfold w1
          by_cases c : u = x.1.toNat
          · rw [if_pos c, if_pos ⟨e, .inr ⟨by omega, e2⟩⟩]
          · rw [if_neg c, if_neg]
            rintro ⟨_, ⟨q, _⟩ | ⟨q, q2⟩⟩
            · omega
            · omega
        rw [h, yeI _ (by omega)]
      · rw [if_neg e2, yau (g := fun _ => 0) fun u _ => by
          unfold w1
          rw [if_neg]
          rintro ⟨_, ⟨q, _⟩ | ⟨_, q⟩⟩
          · exact e1 q
          · exact e2 q, ycf]
theorem deg_take {n : Nat} {es : List E3} (hE : EOk n es) {k : Nat} (hk : k < es.length) (v : Nat) : deg n (es.take (k + 1)) v = deg n (es.take k) v + if (ge es k).1 = (ge es k).2.1 then 0 else if (ge es k).1 = v then (ge es k).2.2 else if (ge es k).2.1 = v then (ge es k).2.2 else 0 := by
  have hx := hE _ (yiJ hk)
  have e : es.take (k + 1) = es.take k ++ [ge es k] := by rw [List.take_add_one, List.getElem?_eq_getElem hk, ydL hk]; rfl
  rw [← deg_w1 (x := ge es k) (n := n) (v := v) (by omega), e]
  unfold deg
  rw [← ycF]
  exact yau fun u _ => W_snoc _ _ _ _
theorem ymE {n v : Nat} {es : List E3} {R : Int → Int → Prop} (hl : es.length ≤ 1000) (hg : yat n es = 0) (hv : v < n) (h : R (deg n es v) 0) : ylQ (n : Int) es (v : Int) R := by
  obtain ⟨hE, hn1, hn12⟩ := yc9 hg
  unfold ylQ ymu
  refine yj0 (by omega) ⟨fun _ => ?_, fun q => absurd hg q⟩
  refine ⟨Cnt 1 (fun _ => True), Cnt.start trivial, ?_⟩
  rintro m _ ⟨k, rfl, rfl, hk, -⟩
  simp only [Int.toNat_natCast, List.length_singleton]
  refine ⟨fun hlt => ⟨by omega, yiC ⟨fun _ => Cnt.next (by omega) (by omega) trivial, fun q => absurd (decide_eq_true ?_) q⟩⟩, fun _ => ⟨fun _ => ?_, fun q => absurd trivial q⟩⟩
  · have e : k = 0 := by omega
    subst e
    show 0 ≤ (v : Int) ∧ (v : Int) < n
    omega
  refine ⟨fun m d i => Cnt es.length (fun k => d = deg n (es.take k) v ∧ 0 ≤ d ∧ d ≤ 50 * k) m i, Cnt.start ⟨?_, by omega, by omega⟩, ?_⟩
  · unfold deg; rw [List.take_zero, yau (g := fun _ => 0) fun u _ => W_nil _ _, ycf]
  rintro m _ _ ⟨k, rfl, rfl, hk, rfl, h2⟩
  simp only [Int.toNat_natCast]
  refine ⟨fun hlt => ⟨by omega, ?_⟩, fun hge => ?_⟩
  · have hlt : k < es.length := by omega
    have hx := hE _ (yiJ hlt)
    have h1 := deg_take hE hlt v
    refine ⟨fun e => ?_, fun e => ⟨fun e1 => ?_, fun e1 => ⟨fun e2 => ?_, fun e2 => ?_⟩⟩⟩
    · rw [if_pos e, Int.add_zero] at h1
      exact Cnt.next hlt (by omega) ⟨h1.symm, by omega, by omega⟩
    · rw [if_neg e, if_pos e1] at h1
      exact ⟨i64 (by omega), Cnt.next hlt (by omega) ⟨h1.symm, by omega, by omega⟩⟩
    · rw [if_neg e, if_neg e1, if_pos e2] at h1
      exact ⟨i64 (by omega), Cnt.next hlt (by omega) ⟨h1.symm, by omega, by omega⟩⟩
    · rw [if_neg e, if_neg e1, if_neg e2, Int.add_zero] at h1
      exact Cnt.next hlt (by omega) ⟨h1.symm, by omega, by omega⟩
  · have e : k = es.length := by omega
    rw [e, List.take_length]; exact h
end Go.Proofs.YtncilechkclmbaaGreat

/- The dollar game: borrowing, greedy play. -/
namespace Go.Proofs.YtncilechkclmbaaGreat
open Go Go.Proofs.Tryz
set_option linter.unusedVariables false
set_option linter.unusedSimpArgs false
theorem yni {n : Int} {es : List E3} {R : Int → Prop} (hl : es.length ≤ 1000) (h : R (yb2 n es)) : ylX n es R := by
  unfold ylX
  unfold yb2 at h
  refine ⟨by omega, fun hg => ⟨fun hc => ?_, fun hc => ?_⟩, fun hg => ?_⟩
  · have := of_decide_eq_true hc
    rwa [if_pos this.1, if_pos this.2] at h
  · rwa [if_pos hg, if_neg (fun q => hc (decide_eq_true ⟨hg, q⟩))] at h
  · rwa [if_neg hg] at h
theorem ymI {n : Int} {es : List E3} {d : List Int} {R : Int → Prop} (hl : es.length ≤ 1000) (h : R (yaD n es 0 d)) : ylU n es d R := by
  unfold ylU
  rw [given0] at h
  refine yni hl ⟨fun q => yhs ?_, fun q => ?_⟩
  · rwa [if_pos q] at h
  · rwa [if_neg q] at h
theorem ynN {n : Int} {es : List E3} {d : List Int} {R : Int → Prop} (hl : es.length ≤ 1000) (h : R (yaD n es 0 d)) : yl9 n es d R := by
  unfold yl9 ymi
  rw [given0] at h
  unfold yb2 at h
  refine ygA (by omega) ⟨fun hg => ?_, fun hg => ⟨fun q => absurd q hg, fun _ => ?_⟩⟩
  · rw [if_pos hg] at h
    obtain ⟨n, rfl⟩ : ∃ n' : Nat, n = (n' : Int) := ⟨n.toNat, by have := (yng hg).2; omega⟩
    refine yey (by omega) hg ⟨fun hc => ⟨fun _ => yft ?_, fun q => absurd rfl q⟩, fun hc => ⟨fun q => (by cases q), fun _ => ?_⟩⟩
    · rw [if_pos hc, if_pos rfl] at h; exact h
    · rw [if_neg hc, if_neg (by decide)] at h; exact h
  · rw [if_neg hg, if_neg hg] at h; exact h
def brwF (n : Nat) (es : List E3) (d : List Int) (v : Nat) (t : Int) : List Int := tab (fun u => gi d u + t * (if u = v then deg n es v else - W es u v)) n
theorem yl4 {n : Nat} {es : List E3} {d : List Int} {v : Nat} {t : Int} : (brwF n es d v t).length = n := ydW _ n
theorem brw_take {n : Nat} {es : List E3} (hE : EOk n es) {d : List Int} {v k : Nat} {t : Int} (hk : k < es.length) (u : Nat) (hu : u < n) :
    gi (brwF n (es.take (k + 1)) d v t) u = gi (brwF n (es.take k) d v t) u + t * (if u = v then (if (ge es k).1 = (ge es k).2.1 then 0 else if (ge es k).1 = v then (ge es k).2.2 else if (ge es k).2.1 = v then (ge es k).2.2 else 0) else - w1 (ge es k) u v) := by
  have e : es.take (k + 1) = es.take k ++ [ge es k] := by rw [List.take_add_one, List.getElem?_eq_getElem hk, ydL hk]; rfl
  unfold brwF
  rw [yf5 _ hu, yf5 _ hu, deg_take hE hk, e, W_snoc]
  split
  · rw [Int.mul_add]; omega
  · rw [Int.neg_add, Int.mul_add]; omega
theorem w1_at {x : E3} {u v : Nat} (h : x.1 ≠ x.2.1) (hv : x.1 = v ∨ x.2.1 = v) : w1 x u v = if (u : Int) = x.1 + x.2.1 - v then x.2.2 else 0 := by
  unfold w1
  by_cases c : (u : Int) = x.1 + x.2.1 - v
  · rw [if_pos c, if_pos ⟨h, by omega⟩]
  · rw [if_neg c, if_neg (fun q => by omega)]
theorem ynn {n v : Nat} {es : List E3} {d : List Int} {t : Int} {R : List Int → Prop} (hl : es.length ≤ 1000) (hg : yat n es = 0) (hdl : d.length = n) (hv : v < n) (ht : t = 1 ∨ t = -1) (hb : ∀ j, j < n → -1000000000000000 ≤ gi d j ∧ gi d j ≤ 1000000000000000)
    (h : R (brwF n es d v t)) : ylZ (n : Int) es d (v : Int) t R := by
  obtain ⟨hE, hn1, hn12⟩ := yc9 hg
  unfold ylZ
  refine ⟨fun m v2 d2 => Cnt es.length (fun k => d2 = brwF n (es.take k) d v t ∧ ∀ j, j < n → gi d j - 50 * k ≤ gi d2 j ∧ gi d2 j ≤ gi d j + 50 * k) m v2, Cnt.start ⟨?_, fun j hj => by omega⟩, ?_⟩
  · refine eq_tab hdl _ fun i hi => ?_
    have : deg n (es.take 0) v = 0 := ycf n
    rw [this, List.take_zero, W_nil]; split <;> omega
  rintro m _ d2 ⟨k, rfl, rfl, hk, rfl, hbd⟩
  simp only [Int.toNat_natCast]
  refine ⟨fun hlt => ⟨by omega, ?_⟩, fun hge => ?_⟩
  · have hlt : k < es.length := by omega
    have hx := hE _ (yiJ hlt)
    have hal : (brwF n (es.take k) d v t).length = n := yl4
    have key := fun u hu => brw_take hE (d := d) (v := v) (t := t) hlt u hu
    have tb : ∀ c : Int, t * c = c ∨ t * c = -c := fun c => by rcases ht with q | q <;> subst q <;> omega
    have same : (∀ u, u < n → (if u = v then (if (ge es k).1 = (ge es k).2.1 then (0 : Int) else if (ge es k).1 = v then (ge es k).2.2 else if (ge es k).2.1 = v then (ge es k).2.2 else 0) else - w1 (ge es k) u v) = 0) → brwF n (es.take k) d v t = brwF n (es.take (k + 1)) d v t ∧ ∀ j, j < n → gi d j - 50 * ((k + 1 : Nat) : Int) ≤ gi (brwF n (es.take k) d v t) j ∧ gi (brwF n (es.take k) d v t) j ≤ gi d j + 50 * ((k + 1 : Nat) : Int) := fun h0 => by
      refine ⟨yfe (by rw [yl4, yl4]) fun u hu => ?_, fun j hj => by have := hbd j hj; omega⟩
      rw [yl4] at hu
      rw [key u hu, h0 u hu]; omega
    refine ⟨(ge es k).1 ≠ (ge es k).2.1 ∧ ((ge es k).1 = (v : Int) ∨ (ge es k).2.1 = (v : Int)), fun ⟨hne, hor⟩ => ?_, fun he => Cnt.next (by omega) (by omega) (same fun u hu => ?_), fun hne => ⟨fun q => ⟨hne, .inl q⟩, fun q1 => ⟨fun q => ⟨hne, .inr q⟩, fun q2 => Cnt.next (by omega) (by omega) (same fun u hu => ?_)⟩⟩⟩
    · have b1 := hbd v hv
      have c1 := hb v hv
      obtain ⟨o, ho⟩ : ∃ o : Nat, (ge es k).1 + (ge es k).2.1 - (v : Int) = (o : Int) := ⟨((ge es k).1 + (ge es k).2.1 - (v : Int)).toNat, by omega⟩
      rw [ho]
      simp only [Int.toNat_natCast]
      have hon : o < n := by omega
      have hov : o ≠ v := by omega
      have b2 := hbd o hon
      have c2 := hb o hon
      have hm := tb (ge es k).2.2
      have e2 : gi ((brwF n (es.take k) d v t).set v (gi (brwF n (es.take k) d v t) v + t * (ge es k).2.2)) o = gi (brwF n (es.take k) d v t) o := by rw [ybV (by omega), if_neg hov]
      rw [e2]
      refine ⟨by omega, i64 (by omega), i64 (by omega), i64 (by omega), i64 (by omega), by rw [List.length_set]; omega, i64 (by omega), Cnt.next (by omega) (by omega) ⟨yfe (by rw [List.length_set, List.length_set, yl4, yl4]) fun u hu => ?_, fun j hj => ?_⟩⟩
      · rw [List.length_set, List.length_set, yl4] at hu
        rw [key u hu, ybV (by rw [List.length_set]; omega), ybV (by omega)]
        by_cases q : u = v
        · subst q
          rw [if_neg (fun q => hov q.symm), if_pos rfl, if_pos rfl, if_neg hne]
          rcases hor with q | q
          · rw [if_pos q]
          · by_cases q' : (ge es k).1 = (u : Int)
            · rw [if_pos q']
            · rw [if_neg q', if_pos q]
        · rw [if_neg q, if_neg q, w1_at hne hor, ho]
          by_cases q2 : u = o
          · subst q2; rw [if_pos rfl, if_pos rfl, Int.mul_neg]; omega
          · rw [if_neg q2, if_neg (by omega)]; simp
      · rw [ybV (by rw [List.length_set]; omega), ybV (by omega)]
        have := hbd j hj
        split
        · subst_vars; omega
        · split
          · subst_vars; omega
          · omega
    · unfold w1
      by_cases q : u = v
      · rw [if_pos q, if_pos he]
      · rw [if_neg q, if_neg (fun q => q.1 he)]; rfl
    · unfold w1
      by_cases q : u = v
      · rw [if_pos q, if_neg hne, if_neg q1, if_neg q2]
      · rw [if_neg q, if_neg (fun q => by omega)]; rfl
  · have hk2 : k = es.length := by omega
    rw [hk2, List.take_length]; exact h
structure GI (n : Nat) (es : List E3) (d left s : List Int) (i : Nat) : Prop where
  ll : left.length = n
  sl : s.length = n
  np : ∀ v, v < n → gi s v ≤ 0
  su : sm n (fun v => - gi s v) = i
  lf : ∀ v, v < n → gi left v = gi d v - Lp n es (gi s) v
  up : ∀ v, v < n → gi left v ≤ gi d v ∨ gi left v ≤ deg n es v - 1
  mi : ∀ σ : Nat → Int, (∀ v, v < n → σ v ≤ 0) → (∀ v, v < n → 0 ≤ gi d v - Lp n es σ v) → ∀ v, v < n → σ v ≤ gi s v
theorem ymY {n v : Nat} (hv : v < n) : gi (List.replicate n 0) v = 0 := by rw [yaY (by simpa using hv)]; simp
theorem GI.start {n : Nat} {es : List E3} {d : List Int} (hd : d.length = n) : GI n es d d (List.replicate n 0) 0 := by
  refine ⟨hd, by simp, fun v hv => by rw [ymY hv]; omega, ?_, fun v hv => ?_, fun v hv => .inl (Int.le_refl _), fun σ h _ v hv => by rw [ymY hv]; exact h v hv⟩
  · rw [yau (g := fun _ => 0) fun i hi => by rw [ymY hi]; rfl, ycf]; rfl
  · rw [yd5 (b := fun _ => 0) (fun i hi => ymY hi) hv, yeW]; omega
theorem Lp_less {n : Nat} {es : List E3} {s : List Int} (hs : s.length = n) {v : Nat} (hv : v < n) (t : Int) {u : Nat} (hu : u < n) : Lp n es (gi (s.set v (gi s v + t))) u = Lp n es (gi s) u + t * (if u = v then deg n es v else - W es u v) := by
  rw [← Lp_unit hv, ← ygS, ← yfM]
  refine yd5 (fun i hi => ?_) hu
  rw [ybV (by omega)]
  by_cases e : i = v
  · subst e; rw [if_pos rfl, if_pos rfl]; omega
  · rw [if_neg e, if_neg e]; omega
theorem GI.step {n : Nat} {es : List E3} (hE : EOk n es) {d left s : List Int} {i : Nat} (h : GI n es d left s i) {v : Nat} (hv : v < n) (hneg : gi left v < 0) : GI n es d (brwF n es left v 1) (s.set v (gi s v - 1)) (i + 1) := by
  have hsl := h.sl
  have gs : ∀ u, gi (s.set v (gi s v - 1)) u = if u = v then gi s v - 1 else gi s u := fun u => ybV (by omega)
  have lp := fun u hu => Lp_less (es := es) h.sl hv (-1) (u := u) hu
  have e1 : gi s v + -1 = gi s v - 1 := by omega
  rw [e1] at lp
  have gl : ∀ u, u < n → gi (brwF n es left v 1) u = gi left u + (if u = v then deg n es v else - W es u v) := fun u hu => by
    unfold brwF; rw [yf5 _ hu]; omega
  refine ⟨yl4, by simp [hsl], fun u hu => ?_, ?_, fun u hu => ?_, fun u hu => ?_, fun σ h0 hw u hu => ?_⟩
  · rw [gs]; have := h.np u hu; have := h.np v hv; split <;> omega
  · have e2 : sm n (fun u => - gi (s.set v (gi s v - 1)) u) = sm n (fun u => - gi s u + if u = v then 1 else 0) := yau fun u hu => by
      rw [gs]; split
      · subst_vars; omega
      · omega
    rw [e2, ycF, h.su, yeI 1 hv]; omega
  · rw [gl u hu, lp u hu, h.lf u hu]; omega
  · rw [gl u hu]
    by_cases e : u = v
    · subst e; rw [if_pos rfl]; right; omega
    · rw [if_neg e]
      have := ybq hE u v
      rcases h.up u hu with q | q
      · left; omega
      · right; omega
  · have h1 := h.mi σ h0 hw
    rw [gs]
    split
    · rename_i e
      subst e
      have h2 := h1 u hv
      apply Int.not_lt.1
      intro hlt
      have e3 : σ u = gi s u := by omega
      have h3 := hw u hv
      have h4 := h.lf u hv
      have h5 : Lp n es (gi s) u ≤ Lp n es σ u := by
        unfold Lp
        refine yer fun x hx => ?_
        exact Int.mul_le_mul_of_nonneg_left (by have := h1 x hx; omega) (ybq hE u x)
      omega
    · exact h1 u hu
theorem GI.win {n : Nat} {es : List E3} {d left s : List Int} {i : Nat} (h : GI n es d left s i) (h0 : ∀ v, v < n → 0 ≤ gi left v) : Win n es d := ⟨gi s, fun v hv => by rw [← h.lf v hv]; exact h0 v hv⟩
theorem GI.lose {n : Nat} {es : List E3} {d left s : List Int} {i : Nat} (h : GI n es d left s i) (hn : 1 ≤ n) (h0 : ∀ v, v < n → gi s v < 0) : ¬ Win n es d := fun ⟨σ, hσ⟩ => by
  obtain ⟨q, hq, hm⟩ := max_at σ n hn
  have e : ∀ v, Lp n es (fun u => σ u - σ q) v = Lp n es σ v := fun v => by
    unfold Lp
    exact yau fun u _ => by rw [show σ v - σ q - (σ u - σ q) = σ v - σ u by omega]
  have := h.mi (fun u => σ u - σ q) (fun v hv => by have := hm v hv; omega) (fun v hv => by rw [e]; exact hσ v hv) q hq
  have := h0 q hq
  omega
theorem GI.few {n : Nat} {es : List E3} (G : GOk n es) {d left s : List Int} {i : Nat} (h : GI n es d left s i) (hb : ∀ v, v < n → -9000 ≤ gi d v) {q : Nat} (hq : q < n) (h0 : gi s q = 0) : i ≤ 1000000 := by
  have hE := G.E
  have hn5 := G.n5
  have hdeg : ∀ v, v < n → deg n es v ≤ 18 := fun v hv => by
    have h1 := ygQ (f := fun v => deg n es v) (n := n) (fun i hi => ya6 fun u _ => ybq hE i u) v hv
    have h2 : sm n (fun v => deg n es v) ≤ 18 := G.tot
    have h1 : deg n es v ≤ sm n (fun v => deg n es v) := h1
    omega
  have hlp : ∀ v, v < n → Lp n es (fun u => - gi s u) v ≤ 9018 := fun v hv => by
    have e : Lp n es (fun u => - gi s u) v = -Lp n es (gi s) v := by
      have := ygS (n := n) (es := es) (-1) (gi s) v
      rw [show (fun u => - gi s u) = fun u => -1 * gi s u from funext fun u => by omega, this]; omega
    rw [e]
    have h1 := h.lf v hv
    have h2 := hdeg v hv
    have h3 := hb v hv
    rcases h.up v hv with h4 | h4 <;> omega
  have hcl := climb hE (G.C q hq) hq (f := fun u => - gi s u) (G := 45090) (by omega) fun S hS => by
    have h1 : sm n (fun v => if S v then Lp n es (fun u => - gi s u) v else 0) ≤ sm n (fun _ => 9018) := yer fun v hv => by
      have := hlp v hv
      show ite _ _ _ ≤ _
      split <;> omega
    rw [yeY] at h1
    have : (n : Int) * 9018 ≤ 5 * 9018 := Int.mul_le_mul_of_nonneg_right (by omega) (by omega)
    omega
  have h1 : ∀ v, v < n → - gi s v ≤ 180360 := fun v hv => by
    have h2 := hcl v hv
    have h3 := low_le (f := fun u => - gi s u) hv
    have h4 : low n (fun u => - gi s u) (- gi s v) * 45090 ≤ 4 * 45090 := Int.mul_le_mul_of_nonneg_right (by omega) (by omega)
    simp only [h0] at h2
    omega
  have h2 : sm n (fun v => - gi s v) ≤ sm n (fun _ => 180360) := yer h1
  rw [h.su, yeY] at h2
  have : (n : Int) * 180360 ≤ 5 * 180360 := Int.mul_le_mul_of_nonneg_right (by omega) (by omega)
  omega
theorem p_slices_Max_S {x : List Int} {R : Int → Prop} (hl : x.length ≤ 1000000000) (h0 : 0 < x.length) (h : ∀ m, (∃ k, k < x.length ∧ gi x k = m) → (∀ k, k < x.length → gi x k ≤ m) → R m) : ylP x R := by
  unfold ylP
  refine ⟨True, fun _ => ⟨by omega, ?_⟩, fun q => by omega, fun _ => trivial⟩
  refine ⟨fun c m i => Cnt x.length (fun k => 1 ≤ k ∧ (∃ j, j < k ∧ gi x j = m) ∧ ∀ j, j < k → gi x j ≤ m) c i, ⟨x.length - 1, 1, rfl, rfl, h0, by omega, ⟨0, by omega, rfl⟩, fun j hj => by rw [show j = 0 by omega]; exact Int.le_refl _⟩, ?_⟩
  rintro c m _ ⟨k, rfl, rfl, hk, h1, ⟨j0, hj0, rfl⟩, hm⟩
  simp only [Int.toNat_natCast]
  refine ⟨fun hlt => ⟨by omega, Cnt.next (by omega) (by omega) ⟨by omega, ?_, fun j hj => ?_⟩⟩, fun hge => ?_⟩
  · by_cases q : gi x j0 ≤ gi x k
    · exact ⟨k, by omega, by rw [yma]; omega⟩
    · exact ⟨j0, by omega, by rw [yma]; omega⟩
  · rw [yma]
    by_cases e : j = k
    · subst e; omega
    · have := hm j (by omega); omega
  · have : k = x.length := by omega
    subst this
    exact h _ ⟨j0, hj0, rfl⟩ hm
theorem p_picked0 {R : Int → Prop} (h : R 0) : ylY [0] R := by
  unfold ylY yl1
  refine ⟨fun q => by simp at q, fun _ => ⟨fun q => by simp at q, fun _ => ⟨True, fun _ => ⟨by simp, fun c m i => c = 0 ∧ m = 0 ∧ i = 1, ⟨0, rfl, rfl, rfl⟩, ?_⟩, fun q => by simp at q, fun _ => trivial⟩⟩⟩
  rintro c m i ⟨rfl, rfl, rfl⟩
  exact ⟨fun q => by simp at q, fun _ => ⟨fun q => absurd q (by omega), fun _ => h⟩⟩
theorem ymC {n : Nat} {es : List E3} {d : List Int} {R : Bool → List Int → Int → Prop} (G : GOk n es) (hd : d.length = n) (hb : ∀ v, v < n → -9000 ≤ gi d v ∧ gi d v ≤ 1000000) (h : ∀ b s, (b = true ↔ Win n es d) → R b s 0) : ylO (n : Int) es d [0] R := by
  have hg := G.g
  have hel := G.el
  have hn1 := G.n1
  have hn5 := G.n5
  have hE := G.E
  unfold ylO
  refine ymI (by omega) ⟨fun _ => p_picked0 ⟨fun _ => ?_, fun q => absurd rfl q⟩, fun q => absurd (G.giv hd fun v hv => by have := hb v hv; omega) q⟩
  refine ⟨fun v v2 => d = v ∧ v2 = List.replicate n 0, ?_, ycN (by omega) ⟨by omega, rfl, by simp⟩, by omega, ycN (by omega) ⟨rfl, by simp⟩⟩
  rintro _ _ ⟨rfl, rfl⟩
  refine ⟨fun m v3 left s => ∃ k : Nat, v3 = (k : Int) ∧ m = 1048577 - k ∧ k ≤ 1048576 ∧ GI n es d left s k, ⟨_, 0, rfl, rfl, by omega, GI.start hd⟩, ?_⟩
  rintro m _ left s ⟨k, rfl, rfl, hk, hG⟩
  have hll := hG.ll
  have hsl := hG.sl
  rw [hll]
  refine ⟨fun m v6 v7 => Cnt n (fun k => v6 = ymU ((List.range k).filter fun v => decide (gi left v < 0))) m v7, Cnt.start rfl, ?_⟩
  rintro m3 _ _ ⟨j, rfl, rfl, hj, rfl⟩
  simp only [Int.toNat_natCast]
  refine ⟨fun hlt => ⟨by omega, fun hneg => ⟨by have := filt_len (fun v => decide (gi left v < 0)) j; omega, Cnt.next (by omega) (by omega) (filt_yes (decide_eq_true hneg)).symm⟩, fun hnn => Cnt.next (by omega) (by omega) (filt_no (by simpa using hnn)).symm⟩, fun hge => ?_⟩
  have e : j = n := by omega
  subst e
  refine ⟨fun he => ?_, fun hne => ?_⟩
  · refine h true s ⟨fun _ => hG.win fun v hv => ?_, fun _ => rfl⟩
    apply Int.not_lt.1
    intro hlt
    have hm : (v : Int) ∈ ymU ((List.range j).filter fun v => decide (gi left v < 0)) := List.mem_map.2 ⟨v, List.mem_filter.2 ⟨List.mem_range.2 hv, decide_eq_true hlt⟩, rfl⟩
    have := List.length_pos_of_mem hm
    omega
  · refine p_slices_Max_S (by omega) (by omega) fun mx ⟨q, hq, hqe⟩ hmx => ⟨fun hneg => ?_, fun hnn => ?_⟩
    · exact h false s ⟨fun q => (by cases q), fun q => absurd q (hG.lose hn1 fun v hv => by have := hmx v (by omega); omega)⟩
    · have h0 : gi s q = 0 := by have := hG.np q (by omega); omega
      have hfew := hG.few G (fun v hv => (hb v hv).1) (q := q) (by omega) h0
      refine ⟨fun q => absurd q (by omega), fun _ => ?_⟩
      have hpos : 0 < (ymU ((List.range j).filter fun v => decide (gi left v < 0))).length := by omega
      obtain ⟨v, hvm, hve⟩ := List.mem_map.1 (gi_mem hpos)
      obtain ⟨hv, hneg⟩ := List.mem_filter.1 hvm
      rw [List.mem_range] at hv
      have hneg := of_decide_eq_true hneg
      have e1 : ((k : Int).tmod ((([0] : List Int).length : Nat) : Int)) = 0 := by simp
      rw [e1]
      have e2 : gi ([0] : List Int) (0 : Int).toNat = 0 := rfl
      rw [e2, Int.zero_tmod]
      have e3 : gi (ymU ((List.range j).filter fun v => decide (gi left v < 0))) (0 : Int).toNat = (v : Int) := hve.symm
      rw [e3]
      simp only [Int.toNat_natCast]
      have hsb : ∀ u, u < j → -1000001 ≤ gi s u ∧ gi s u ≤ 0 := fun u hu => by
        have h1 := ygQ (f := fun v => - gi s v) (n := j) (fun i hi => by have := hG.np i hi; omega) u hu
        have h2 := hG.su
        have h3 := hG.np u hu
        have h1 : - gi s u ≤ sm j (fun v => - gi s v) := h1
        omega
      have hlb : ∀ u, u < j → -1000000000000000 ≤ gi left u ∧ gi left u ≤ 1000000000000000 := fun u hu => by
        have h1 := Lp_bound (s := s) hg (fun i hi => by have := hsb i hi; omega) hu
        have h2 := hG.lf u hu
        have h3 := hb u hu
        omega
      have hsv := hsb v hv
      refine ⟨by simp, by simp, by omega, by omega, by omega, i64 (by omega), ynn (by omega) hg hll hv (.inl rfl) hlb ⟨i64 (by omega), _, ?_, k + 1, rfl, rfl, by omega, hG.step hE hv hneg⟩⟩
      omega
end Go.Proofs.YtncilechkclmbaaGreat
