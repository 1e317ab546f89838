/- Texts laid together: Srt, Lay, SrtD, PSa, SySp, SySq, SySr, SySs, PSl, Lr37, Lr37a, Lr37b, PTc, RkC. -/
import Derived.Shelf.SlSortCmp.NoneTotal
import Derived.Shelf.SlLaysF
import Derived.Test.YtncilechkclmbaaGreatChecked
import Derived.Test.YtncilechkclmbaaGreatK6
/- slices.SortFunc at slices of one's own: the kit's contract, said of what is owned. Elements of one cell. No program in sight. -/
namespace Go.Proofs.YtncilechkclmbaaGreat
open Go Go.RowKit Go.Shelf Go.Lib Go.Sort Go.Proofs.Tryz
set_option linter.unusedVariables false
set_option linter.unusedSimpArgs false
theorem pair_up {τ : Type} {p : Value → τ → Prop} : ∀ (cells : List Value) (xs : List τ), cells.length = xs.length → (∀ (k : Nat) x u, xs[k]? = some x → cells[k]? = some u → p u x) → ∃ ds : List {q : Value × τ // p q.1 q.2}, ds.map (·.1.1) = cells ∧ ds.map (·.1.2) = xs
  | [], [], _, _ => ⟨[], rfl, rfl⟩
  | [], _ :: _, h, _ => by simp at h
  | _ :: _, [], h, _ => by simp at h
  | u :: cells, x :: xs, h, hp => by
    obtain ⟨ds, h1, h2⟩ := pair_up (p := p) cells xs (by simpa using h) fun k y v hy hv => hp (k + 1) y v (by simpa using hy) (by simpa using hv)
    exact ⟨⟨(u, x), hp 0 x u rfl rfl⟩ :: ds, by rw [List.map_cons, h1], by rw [List.map_cons, h2]⟩
theorem yeE {α : Type} [Inhabited α] (enc : α → Value) (w : World) (blk off m : Nat) (d : Array α) (os : Array Obj) : Keeps (fun k => k = blk) w (sortWorld enc w blk off m d os) := by
  refine ⟨rfl, rfl, rfl, ?_, fun k hk hn => ?_⟩
  · show w.heap.size ≤ ((w.heap.modify blk (onCells (putCells enc off d))) ++ os).size
    simp
  · show ((w.heap.modify blk (onCells (putCells enc off d))) ++ os)[k]? = _
    rw [Array.getElem?_append_left (by simpa using hk), Array.getElem?_modify, if_neg (fun q => hn q.symm)]
theorem sortWorld_at {α : Type} [Inhabited α] (enc : α → Value) (w : World) (blk off m : Nat) (d : Array α) (os : Array Obj) {cur : Array Value} {e : TypeId} {fr : Nat × Nat} (h : w.heap[blk]? = some (.cells cur e fr)) : (sortWorld enc w blk off m d os).heap[blk]? = some (.cells (putCells enc off d cur) e fr) := by
  show ((w.heap.modify blk (onCells (putCells enc off d))) ++ os)[blk]? = _
  have hb := (Array.getElem?_eq_some_iff.1 h).1
  rw [Array.getElem?_append_left (by simpa using hb), Array.getElem?_modify, if_pos rfl, h]
  rfl
section
variable {P : Program} {ρ : Ren} {τ : Type} {c : Cod τ} {cf : τ → τ → Int} {g : Nat}
theorem srt_own (L : SlLaysF.n6 P ρ) (hc1 : c.sz = 1) (hO : SWO (ltOf cf)) (eg : Enters P g)
    {w : World} {S O : Nat → Prop} {e : TypeId} {A : Option Addr} {l cap : Nat} {xs : List τ} {R : List τ → Prop}
    (hcmp : ∀ W x y vx vy, x ∈ xs → y ∈ xs → c.R no W [vx] x → c.R no W [vy] y → Calls P g #[vx, vy] W fun e w' => e = .returned (.int .i64 (cf x y)) ∧ ∃ q os', w' = grow (W.drewN q) os')
    (hlen : xs.length ≤ 1000000000) (h : ∀ zs, zs.Perm xs → zs.Pairwise (fun a b => ¬ cf b a < 0) → R zs)
    (hS : Sep w S O w (rl [Res.own c e A l cap xs])) : Calls P (ρ.f 6) #[.slice A l cap, .func (.func g) #[] #[]] w fun e' w' => ∃ zs, e' = .returned (.tuple #[]) ∧ Sep w S O w' (rl [Res.own c e A l cap zs]) ∧ R zs := by
  obtain ⟨hl, cells, ho, hc⟩ := hS.own 0 rfl
  by_cases h0 : xs = []
  · subst h0
    simp at hl
    subst hl
    refine (AnyF.slices_SortFunc_none { L with } A cap _ w).mono ?_
    rintro _ w' ⟨rfl, rfl⟩
    exact ⟨[], rfl, hS, h [] (List.Perm.refl _) List.Pairwise.nil⟩
  · have hlp : 0 < xs.length := List.length_pos_iff.2 h0
    rcases ho.2 with ⟨_, q, _⟩ | ⟨gb, o, cur, rfl, hb, hg, hlc, hcm, hsz, hcur⟩
    · omega
    · have hcl : cells.length = xs.length := by rw [ho.1, hc1, hl]; omega
      obtain ⟨Φ, hΦ⟩ : ∃ Φ : Value → τ → Prop, ∀ u x, Φ u x ↔ (u.oneCell' = true ∧ c.R (Bl O (rl [Res.own c e (some ⟨gb, o, none⟩) l cap xs])) w [u] x ∧ x ∈ xs) := ⟨_, fun _ _ => Iff.rfl⟩
      obtain ⟨ds, hd1, hd2⟩ := pair_up (p := Φ) cells xs hcl fun k x u hx hu => by
        obtain ⟨vs, hR, hv⟩ := hc k x hx
        have hv1 := c.len hR
        rw [hc1] at hv1
        obtain ⟨v, rfl⟩ := List.length_eq_one_iff.1 hv1
        have := hv 0 v rfl
        rw [hc1, Nat.mul_one, Nat.add_zero, hu] at this
        cases this
        exact (hΦ _ _).2 ⟨c.one hR _ (by simp), hR, List.mem_of_getElem? hx⟩
      have hdl : ds.length = xs.length := by have q := congrArg List.length hd2; rwa [List.length_map] at q
      have : Inhabited {q : Value × τ // Φ q.1 q.2} := ⟨ds[0]'(by omega)⟩
      have hget : ∀ j (hj : j < ds.length) (hj2 : j < cells.length), (ds.toArray[j]!).1.1 = cells[j] := fun j hj hj2 => by
        rw [getElem!_pos _ _ (by simpa using hj)]
        simp only [← hd1, List.getElem_map, List.getElem_toArray]
      have hlt : gb < w.heap.size := (Array.getElem?_eq_some_iff.1 hg).1
      have hll : l = ds.toArray.size := by rw [hl]; simp [hdl]
      have hcm2 : ds.toArray.size < 4611686018427387904 := by rw [← hll, hl]; exact Nat.lt_of_le_of_lt hlen (by decide)
      have hmain := Any.slices_SortFunc L (fun q : {q : Value × τ // Φ q.1 q.2} => q.1.1) (fun q => ((hΦ _ _).1 q.2).1) (fun a b => cf a.1.2 b.1.2)
        ⟨fun a => hO.irrefl a.1.2, fun a b d => hO.trans a.1.2 b.1.2 d.1.2, fun a b d => hO.ntrans a.1.2 b.1.2 d.1.2⟩ g #[] gb o cap ds.toArray w eg
        (fun m os dk _ x y => by
          have hK := (yeE (fun q : {q : Value × τ // Φ q.1 q.2} => q.1.1) w gb o m dk os).mono (S' := Bl O (rl [Res.own c e (some ⟨gb, o, none⟩) l cap xs])) fun k _ hk => .inr ⟨0, by rw [hk]; rfl⟩
          have hx := c.sub (O' := no) (c.keep ((hΦ _ _).1 x.2).2.1 hK) fun _ _ h => h.elim
          have hy := c.sub (O' := no) (c.keep ((hΦ _ _).1 y.2).2.1 hK) fun _ _ h => h.elim
          rw [Array.append_empty]
          exact hcmp _ _ _ _ _ ((hΦ _ _).1 x.2).2.2 ((hΦ _ _).1 y.2).2.2 hx hy)
        (fun j hj => by
          have hj' : j < ds.length := by simpa using hj
          obtain ⟨g', o', e', _, h1, h2⟩ := ho.cellAt (i := j) (List.getElem?_eq_getElem (by rw [hcl, ← hdl]; exact hj'))
          cases e'
          exact ⟨by rw [h1]; congr 1; exact (hget j hj' _).symm, h2⟩) hlt hcm2
      rw [← hll] at hmain
      refine hmain.mono ?_
      rintro _ w' ⟨rfl, d', n, os, ⟨p1, p2, p3⟩, hs, rfl⟩
      have hd'l : d'.size = l := by rw [p1, hll]
      have hp : d'.toList.Perm ds := by
        have e1 : d'.extract 0 l = d' := by rw [← hd'l]; exact Array.extract_size
        have e2 : ds.toArray.extract 0 l = ds.toArray := by rw [hll]; exact Array.extract_size
        rwa [e1, e2] at p3
      refine ⟨d'.toList.map (·.1.2), rfl, ?_, h _ ((hp.map (fun q => q.1.2)).trans (List.Perm.of_eq hd2)) ?_⟩
      · have hK := yeE (fun q : {q : Value × τ // Φ q.1 q.2} => q.1.1) w gb o n d' os
        refine (hS.upd 0 (Res.own c e (some ⟨gb, o, none⟩) l cap (d'.toList.map (·.1.2))) hK (fun k _ hk => by rw [hk]; rfl) (fun k hk => .inl hk) ?_).sel [0] (by decide)
        refine ⟨by simp [hd'l], d'.toList.map (·.1.1), ⟨by simp [hd'l, hc1], .inr ⟨gb, o, _, rfl, Nat.zero_le _, sortWorld_at _ w gb o n d' os hg, hlc, hcm, by simpa [putCells] using hsz, ?_⟩⟩, fun k x hx => ?_⟩
        · rw [hc1, Nat.mul_one] at hsz ⊢
          apply List.ext_getElem?
          intro i
          rw [List.getElem?_take]
          by_cases hi : i < l
          · rw [if_pos hi, List.getElem?_drop, Array.getElem?_toList]
            have hic : o + i < cur.size := by omega
            rw [putCells, Array.getElem?_mapIdx, Array.getElem?_eq_getElem hic, Option.map_some, if_pos ⟨by omega, by omega⟩, show o + i - o = i by omega, List.getElem?_map, Array.getElem?_toList, Array.getElem?_eq_getElem (by omega), Option.map_some, getElem!_pos _ _ (by omega)]
          · rw [if_neg hi, List.getElem?_eq_none (by simp; omega)]
        · rw [List.getElem?_map, Array.getElem?_toList] at hx
          have hk : k < d'.size := by
            rcases Nat.lt_or_ge k d'.size with q | q
            · exact q
            · rw [Array.getElem?_eq_none q] at hx; cases hx
          rw [Array.getElem?_eq_getElem hk, Option.map_some] at hx
          cases hx
          refine ⟨[d'[k].1.1], ?_, fun j u hj => ?_⟩
          · have hK2 := hK.mono (S' := Bl O (rl [Res.own c e (some ⟨gb, o, none⟩) l cap xs])) fun k _ hk => .inr ⟨0, by rw [hk]; rfl⟩
            refine c.sub (c.keep ((hΦ _ _).1 d'[k].2).2.1 hK2) fun k _ hk => ?_
            rcases hk with q | ⟨i, q⟩
            · exact .inl q
            · by_cases hi : i = 0
              · subst hi; rw [yaT] at q; exact .inr ⟨0, q⟩
              · rw [yaG _ _ hi] at q; exact .inr ⟨i, q⟩
          · cases j with
            | zero =>
              simp at hj
              subst hj
              rw [hc1, Nat.mul_one, Nat.add_zero, List.getElem?_map, Array.getElem?_toList, Array.getElem?_eq_getElem hk, Option.map_some]
            | succ j => simp at hj
      · rw [List.pairwise_map, List.pairwise_iff_getElem]
        intro i j hi hj hij
        have hj' : j < d'.size := by simpa using hj
        have := hs i j (Nat.zero_le _) hij (by omega)
        rw [getElem!_pos d' j hj', getElem!_pos d' i (by omega)] at this
        simpa [ltOf] using this
end
end Go.Proofs.YtncilechkclmbaaGreat

/- slices.SortFunc lies in this program. -/
namespace Go.Proofs.YtncilechkclmbaaGreat
open Go Go.Shelf Go.Proofs.Tryz
def sortD_ren : Go.Shelf.Ren := ⟨fun | 6 => 121 | 15 => 180 | 14 => 179 | 28 => 226 | 29 => 227 | 20 => 218 | 21 => 219 | 22 => 220 | 23 => 221 | 24 => 222 | 25 => 223 | 26 => 224 | 27 => 225 | 46 => 245 | 47 => 246 | 48 => 247 | 49 => 248 | 50 => 249 | 57 => 258 | n => n, fun | 22 => 44 | 24 => 26 | 25 => 59 | 3 => 3 | 39 => 180 | 0 => 0 | 53 => 230 | 55 => 232 | 4 => 4 | 46 => 224 | 45 => 223 | 50 => 213 | 5 => 5 | 9 => 9 | 66 => 255 | 70 => 259 | 76 => 273 | 77 => 274 | n => n, fun | n => n⟩
theorem sortD : Go.Proofs.SlLaysF.n6 Tryz.prog sortD_ren := {
  mixed := by kernel_rfl
  f6 := ⟨Tryz.f121.name, by decide, func121.trans (congrArg some (by kernel_rfl))⟩
  f14 := ⟨Tryz.f179.name, by decide, func179.trans (congrArg some (by kernel_rfl))⟩
  f15 := func180.trans (congrArg some (by kernel_rfl))
  f20 := ⟨Tryz.f218.name, by decide, func218.trans (congrArg some (by kernel_rfl))⟩
  f21 := ⟨Tryz.f219.name, by decide, func219.trans (congrArg some (by kernel_rfl))⟩
  f22 := ⟨Tryz.f220.name, by decide, func220.trans (congrArg some (by kernel_rfl))⟩
  f23 := ⟨Tryz.f221.name, by decide, func221.trans (congrArg some (by kernel_rfl))⟩
  f24 := ⟨Tryz.f222.name, by decide, func222.trans (congrArg some (by kernel_rfl))⟩
  f25 := ⟨Tryz.f223.name, by decide, func223.trans (congrArg some (by kernel_rfl))⟩
  f26 := ⟨Tryz.f224.name, by decide, func224.trans (congrArg some (by kernel_rfl))⟩
  f27 := ⟨Tryz.f225.name, by decide, func225.trans (congrArg some (by kernel_rfl))⟩
  f28 := func226.trans (congrArg some (by kernel_rfl))
  f29 := func227.trans (congrArg some (by kernel_rfl))
  f46 := ⟨Tryz.f245.name, by decide, func245.trans (congrArg some (by kernel_rfl))⟩
  f47 := func246.trans (congrArg some (by kernel_rfl))
  f48 := func247.trans (congrArg some (by kernel_rfl))
  f49 := ⟨Tryz.f248.name, by decide, func248.trans (congrArg some (by kernel_rfl))⟩
  f50 := ⟨Tryz.f249.name, by decide, func249.trans (congrArg some (by kernel_rfl))⟩
  f57 := ⟨Tryz.f258.name, by decide, func258.trans (congrArg some (by kernel_rfl))⟩
  t0 := underlying0
  a0 := Tryz.isAgg0
  z0 := Tryz.sizeOf0
  v0 := Tryz.zeroValue0
  t3 := underlying3
  a3 := Tryz.isAgg3
  z3 := Tryz.sizeOf3
  v3 := Tryz.zeroValue3
  t4 := underlying4
  a4 := Tryz.isAgg4
  z4 := Tryz.sizeOf4
  v4 := Tryz.zeroValue4
  t5 := underlying5
  a5 := Tryz.isAgg5
  z5 := Tryz.sizeOf5
  v5 := Tryz.zeroValue5
  t9 := underlying9
  a9 := Tryz.isAgg9
  z9 := Tryz.sizeOf9
  v9 := Tryz.zeroValue9
  t22 := underlying44
  a22 := Tryz.isAgg44
  z22 := Tryz.sizeOf44
  v22 := Tryz.zeroValue44
  a24 := Tryz.isAgg26
  z24 := Tryz.sizeOf26
  t25 := underlying59
  a25 := Tryz.isAgg59
  z25 := Tryz.sizeOf59
  v25 := Tryz.zeroValue59
  t39 := underlying180
  a39 := Tryz.isAgg180
  z39 := Tryz.sizeOf180
  v39 := Tryz.zeroValue180
  t45 := underlying223
  a45 := Tryz.isAgg223
  z45 := Tryz.sizeOf223
  v45 := Tryz.zeroValue223
  t46 := underlying224
  a46 := Tryz.isAgg224
  z46 := Tryz.sizeOf224
  v46 := Tryz.zeroValue224
  t50 := underlying213
  a50 := Tryz.isAgg213
  z50 := Tryz.sizeOf213
  v50 := Tryz.zeroValue213
  t53 := underlying230
  a53 := Tryz.isAgg230
  z53 := Tryz.sizeOf230
  v53 := Tryz.zeroValue230
  t55 := underlying232
  a55 := Tryz.isAgg232
  z55 := Tryz.sizeOf232
  v55 := Tryz.zeroValue232
  t66 := underlying255
  a66 := Tryz.isAgg255
  z66 := Tryz.sizeOf255
  v66 := Tryz.zeroValue255
  t70 := underlying259
  a70 := Tryz.isAgg259
  z70 := Tryz.sizeOf259
  v70 := Tryz.zeroValue259
  t76 := underlying273
  a76 := Tryz.isAgg273
  z76 := Tryz.sizeOf273
  v76 := Tryz.zeroValue273
  t77 := underlying274
  a77 := Tryz.isAgg274
  z77 := Tryz.sizeOf274
  v77 := Tryz.zeroValue274 }
end Go.Proofs.YtncilechkclmbaaGreat

/- The sort of divisors: slices.SortFunc by slices.Compare. -/
namespace Go.Proofs.YtncilechkclmbaaGreat
open Go Go.RowKit Go.Shelf Go.Sort Go.Proofs.Tryz
set_option maxRecDepth 100000
set_option maxHeartbeats 400000
set_option linter.unusedVariables false
theorem order_any (W : World) (x y : List Int) (vx vy : Value) (lx : x.length ≤ 1000000000) (ly : y.length ≤ 1000000000) (hx : (cL cI).R no W [vx] x) (hy : (cL cI).R no W [vy] y) :
    Calls Tryz.prog 196 #[vx, vy] W fun e w' => e = .returned (.int .i64 (lexC x y)) ∧ W = w' := by
  obtain ⟨A, l, ca, e1, h1⟩ := hx
  obtain ⟨B, m, cb, e2, h2⟩ := hy
  cases e1
  cases e2
  obtain ⟨rfl, ha⟩ := sl_ints h1
  obtain ⟨rfl, hb⟩ := sl_ints h2
  go_enter func196, ntmps196
  go_wp2_with (first | (go_at_call 35; refine (compD_any A B x y ca cb _ ha hb lx ly).mono ?_; rintro e w' ⟨rfl, rfl⟩))
  go_ret
  exact ⟨rfl, rfl⟩
theorem swo_lex : SWO (ltOf lexC) := by
  refine ⟨fun a => ?_, fun a b d h1 h2 => ?_, fun a b d h1 h2 => ?_⟩
  · simp [ltOf, yd0]
  · simp only [ltOf, decide_eq_true_iff] at *
    exact yfO _ _ _ h1 h2
  · simp only [ltOf, decide_eq_false_iff_not] at *
    intro h
    have k1 : lexC b a ≤ 0 := by rw [yeV]; omega
    have k2 : lexC d b ≤ 0 := by rw [yeV]; omega
    have k3 := lexC_le_trans k2 k1
    rw [yeV] at k3
    omega
def yej (xs : List (List Int)) (R : List (List Int) → Prop) : Prop := xs.length ≤ 1000000000 ∧ (∀ x ∈ xs, x.length ≤ 1000000000) ∧ ∀ zs : List (List Int), zs.Perm xs → zs.Pairwise (fun a b => ¬ lexC b a < 0) → R zs
theorem yf0 {S O : Nat → Prop} {w : World} {xs : List (List Int)} {A : Option Addr} {l c : Nat} {t : TypeId} {R : List (List Int) → Prop} (h : yej xs R) (hS : Sep w S O w (rl [Res.own (cL cI) t A l c xs])) :
    Calls Tryz.prog 121 #[.slice A l c, .func (.func 196) #[] #[]] w fun e w' => ∃ z : List (List Int), e = .returned (.tuple #[]) ∧ Sep w S O w' (rl [Res.own (cL cI) t A l c z]) ∧ R z :=
  (srt_own sortD (c := cL cI) rfl swo_lex enter_196 (fun W x y vx vy mx my hx hy => (order_any W x y vx vy (h.2.1 x mx) (h.2.1 y my) hx hy).mono fun e w' ⟨h1, h2⟩ => ⟨h1, 0, #[], by rw [← h2]; simp [grow, World.drewN]⟩) h.1 h.2.2 hS).mono fun e w' ⟨z, h1, h2, h3⟩ => ⟨z, h1, h2, h3⟩
end Go.Proofs.YtncilechkclmbaaGreat

/- Pure forms of functions, made by program (pf.py), each with the proof that the code does so. -/
namespace Go.Proofs.YtncilechkclmbaaGreat
open Go Go.RowKit Go.Shelf Go.Proofs.Tryz
set_option linter.unusedVariables false
set_option maxRecDepth 100000
set_option maxHeartbeats 1000000
def ycc (g : Int) (g2 : List E3) (l : List (List Int)) (R : Int → Prop) : Prop :=
yco g g2 (fun r r2 =>
((r2 = 0 →
((r = true →
(∃ I2 : Nat → Int → Prop, (∃ m0, I2 m0 0) ∧ ∀ m2 v, I2 m2 v → 
((v < ((l.length : Nat) : Int) →
((0 ≤ v ∧ v < ((l.length : Nat) : Int)) ∧
ybZ (gx l v.toNat) g (fun r3 =>
((r3 = 0 →
(In64 (v + 1) ∧
∃ m3, m3 < m2 ∧ I2 m3 (v + 1))) ∧
(¬ (r3 = 0) →
R r3))))) ∧
(¬ (v < ((l.length : Nat) : Int)) →
R 0)))) ∧
(¬ (r = true) →
R 13))) ∧
(¬ (r2 = 0) →
R r2)))
theorem yel {O : Nat → Prop} {w : World} {g g2 l Ag lg cg Al ll cl} {R : Int → Prop} (h : ycc g g2 l R) (hO : ∀ k, O k → k < w.heap.size) (hA0 : (FP.sl c3 Ag lg cg g2).P O w) (hA1 : (FP.sl (cL cI) Al ll cl l).P O w) :
    Calls Tryz.prog 80 #[(.agg #[(ii g), (.slice Ag lg cg)]), (.slice Al ll cl)] w fun e w' => ∃ r4, e = .returned (ii r4) ∧ Sep w no O w' (rl []) ∧ R r4 := by
  unfold ycc at h; have hS : Sep w no O w (rl [Res.ro (FP.sl c3 Ag lg cg g2), Res.ro (FP.sl (cL cI) Al ll cl l)]) := Sep.startl hO [(FP.sl c3 Ag lg cg g2), (FP.sl (cL cI) Al ll cl l)] ⟨hA0, hA1, trivial⟩; refine yan (l := [(.agg #[(ii g), (.slice Ag lg cg)]), (.slice Al ll cl)]) func80 rfl ntmps80 (Nat.le_of_ble_eq_true rfl) (zs (zn (yb6 (v := (.agg #[(ii g), (.slice Ag lg cg)])) rfl ?_))); intro g3 w2 hN; replace hS : Sep w no O w2 (stl _ 2 (Res.box 24 g3 [(ii g), (.slice Ag lg cg)])) := hS.new 2 rfl hN; clear hN; refine zb (zq (za (ii 0)) (yaa (zs (zq (yav (vs := [(ii g), (.slice Ag lg cg)]) rfl underlying24 rfl yas ⟨Row.cell (hS.bx 2 rfl) (i := 0) rfl, Row.cell (hS.bx 2 rfl) (i := 1) rfl, trivial⟩) (zn (yal rfl (am1 rfl) yiW ((yc5 h (yaN _) (hS.rdr 0 rfl)).mono ?_))))))); rintro _ w3 ⟨r, r2, rfl, hC, h⟩; replace hS := hS.pur hC.pure; clear hC; refine ⟨_, rfl, ?_⟩; refine zb (zq (zm (.tuple #[(.bool (r)), (ii r2)])) (zq (zx (.bool (r))) (zq (zx (ii r2)) (zq (za (.bool (r))) (zq (za (ii r2)) (yaa (yaf (yak (zs (zq (zm (ii r2)) (zq zN (zq (za (.bool (!(decide (r2 = 0))))) (yaa ?_))))))))))))); by_cases hp : r2 = 0
  · replace h := h.1 hp; refine ze hp (zs (zq (zm (.bool (r))) (zq (ydn rfl) (zq (za (.bool (!(r)))) (yaa ?_))))); by_cases hp2 : r = true
    · replace h := h.1 hp2; refine yax (congrArg Value.bool (congrArg Bool.not hp2)) (yag (yai (yaf (zs (zq (zm (.slice Al ll cl)) (zq (ybc (n := l.length) rfl underlying44 (ya2 (hS.rdr 1 rfl))) (zq (zm (ii 0)) (yaa (yak ?_))))))))); obtain ⟨I2, ⟨m0, h0⟩, hr⟩ := h; refine yaO (fun m E ds w' => ∃ v, I2 m v ∧ ds = [] ∧ E 2 = (Value.pointer (some (⟨g3, 0, none⟩ : Addr))) ∧ E 22 = (Value.slice Al ll cl) ∧ E 23 = (ii ((l.length : Nat) : Int)) ∧ E 24 = (ii v) ∧ Sep w no O w' (rl [Res.box 24 g3 [(ii g), (.slice Ag lg cg)], Res.ro (FP.sl c3 Ag lg cg g2), Res.ro (FP.sl (cL cI) Al ll cl l)])) m0 ⟨_, h0, rfl, rfl, rfl, rfl, rfl, (hS.sel [2, 0, 1] (by decide))⟩ ?_; clear h0 hS; rintro m2 E ds w4 ⟨v, h, rfl, hE2, hE22, hE23, hE24, hS⟩ again; replace h := hr m2 v h; clear hr; refine zs (zq (yd4 hE24 hE23) (yaa (yaf ?_))); by_cases hp3 : v < ((l.length : Nat) : Int)
      · replace h := h.1 hp3; refine zc hp3 (yag (yaf (yak (zs ?_)))); obtain ⟨hx, h⟩ := h; refine zq (yeK hE22 hE24 underlying44 ya0 (ybh (hS.rdr 2 rfl) hx)) ?_; obtain ⟨A, l2, c, hc, hq⟩ := hS.el 2 rfl hx 3 4 rfl rfl (by decide); replace hS := hq; clear hq; refine zq (yaA (v := (.slice A l2 c)) rfl underlying26 rfl (hS.clr 4 rfl)) (zq (za (.slice A l2 c)) (yaa (zs (zq (zm (.slice A l2 c)) (zq (yam hE2 underlying24 rfl yaj) (zq (zl underlying3 (Row.cell (hS.bx 0 rfl) (i := 0) rfl)) (zn (yal rfl (am2 rfl rfl) yfB ((yeP h (yaN _) (hS.rdr 3 rfl)).mono ?_))))))))); rintro _ w5 ⟨r3, rfl, hC, h⟩; replace hS := hS.pur hC.pure; clear hC; refine ⟨_, rfl, ?_⟩; refine zb (zq (za (ii r3)) (yaa (zs (zq (zm (ii r3)) (zq zN (yaa ?_)))))); by_cases hp4 : r3 = 0
        · replace h := h.1 hp4; refine ze hp4 (yag (yai (zr ?_))); obtain ⟨hi, h⟩ := h; refine zq (ycv hE24 rfl hi) (zq (zm (ii (v + 1))) (yaa ?_)); obtain ⟨mq, hlt, h⟩ := h; exact again mq _ _ _ ⟨_, h, rfl, hE2, hE22, hE23, rfl, (hS.sel [0, 1, 2] (by decide))⟩ hlt
        · replace h := h.2 hp4; exact zf hp4 (zs (zq (zm (ii r3)) (zq (za (ii r3)) (yaa (yah rfl rfl ⟨_, rfl, (hS.sel [] (by decide)), h⟩)))))
      · replace h := h.2 hp3; exact zd hp3 (yaH rfl (zs (zq (za (ii 0)) (yaa (yah rfl rfl ⟨_, rfl, (hS.sel [] (by decide)), h⟩)))))
    · replace h := h.2 hp2; exact yaq (congrArg Value.bool (congrArg Bool.not (Bool.eq_false_iff.2 hp2))) (zs (zq (za (ii 13)) (yaa (yah rfl rfl ⟨_, rfl, (hS.sel [] (by decide)), h⟩))))
  · replace h := h.2 hp; exact zf hp (zs (zq (zm (ii r2)) (zq (za (ii r2)) (yaa (yah rfl rfl ⟨_, rfl, (hS.sel [] (by decide)), h⟩)))))
def yaV (d : List Int) (R : Bool → Prop) : Prop :=
ybb d (fun r =>
R (decide (0 ≤ r)))
theorem ycp {O : Nat → Prop} {w : World} {d Ad ld cd} {R : Bool → Prop} (h : yaV d R) (hO : ∀ k, O k → k < w.heap.size) (hA0 : (FP.sl cI Ad ld cd d).P O w) :
    Calls Tryz.prog 82 #[(.slice Ad ld cd)] w fun e w' => ∃ r2, e = .returned (.bool (r2)) ∧ Sep w no O w' (rl []) ∧ R r2 := by
  unfold yaV at h; have hS : Sep w no O w (rl [Res.ro (FP.sl cI Ad ld cd d)]) := Sep.startl hO [(FP.sl cI Ad ld cd d)] ⟨hA0, trivial⟩; refine yan (l := [(.slice Ad ld cd)]) func82 rfl ntmps82 (Nat.le_of_ble_eq_true rfl) (zs (zq (za (.bool (false))) (yaa (zs (zq (zm (.slice Ad ld cd)) (zn (yal rfl (am1 rfl) enter_141 ((yen h (yaN _) (hS.rdr 0 rfl)).mono ?_)))))))); rintro _ w2 ⟨r, rfl, hC, h⟩; replace hS := hS.pur hC.pure; clear hC; refine ⟨_, rfl, ?_⟩; exact zb (zq (yiO rfl rfl) (zq (za (.bool (decide (0 ≤ r)))) (yaa (yah rfl rfl ⟨_, rfl, (hS.sel [] (by decide)), h⟩))))
def ybM (d : Int) (d2 : List E3) (i : List Int) (a : Int) (R : (List Int) → Bool → Prop) : Prop :=
yaM i (fun r =>
(∃ I2 : Nat → Int → (List Int) → Prop, (∃ m0, I2 m0 0 r) ∧ ∀ m2 v v2, I2 m2 v v2 → 
((v < ((d2.length : Nat) : Int) →
((0 ≤ v ∧ v < ((d2.length : Nat) : Int)) ∧
((0 ≤ ((ge d2 v.toNat).1) ∧ ((ge d2 v.toNat).1) < 64) ∧
((0 ≤ (a / 2 ^ ((ge d2 v.toNat).1).toNat) ∧ (a / 2 ^ ((ge d2 v.toNat).1).toNat) < 9223372036854775808 ∧ 0 ≤ (1 : Int) ∧ (1 : Int) < 9223372036854775808) ∧
((0 ≤ ((ge d2 v.toNat).2.1) ∧ ((ge d2 v.toNat).2.1) < 64) ∧
((0 ≤ (a / 2 ^ ((ge d2 v.toNat).2.1).toNat) ∧ (a / 2 ^ ((ge d2 v.toNat).2.1).toNat) < 9223372036854775808 ∧ 0 ≤ (1 : Int) ∧ (1 : Int) < 9223372036854775808) ∧
(((((a / 2 ^ ((ge d2 v.toNat).2.1).toNat).toNat &&& (1 : Int).toNat : Nat) : Int) < (((a / 2 ^ ((ge d2 v.toNat).1).toNat).toNat &&& (1 : Int).toNat : Nat) : Int) →
((0 ≤ ((ge d2 v.toNat).1) ∧ ((ge d2 v.toNat).1) < ((v2.length : Nat) : Int)) ∧
(In64 ((gi v2 ((ge d2 v.toNat).1).toNat) - ((ge d2 v.toNat).2.2)) ∧
((0 ≤ ((ge d2 v.toNat).2.1) ∧ ((ge d2 v.toNat).2.1) < (((v2.set ((ge d2 v.toNat).1).toNat ((gi v2 ((ge d2 v.toNat).1).toNat) - ((ge d2 v.toNat).2.2))).length : Nat) : Int)) ∧
(In64 ((gi (v2.set ((ge d2 v.toNat).1).toNat ((gi v2 ((ge d2 v.toNat).1).toNat) - ((ge d2 v.toNat).2.2))) ((ge d2 v.toNat).2.1).toNat) + ((ge d2 v.toNat).2.2)) ∧
(In64 (v + 1) ∧
∃ m3, m3 < m2 ∧ I2 m3 (v + 1) ((v2.set ((ge d2 v.toNat).1).toNat ((gi v2 ((ge d2 v.toNat).1).toNat) - ((ge d2 v.toNat).2.2))).set ((ge d2 v.toNat).2.1).toNat ((gi (v2.set ((ge d2 v.toNat).1).toNat ((gi v2 ((ge d2 v.toNat).1).toNat) - ((ge d2 v.toNat).2.2))) ((ge d2 v.toNat).2.1).toNat) + ((ge d2 v.toNat).2.2))))))))) ∧
(¬ ((((a / 2 ^ ((ge d2 v.toNat).2.1).toNat).toNat &&& (1 : Int).toNat : Nat) : Int) < (((a / 2 ^ ((ge d2 v.toNat).1).toNat).toNat &&& (1 : Int).toNat : Nat) : Int)) →
(((((a / 2 ^ ((ge d2 v.toNat).1).toNat).toNat &&& (1 : Int).toNat : Nat) : Int) < (((a / 2 ^ ((ge d2 v.toNat).2.1).toNat).toNat &&& (1 : Int).toNat : Nat) : Int) →
((0 ≤ ((ge d2 v.toNat).2.1) ∧ ((ge d2 v.toNat).2.1) < ((v2.length : Nat) : Int)) ∧
(In64 ((gi v2 ((ge d2 v.toNat).2.1).toNat) - ((ge d2 v.toNat).2.2)) ∧
((0 ≤ ((ge d2 v.toNat).1) ∧ ((ge d2 v.toNat).1) < (((v2.set ((ge d2 v.toNat).2.1).toNat ((gi v2 ((ge d2 v.toNat).2.1).toNat) - ((ge d2 v.toNat).2.2))).length : Nat) : Int)) ∧
(In64 ((gi (v2.set ((ge d2 v.toNat).2.1).toNat ((gi v2 ((ge d2 v.toNat).2.1).toNat) - ((ge d2 v.toNat).2.2))) ((ge d2 v.toNat).1).toNat) + ((ge d2 v.toNat).2.2)) ∧
(In64 (v + 1) ∧
∃ m4, m4 < m2 ∧ I2 m4 (v + 1) ((v2.set ((ge d2 v.toNat).2.1).toNat ((gi v2 ((ge d2 v.toNat).2.1).toNat) - ((ge d2 v.toNat).2.2))).set ((ge d2 v.toNat).1).toNat ((gi (v2.set ((ge d2 v.toNat).2.1).toNat ((gi v2 ((ge d2 v.toNat).2.1).toNat) - ((ge d2 v.toNat).2.2))) ((ge d2 v.toNat).1).toNat) + ((ge d2 v.toNat).2.2))))))))) ∧
(¬ ((((a / 2 ^ ((ge d2 v.toNat).1).toNat).toNat &&& (1 : Int).toNat : Nat) : Int) < (((a / 2 ^ ((ge d2 v.toNat).2.1).toNat).toNat &&& (1 : Int).toNat : Nat) : Int)) →
(In64 (v + 1) ∧
∃ m5, m5 < m2 ∧ I2 m5 (v + 1) v2))))))))))) ∧
(¬ (v < ((d2.length : Nat) : Int)) →
yaV v2 (fun r2 =>
R v2 r2)))))
theorem yei {O : Nat → Prop} {w : World} {d d2 i a Ad ld cd Ai li ci} {R : (List Int) → Bool → Prop} (h : ybM d d2 i a R) (hO : ∀ k, O k → k < w.heap.size) (hA0 : (FP.sl c3 Ad ld cd d2).P O w) (hA1 : (FP.sl cI Ai li ci i).P O w) :
    Calls Tryz.prog 195 #[(.agg #[(ii d), (.slice Ad ld cd)]), (.slice Ai li ci), (ii a)] w fun e w' => ∃ r3 r4 Ar2 lr2 cr2, e = .returned (.tuple #[(.slice Ar2 lr2 cr2), (.bool (r4))]) ∧ Sep w no O w' (rl [Res.own cI 3 Ar2 lr2 cr2 r3]) ∧ R r3 r4 := by
  unfold ybM at h; have hS : Sep w no O w (rl [Res.ro (FP.sl c3 Ad ld cd d2), Res.ro (FP.sl cI Ai li ci i)]) := Sep.startl hO [(FP.sl c3 Ad ld cd d2), (FP.sl cI Ai li ci i)] ⟨hA0, hA1, trivial⟩; refine yan (l := [(.agg #[(ii d), (.slice Ad ld cd)]), (.slice Ai li ci), (ii a)]) func195 rfl ntmps195 (Nat.le_of_ble_eq_true rfl) (zs (zn (yb6 (v := (.agg #[(ii d), (.slice Ad ld cd)])) rfl ?_))); intro g w2 hN; replace hS : Sep w no O w2 (stl _ 2 (Res.box 24 g [(ii d), (.slice Ad ld cd)])) := hS.new 2 rfl hN; clear hN; refine zb (zq (za (.slice none 0 0)) (zq (za (.bool (false))) (yaa (zs (zq (zm (.slice Ai li ci)) (zn (yal rfl (am1 rfl) enter_17 ((ycB h (yaN _) (hS.rdr 1 rfl)).mono ?_)))))))); rintro _ w3 ⟨r, Ar, lr, cr, rfl, hC, h⟩; replace hS := hS.call1 (hC.widen (yea (ybl (fI .i64) _ _ _ _ _) ye0) hS.blt) 3 0 rfl; clear hC; refine ⟨_, rfl, ?_⟩; refine zb (zq (za (.slice Ar lr cr)) (yaa (yaf (zs (zq (yam rfl underlying24 rfl ydy) (zq (zl underlying22 (Row.cell (hS.bx 2 rfl) (i := 1) rfl)) (zq (ybc (n := d2.length) rfl underlying22 (ya2 (hS.rdr 0 rfl))) (zq (zm (ii 0)) (yaa (yak ?_)))))))))); obtain ⟨I2, ⟨m0, h0⟩, hr⟩ := h; refine yaO (fun m E ds w' => ∃ v v2 Av lv cv, I2 m v v2 ∧ ds = [] ∧ E 2 = (ii a) ∧ E 8 = (Value.slice Av lv cv) ∧ E 16 = (Value.slice Ad ld cd) ∧ E 17 = (ii ((d2.length : Nat) : Int)) ∧ E 18 = (ii v) ∧ Sep w no O w' (rl [Res.own cI 3 Av lv cv v2, Res.ro (FP.sl c3 Ad ld cd d2)])) m0 ⟨_, _, _, _, _, h0, rfl, rfl, rfl, rfl, rfl, rfl, (hS.sel [3, 0] (by decide))⟩ ?_; clear h0 hS; rintro m2 E ds w4 ⟨v, v2, Av, lv, cv, h, rfl, hE2, hE8, hE16, hE17, hE18, hS⟩ again; replace h := hr m2 v v2 h; clear hr; refine zs (zq (yd4 hE18 hE17) (yaa (yaf ?_))); by_cases hp : v < ((d2.length : Nat) : Int)
  · replace h := h.1 hp; refine zc hp (yag (yaf (yak (zs ?_)))); obtain ⟨hx, h⟩ := h; refine zq (yeK hE16 hE18 underlying22 ybf (ybh (hS.rdr 1 rfl) hx)) (zq (yav (vs := [(ii ((ge d2 v.toNat).1)), (ii ((ge d2 v.toNat).2.1)), (ii ((ge d2 v.toNat).2.2))]) rfl underlying95 rfl ybf (rd_fs (hS.rdr 1 rfl) hx (fun q => yd6 q))) ?_); refine zn (ybJ ybf ?_); intro g2 w5 hN; replace hS : Sep w no O w5 (stl _ 2 (Res.box 95 g2 [(ii 0), (ii 0), (ii 0)])) := hS.new 2 rfl hN; clear hN; refine zb (zo (yeb (b := g2) (o := 0) (cells := #[(ii ((ge d2 v.toNat).1)), (ii ((ge d2 v.toNat).2.1)), (ii ((ge d2 v.toNat).2.2))]) rfl rfl ybf rfl rfl (yc7 (hS.bx 2 rfl) (Nat.le_of_ble_eq_true rfl)) ?_)); intro w6 e1; replace hS := hS.bstn 2 rfl 0 [(ii ((ge d2 v.toNat).1)), (ii ((ge d2 v.toNat).2.1)), (ii ((ge d2 v.toNat).2.2))] e1; clear e1; refine zb (yaa (yaf (ybt [0, 1, 2, 3, 4, 5, 6, 7, 8, 9, 10, 11] st0 yaQ (by kernel_rfl) (by kernel_rfl) ?_))); replace hS := hS.drew; refine zp (yae hE2) (zp (yam rfl underlying95 rfl yaj) (zp (zl underlying3 (Row.cell (hS.bx 2 rfl) (i := 0) rfl)) ?_)); obtain ⟨hz, h⟩ := h; refine zp (v_shr rfl rfl hz) ?_; obtain ⟨hz2, h⟩ := h; refine zp (v_andb rfl rfl hz2) (zp (yae hE2) (zp (yam rfl underlying95 rfl yaj) (zp (zl underlying3 (Row.cell (hS.bx 2 rfl) (i := 1) rfl)) ?_))); obtain ⟨hz3, h⟩ := h; refine zp (v_shr rfl rfl hz3) ?_; obtain ⟨hz4, h⟩ := h; refine zp (v_andb rfl rfl hz4) (zp (za (ii (((a / 2 ^ ((ge d2 v.toNat).1).toNat).toNat &&& (1 : Int).toNat : Nat) : Int))) (zp (za (ii (((a / 2 ^ ((ge d2 v.toNat).2.1).toNat).toNat &&& (1 : Int).toNat : Nat) : Int))) (yb4 (yak (zs (zq (zm (ii (((a / 2 ^ ((ge d2 v.toNat).1).toNat).toNat &&& (1 : Int).toNat : Nat) : Int))) (zq (zm (ii (((a / 2 ^ ((ge d2 v.toNat).2.1).toNat).toNat &&& (1 : Int).toNat : Nat) : Int))) (zq zG (zq (za (.bool (decide ((((a / 2 ^ ((ge d2 v.toNat).2.1).toNat).toNat &&& (1 : Int).toNat : Nat) : Int) < (((a / 2 ^ ((ge d2 v.toNat).1).toNat).toNat &&& (1 : Int).toNat : Nat) : Int))))) (yaa ?_)))))))))); by_cases hp2 : (((a / 2 ^ ((ge d2 v.toNat).2.1).toNat).toNat &&& (1 : Int).toNat : Nat) : Int) < (((a / 2 ^ ((ge d2 v.toNat).1).toNat).toNat &&& (1 : Int).toNat : Nat) : Int)
    · replace h := h.1 hp2; refine zc hp2 (yaf (ybt [0, 1, 2, 3, 4, 5, 6, 7, 8, 9] st0 yaQ (by kernel_rfl) (by kernel_rfl) ?_)); replace hS := hS.drew; refine zp (yae hE8) (zp (yam rfl underlying95 rfl yaj) (zp (zl underlying3 (Row.cell (hS.bx 2 rfl) (i := 0) rfl)) ?_)); obtain ⟨hx2, h⟩ := h; refine zp (zi underlying26 yaj (ybh (hS.rdo 0 rfl) hx2)) (zp (yaA (v := (ii (gi v2 ((ge d2 v.toNat).1).toNat))) rfl underlying3 rfl (rd_1 (hS.rdo 0 rfl) hx2 (fun q => ybs q) rfl)) ?_); refine zp (yam rfl underlying95 rfl yaj) (zp (zl underlying3 (Row.cell (hS.bx 2 rfl) (i := 2) rfl)) ?_); obtain ⟨hi, h⟩ := h; refine zp (zS hi) (zp (zi underlying26 yaj (ybh (hS.rdo 0 rfl) hx2)) (yhC rfl rfl rfl (zt (ii ((gi v2 ((ge d2 v.toNat).1).toNat) - ((ge d2 v.toNat).2.2))) yaj (hS.wr 0 rfl rfl hx2) ?_))); intro w7 e1; replace hS := hS.st 0 rfl rfl hx2 (x := (gi v2 ((ge d2 v.toNat).1).toNat) - ((ge d2 v.toNat).2.2)) rfl e1; clear e1; refine zb (yb4 (ybt [0, 1, 2, 3, 4, 5, 6, 7, 8, 9] st0 yaQ (by kernel_rfl) (by kernel_rfl) ?_)); replace hS := hS.drew; refine zp (yae hE8) (zp (yam rfl underlying95 rfl yaj) (zp (zl underlying3 (Row.cell (hS.bx 2 rfl) (i := 1) rfl)) ?_)); obtain ⟨hx3, h⟩ := h; refine zp (zi underlying26 yaj (ybh (hS.rdo 0 rfl) hx3)) (zp (yaA (v := (ii (gi (v2.set ((ge d2 v.toNat).1).toNat ((gi v2 ((ge d2 v.toNat).1).toNat) - ((ge d2 v.toNat).2.2))) ((ge d2 v.toNat).2.1).toNat))) rfl underlying3 rfl (rd_1 (hS.rdo 0 rfl) hx3 (fun q => ybs q) rfl)) ?_); refine zp (yam rfl underlying95 rfl yaj) (zp (zl underlying3 (Row.cell (hS.bx 2 rfl) (i := 2) rfl)) ?_); obtain ⟨hi2, h⟩ := h; refine zp (zA hi2) (zp (zi underlying26 yaj (ybh (hS.rdo 0 rfl) hx3)) (yhC rfl rfl rfl (zt (ii ((gi (v2.set ((ge d2 v.toNat).1).toNat ((gi v2 ((ge d2 v.toNat).1).toNat) - ((ge d2 v.toNat).2.2))) ((ge d2 v.toNat).2.1).toNat) + ((ge d2 v.toNat).2.2))) yaj (hS.wr 0 rfl rfl hx3) ?_))); intro w8 e1; replace hS := hS.st 0 rfl rfl hx3 (x := (gi (v2.set ((ge d2 v.toNat).1).toNat ((gi v2 ((ge d2 v.toNat).1).toNat) - ((ge d2 v.toNat).2.2))) ((ge d2 v.toNat).2.1).toNat) + ((ge d2 v.toNat).2.2)) rfl e1; clear e1; refine zb (yb4 (yai (yai (zr ?_)))); obtain ⟨hi3, h⟩ := h; refine zq (ycv hE18 rfl hi3) (zq (zm (ii (v + 1))) (yaa ?_)); obtain ⟨mq, hlt, h⟩ := h; exact again mq _ _ _ ⟨_, _, _, _, _, h, rfl, hE2, hE8, hE16, hE17, rfl, (hS.sel [0, 1] (by decide))⟩ hlt
    · replace h := h.2 hp2; refine zd hp2 (zs (zq (zm (ii (((a / 2 ^ ((ge d2 v.toNat).2.1).toNat).toNat &&& (1 : Int).toNat : Nat) : Int))) (zq (zm (ii (((a / 2 ^ ((ge d2 v.toNat).1).toNat).toNat &&& (1 : Int).toNat : Nat) : Int))) (zq zG (zq (za (.bool (decide ((((a / 2 ^ ((ge d2 v.toNat).1).toNat).toNat &&& (1 : Int).toNat : Nat) : Int) < (((a / 2 ^ ((ge d2 v.toNat).2.1).toNat).toNat &&& (1 : Int).toNat : Nat) : Int))))) (yaa ?_)))))); by_cases hp3 : (((a / 2 ^ ((ge d2 v.toNat).1).toNat).toNat &&& (1 : Int).toNat : Nat) : Int) < (((a / 2 ^ ((ge d2 v.toNat).2.1).toNat).toNat &&& (1 : Int).toNat : Nat) : Int)
      · replace h := h.1 hp3; refine zc hp3 (yaf (ybt [0, 1, 2, 3, 4, 5, 6, 7, 8, 9] st0 yaQ (by kernel_rfl) (by kernel_rfl) ?_)); replace hS := hS.drew; refine zp (yae hE8) (zp (yam rfl underlying95 rfl yaj) (zp (zl underlying3 (Row.cell (hS.bx 2 rfl) (i := 1) rfl)) ?_)); obtain ⟨hx4, h⟩ := h; refine zp (zi underlying26 yaj (ybh (hS.rdo 0 rfl) hx4)) (zp (yaA (v := (ii (gi v2 ((ge d2 v.toNat).2.1).toNat))) rfl underlying3 rfl (rd_1 (hS.rdo 0 rfl) hx4 (fun q => ybs q) rfl)) ?_); refine zp (yam rfl underlying95 rfl yaj) (zp (zl underlying3 (Row.cell (hS.bx 2 rfl) (i := 2) rfl)) ?_); obtain ⟨hi4, h⟩ := h; refine zp (zS hi4) (zp (zi underlying26 yaj (ybh (hS.rdo 0 rfl) hx4)) (yhC rfl rfl rfl (zt (ii ((gi v2 ((ge d2 v.toNat).2.1).toNat) - ((ge d2 v.toNat).2.2))) yaj (hS.wr 0 rfl rfl hx4) ?_))); intro w9 e1; replace hS := hS.st 0 rfl rfl hx4 (x := (gi v2 ((ge d2 v.toNat).2.1).toNat) - ((ge d2 v.toNat).2.2)) rfl e1; clear e1; refine zb (yb4 (ybt [0, 1, 2, 3, 4, 5, 6, 7, 8, 9] st0 yaQ (by kernel_rfl) (by kernel_rfl) ?_)); replace hS := hS.drew; refine zp (yae hE8) (zp (yam rfl underlying95 rfl yaj) (zp (zl underlying3 (Row.cell (hS.bx 2 rfl) (i := 0) rfl)) ?_)); obtain ⟨hx5, h⟩ := h; refine zp (zi underlying26 yaj (ybh (hS.rdo 0 rfl) hx5)) (zp (yaA (v := (ii (gi (v2.set ((ge d2 v.toNat).2.1).toNat ((gi v2 ((ge d2 v.toNat).2.1).toNat) - ((ge d2 v.toNat).2.2))) ((ge d2 v.toNat).1).toNat))) rfl underlying3 rfl (rd_1 (hS.rdo 0 rfl) hx5 (fun q => ybs q) rfl)) ?_); refine zp (yam rfl underlying95 rfl yaj) (zp (zl underlying3 (Row.cell (hS.bx 2 rfl) (i := 2) rfl)) ?_); obtain ⟨hi5, h⟩ := h; refine zp (zA hi5) (zp (zi underlying26 yaj (ybh (hS.rdo 0 rfl) hx5)) (yhC rfl rfl rfl (zt (ii ((gi (v2.set ((ge d2 v.toNat).2.1).toNat ((gi v2 ((ge d2 v.toNat).2.1).toNat) - ((ge d2 v.toNat).2.2))) ((ge d2 v.toNat).1).toNat) + ((ge d2 v.toNat).2.2))) yaj (hS.wr 0 rfl rfl hx5) ?_))); intro w10 e1; replace hS := hS.st 0 rfl rfl hx5 (x := (gi (v2.set ((ge d2 v.toNat).2.1).toNat ((gi v2 ((ge d2 v.toNat).2.1).toNat) - ((ge d2 v.toNat).2.2))) ((ge d2 v.toNat).1).toNat) + ((ge d2 v.toNat).2.2)) rfl e1; clear e1; refine zb (yb4 (yai (yai (zr ?_)))); obtain ⟨hi6, h⟩ := h; refine zq (ycv hE18 rfl hi6) (zq (zm (ii (v + 1))) (yaa ?_)); obtain ⟨mq, hlt, h⟩ := h; exact again mq _ _ _ ⟨_, _, _, _, _, h, rfl, hE2, hE8, hE16, hE17, rfl, (hS.sel [0, 1] (by decide))⟩ hlt
      · replace h := h.2 hp3; refine zd hp3 (yag (yai (yai (zr ?_)))); obtain ⟨hi7, h⟩ := h; refine zq (ycv hE18 rfl hi7) (zq (zm (ii (v + 1))) (yaa ?_)); obtain ⟨mq, hlt, h⟩ := h; exact again mq _ _ _ ⟨_, _, _, _, _, h, rfl, hE2, hE8, hE16, hE17, rfl, (hS.sel [0, 1] (by decide))⟩ hlt
  · replace h := h.2 hp; refine zd hp (yaH rfl (zs (zq (yae hE8) (zq (yae hE8) (zn (yal rfl (am1 rfl) yhy ((ycp h (yaN _) (hS.rdo 0 rfl)).mono ?_))))))); rintro _ w11 ⟨r2, rfl, hC, h⟩; replace hS := hS.pur hC.pure; clear hC; refine ⟨_, rfl, ?_⟩; exact zb (zq (za (.slice Av lv cv)) (zq (za (.bool (r2))) (yaa (ybF rfl rfl rfl ⟨_, _, _, _, _, rfl, (hS.sel [0] (by decide)), h⟩))))
def ybK (d : List Int) (R : (List Int) → Prop) : Prop :=
(0 < d.length ∧
((cpy (List.replicate 12 (0 : Int)) d).length = 12 ∧
R (cpy (List.replicate 12 (0 : Int)) d)))
theorem yem {O : Nat → Prop} {w : World} {d Ad ld cd} {R : (List Int) → Prop} (h : ybK d R) (hO : ∀ k, O k → k < w.heap.size) (hA0 : (FP.sl cI Ad ld cd d).P O w) :
    Calls Tryz.prog 148 #[(.slice Ad ld cd)] w fun e w' => ∃ r, e = .returned (kE r) ∧ Sep w no O w' (rl []) ∧ R r := by
  unfold ybK at h; have hS : Sep w no O w (rl [Res.ro (FP.sl cI Ad ld cd d)]) := Sep.startl hO [(FP.sl cI Ad ld cd d)] ⟨hA0, trivial⟩; refine yan (l := [(.slice Ad ld cd)]) func148 rfl ntmps148 (Nat.le_of_ble_eq_true rfl) (zs (zn (ybJ ydj ?_))); intro g w2 hN; replace hS := hS.made (n := 12) 1 rfl cI (ii 0) (0 : Int) (fun _ _ => rfl) (hN : New _ _ _ (Array.replicate 12 (ii 0)) 151) (by decide); clear hN; refine zb (yaa (zs (zn (ybJ ydj ?_)))); intro g2 w3 hN; replace hS := hS.made (n := 12) 2 rfl cI (ii 0) (0 : Int) (fun _ _ => rfl) (hN : New _ _ _ (Array.replicate 12 (ii 0)) 151) (by decide); clear hN; refine zb (yaa (zs (zq (ykw rfl underlying151 yaj) (zq (zm (.slice Ad ld cd)) ?_)))); obtain ⟨hx, h⟩ := h; refine zn (n_cpy rfl rfl underlying25 yaj hS 2 rfl (hS.rdr 0 rfl) hx ?_); clear hS; intro w4 hS; refine zb (yaa (zs (zq (yav (vs := (cpy (List.replicate 12 (0 : Int)) d).map (.int .i64)) rfl underlying151 rfl (ygv ydj (hS.rdo 2 rfl)) (yfG (hS.rdo 2 rfl))) ?_))); obtain ⟨hx2, h⟩ := h; refine zo (n_starr rfl rfl ydj hS 1 rfl hx2 ?_); clear hS; intro w5 hS; exact zb (yaa (wt_retx1 rfl (rv_a rfl underlying151 rfl ydj hS 1 rfl) ⟨_, rfl, (hS.sel [] (by decide)), h⟩))
def yaK (d : List (List Int)) (Fi : (List Int) → (List Int) → (Bool → Prop) → Prop) (R : (List (List Int)) → Prop) : Prop :=
((((d.length : Nat) : Int) < 2 →
R d) ∧
(¬ (((d.length : Nat) : Int) < 2) →
(∃ I2 : Nat → Int → Prop, (∃ m0, I2 m0 1) ∧ ∀ m2 v, I2 m2 v → 
((v < ((d.length : Nat) : Int) →
((0 ≤ v ∧ v < ((d.length : Nat) : Int)) ∧
(In64 (v - 1) ∧
((0 ≤ (v - 1) ∧ (v - 1) < ((d.length : Nat) : Int)) ∧
Fi (gx d v.toNat) (gx d (v - 1).toNat) (fun (r : Bool) =>
((r = true →
False) ∧
(¬ (r = true) →
(In64 (v + 1) ∧
∃ m3, m3 < m2 ∧ I2 m3 (v + 1))))))))) ∧
(¬ (v < ((d.length : Nat) : Int)) →
R d)))))
theorem ycT {O : Nat → Prop} {w : World} {d : List (List Int)} {Fi : (List Int) → (List Int) → (Bool → Prop) → Prop} {Ad : Option Addr} {ld : Nat} {cd : Nat} {i : Value} {R : (List (List Int)) → Prop} (h : yaK d Fi R) (hO : ∀ k, O k → k < w.heap.size) (hA0 : (FP.sl (cL cI) Ad ld cd d).P O w) (hA1 : (FP.st fun w' => ∃ (fid : Nat) (us : Array Value), i = Value.func (.func fid) #[] us ∧ Enters Tryz.prog fid ∧ ∀ (x0 : List Int) (x1 : List Int) (Ax0 : Option Addr) (lx0 : Nat) (cx0 : Nat) (Ax1 : Option Addr) (lx1 : Nat) (cx1 : Nat) (R : Bool → Prop), Fi x0 x1 R → (FP.sl cI Ax0 lx0 cx0 x0).P no w' → (FP.sl cI Ax1 lx1 cx1 x1).P no w' → Calls Tryz.prog fid (#[(Value.slice Ax0 lx0 cx0), (Value.slice Ax1 lx1 cx1)] ++ us) w' fun e w'' => ∃ r0 : Bool, e = .returned (Value.bool (r0)) ∧ Sep w' no no w'' (rl []) ∧ R r0).P O w) :
    Calls Tryz.prog 197 #[(.slice Ad ld cd), i] w fun e w' => ∃ r2 Ar lr cr, e = .returned (.slice Ar lr cr) ∧ Sep w no O w' (rl [Res.ro (FP.sl (cL cI) Ar lr cr r2)]) ∧ R r2 := by
  unfold yaK at h; have hS : Sep w no O w (rl [Res.ro (FP.sl (cL cI) Ad ld cd d), Res.ro (FP.st fun w' => ∃ (fid : Nat) (us : Array Value), i = Value.func (.func fid) #[] us ∧ Enters Tryz.prog fid ∧ ∀ (x0 : List Int) (x1 : List Int) (Ax0 : Option Addr) (lx0 : Nat) (cx0 : Nat) (Ax1 : Option Addr) (lx1 : Nat) (cx1 : Nat) (R : Bool → Prop), Fi x0 x1 R → (FP.sl cI Ax0 lx0 cx0 x0).P no w' → (FP.sl cI Ax1 lx1 cx1 x1).P no w' → Calls Tryz.prog fid (#[(Value.slice Ax0 lx0 cx0), (Value.slice Ax1 lx1 cx1)] ++ us) w' fun e w'' => ∃ r0 : Bool, e = .returned (Value.bool (r0)) ∧ Sep w' no no w'' (rl []) ∧ R r0)]) := Sep.startl hO [(FP.sl (cL cI) Ad ld cd d), (FP.st fun w' => ∃ (fid : Nat) (us : Array Value), i = Value.func (.func fid) #[] us ∧ Enters Tryz.prog fid ∧ ∀ (x0 : List Int) (x1 : List Int) (Ax0 : Option Addr) (lx0 : Nat) (cx0 : Nat) (Ax1 : Option Addr) (lx1 : Nat) (cx1 : Nat) (R : Bool → Prop), Fi x0 x1 R → (FP.sl cI Ax0 lx0 cx0 x0).P no w' → (FP.sl cI Ax1 lx1 cx1 x1).P no w' → Calls Tryz.prog fid (#[(Value.slice Ax0 lx0 cx0), (Value.slice Ax1 lx1 cx1)] ++ us) w' fun e w'' => ∃ r0 : Bool, e = .returned (Value.bool (r0)) ∧ Sep w' no no w'' (rl []) ∧ R r0)] ⟨hA0, hA1, trivial⟩; refine yan (l := [(Value.slice Ad ld cd), i]) func197 rfl ntmps197 (Nat.le_of_ble_eq_true rfl) ?_; refine yaf ?_; refine ya5 yaQ ?_; refine rl_q rfl rfl rfl (ydi (v := (.slice none 0 0)) rfl) ?_; refine yaa ?_; refine yaf ?_; refine yaf ?_; refine ya5 yaQ ?_; refine rl_q rfl rfl rfl (yae (v := (.slice Ad ld cd)) rfl) ?_; refine rl_q rfl rfl rfl (ybc (n := d.length) rfl underlying44 (ya2 (hS.rdr 0 rfl))) ?_; refine rl_q rfl rfl rfl (yd4 rfl rfl) ?_; refine yaa ?_; by_cases hp : ((d.length : Nat) : Int) < 2
  · replace h := h.1 hp; exact zc hp (zs (zq (zm (.slice Ad ld cd)) (zq (za (.slice Ad ld cd)) (yaa (yah rfl rfl ⟨_, _, _, _, rfl, (hS.sel [0] (by decide)), h⟩)))))
  · replace h := h.2 hp; refine yax (congrArg Value.bool (decide_eq_false hp)) ?_; refine yag ?_; refine yaf ?_; refine yaf ?_; refine ya5 yaQ ?_; refine rl_q rfl rfl rfl (ydi (v := (.int .i64 1)) rfl) ?_; refine yaa ?_; refine yak ?_; obtain ⟨I2, ⟨m0, h0⟩, hr⟩ := h; refine yaO (fun m E ds w' => ∃ v : Int, I2 m v ∧ ds = [] ∧ E 0 = (Value.slice Ad ld cd) ∧ E 1 = i ∧ E 5 = (Value.int .i64 v) ∧ Sep w no O w' (rl [Res.ro (FP.sl (cL cI) Ad ld cd d), Res.ro (FP.st fun w' => ∃ (fid : Nat) (us : Array Value), i = Value.func (.func fid) #[] us ∧ Enters Tryz.prog fid ∧ ∀ (x0 : List Int) (x1 : List Int) (Ax0 : Option Addr) (lx0 : Nat) (cx0 : Nat) (Ax1 : Option Addr) (lx1 : Nat) (cx1 : Nat) (R : Bool → Prop), Fi x0 x1 R → (FP.sl cI Ax0 lx0 cx0 x0).P no w' → (FP.sl cI Ax1 lx1 cx1 x1).P no w' → Calls Tryz.prog fid (#[(Value.slice Ax0 lx0 cx0), (Value.slice Ax1 lx1 cx1)] ++ us) w' fun e w'' => ∃ r0 : Bool, e = .returned (Value.bool (r0)) ∧ Sep w' no no w'' (rl []) ∧ R r0)])) m0 ⟨_, h0, rfl, rfl, rfl, rfl, (hS.sel [0, 1] (by decide))⟩ ?_; clear h0 hS; rintro m2 E ds w2 ⟨v, h, rfl, hE0, hE1, hE5, hS⟩ again; replace h := hr m2 v h; clear hr; refine yaf ?_; refine yaf ?_; refine ya5 yaQ ?_; refine rl_q rfl rfl rfl (yae (v := (.int .i64 v)) hE5) ?_; refine rl_q rfl rfl rfl (yae (v := (.slice Ad ld cd)) hE0) ?_; refine rl_q rfl rfl rfl (ybc (n := d.length) rfl underlying44 (ya2 (hS.rdr 0 rfl))) ?_; refine rl_q rfl rfl rfl (yd4 rfl rfl) ?_; refine yaa ?_; by_cases hp2 : v < ((d.length : Nat) : Int)
    · replace h := h.1 hp2; refine zc hp2 (yag (yaf (yak (yaf (ybt [0, 1, 2, 3, 4, 5, 6, 7, 8, 9, 10] st0 yaQ (by kernel_rfl) (by kernel_rfl) ?_))))); replace hS := hS.drew; refine zp (yae hE1) (zp (yae hE0) (zp (yae hE5) ?_)); obtain ⟨hx, h⟩ := h; refine zp (zi underlying44 ya0 (ybh (hS.rdr 0 rfl) hx)) ?_; obtain ⟨A, l, c, hc, hq⟩ := hS.el 0 rfl hx 2 3 rfl rfl (by decide); replace hS := hq; clear hq; refine zp (yaA (v := (.slice A l c)) rfl underlying26 rfl (hS.clr 3 rfl)) (zp (yae hE0) (zp (yae hE5) ?_)); obtain ⟨hi, h⟩ := h; refine zp (zS hi) ?_; obtain ⟨hx2, h⟩ := h; refine zp (zi underlying44 ya0 (ybh (hS.rdr 0 rfl) hx2)) ?_; obtain ⟨A2, l2, c2, hc2, hq⟩ := hS.el 0 rfl hx2 4 5 rfl rfl (by decide); replace hS := hq; clear hq; refine zp (yaA (v := (.slice A2 l2 c2)) rfl underlying26 rfl (hS.clr 5 rfl)) ?_; obtain ⟨fid, us, hf, he, hcl⟩ := hS.ro 1 rfl _ (Keeps.refl _ _); replace h := hcl _ _ _ _ _ _ _ _ _ h (hS.rdr 2 rfl) (hS.rdr 4 rfl); clear hcl; refine rp_n rfl rfl rfl rfl (yeH (hf) (am2 rfl rfl) he (h.mono ?_)); clear hf he; rintro _ w3 ⟨r, rfl, hC, h⟩; replace hS := hS.pur hC.pure; clear hC; refine ⟨_, rfl, ?_⟩; refine zb (yb4 ?_); by_cases hp3 : r = true
      · replace h := h.1 hp3; exact yaq (congrArg Value.bool hp3) (zs (zq (yae hE0) (zq (yae hE5) h.elim)))
      · replace h := h.2 hp3; refine yax (congrArg Value.bool (Bool.eq_false_iff.2 hp3)) (yag (yai (zr (zq (yae hE5) ?_)))); obtain ⟨hi2, h⟩ := h; refine zq (zA hi2) (zq (za (ii (v + 1))) (yaa ?_)); obtain ⟨mq, hlt, h⟩ := h; exact again mq _ _ _ ⟨_, h, rfl, hE0, hE1, rfl, (hS.sel [0, 1] (by decide))⟩ hlt
    · replace h := h.2 hp2; exact zd hp2 (yaH rfl (zs (zq (yae hE0) (zq (za (.slice Ad ld cd)) (yaa (yah rfl rfl ⟨_, _, _, _, rfl, (hS.sel [0] (by decide)), h⟩))))))
def ybC (a : List Int) (b : List Int) (R : Bool → Prop) : Prop :=
yaz a b (fun r =>
R r)
theorem yfs {O : Nat → Prop} {w : World} {a b Aa la ca Ab lb cb} {R : Bool → Prop} (h : ybC a b R) (hO : ∀ k, O k → k < w.heap.size) (hA0 : (FP.sl cI Aa la ca a).P O w) (hA1 : (FP.sl cI Ab lb cb b).P O w) :
    Calls Tryz.prog 198 #[(.slice Aa la ca), (.slice Ab lb cb)] w fun e w' => ∃ r2, e = .returned (.bool (r2)) ∧ Sep w no O w' (rl []) ∧ R r2 := by
  unfold ybC at h; have hS : Sep w no O w (rl [Res.ro (FP.sl cI Aa la ca a), Res.ro (FP.sl cI Ab lb cb b)]) := Sep.startl hO [(FP.sl cI Aa la ca a), (FP.sl cI Ab lb cb b)] ⟨hA0, hA1, trivial⟩; refine yan (l := [(.slice Aa la ca), (.slice Ab lb cb)]) func198 rfl ntmps198 (Nat.le_of_ble_eq_true rfl) (zs (zq (za (.bool (false))) (yaa (zs (zq (zm (.slice Aa la ca)) (zq (zm (.slice Ab lb cb)) (zn (yal rfl (am2 rfl rfl) yeX ((yaP h (yaN _) (hS.rdr 0 rfl) (hS.rdr 1 rfl)).mono ?_))))))))); rintro _ w2 ⟨r, rfl, hC, h⟩; replace hS := hS.pur hC.pure; clear hC; refine ⟨_, rfl, ?_⟩; exact zb (zq (za (.bool (r))) (yaa (yah rfl rfl ⟨_, rfl, (hS.sel [] (by decide)), h⟩)))
def ybu (l : List (List Int)) (R : (List (List Int)) → Prop) : Prop :=
yej l (fun y =>
yaK y (fun x x2 R => ybC x x2 R) (fun r =>
R r))
theorem ydS {S O : Nat → Prop} {w : World} {l Al ll cl} {R : (List (List Int)) → Prop} (h : ybu l R) (hS : Sep w S O w (rl [Res.own (cL cI) 26 Al ll cl l])) :
    Calls Tryz.prog 145 #[(.slice Al ll cl)] w fun e w' => ∃ r2 Ar2 lr2 cr2, e = .returned (.slice Ar2 lr2 cr2) ∧ Sep w S O w' (rl [Res.ro (FP.sl (cL cI) Ar2 lr2 cr2 r2)]) ∧ R r2 := by
  unfold ybu at h; refine yan (l := [(.slice Al ll cl)]) func145 rfl ntmps145 (Nat.le_of_ble_eq_true rfl) (zs (zq (za (.slice none 0 0)) (yaa (zs (zq (zm (.slice Al ll cl)) ?_))))); have hB := hS.lend (asc [(0, 0)]) [0] (by decide) ⟨.inl (ycu rfl), trivial⟩; refine zn (yeH (vs := #[(.slice Al ll cl), (.func (Fn.func 196) #[] #[])]) (us := #[]) rfl (am2 rfl rfl) enter_121 ((ybp (by simp) (yf0 h hB)).mono ?_)); rintro _ w2 ⟨y, rfl, hC, h⟩; replace hS := hS.back (asc [(0, 0)]) (yfu (by decide)) hC; clear hC hB; refine ⟨_, rfl, ?_⟩; refine zb (yaa (zs (zq (zm (.slice Al ll cl)) ?_))); replace hS := hS.frz 0 rfl; refine zn (yal rfl (am2 rfl rfl) enter_197 ((ycT h hS.blt (hS.ro 0 rfl) (fun w' hk => ⟨198, #[], rfl, enter_198, fun x x2 Ax lx cx Ax2 lx2 cx2 R hF hz0 hz1 => ybp (by simp) (yfs hF (yaN _) hz0 hz1)⟩)).mono ?_)); rintro _ w3 ⟨r, Ar, lr, cr, rfl, hC, h⟩; replace hS := hS.call1 hC 1 0 rfl; clear hC; refine ⟨_, rfl, ?_⟩; exact zb (zq (za (.slice Ar lr cr)) (yaa (yah rfl rfl ⟨_, _, _, _, rfl, (hS.sel [1] (by decide)), h⟩)))
def ybE (x : List Int) (cap : List (List Int × Bool)) (cap2 : List (List Int)) (R : (List (List Int × Bool)) → (List (List Int)) → Prop) : Prop :=
ybK x (fun r =>
(r.length = 12 ∧
(KOk 12 cap ∧
yfx 12 r ∧
((((mget cap r).getD false) = true →
R cap cap2) ∧
(¬ (((mget cap r).getD false) = true) →
(cap2.length + 1 ≤ 1000000000 ∧
R (mput cap r true) (cap2 ++ [x])))))))
theorem yfj {S O : Nat → Prop} {w : World} {x cap cap2 Ax lx cx gc gm gc2 Acap lcap ccap} {R : (List (List Int × Bool)) → (List (List Int)) → Prop} (h : ybE x cap cap2 R) (hS : Sep w S O w (rl [Res.ro (FP.sl cI Ax lx cx x), Res.box 153 gc [(Value.map (some gm))], Res.obj gm (mapO Value.bool cap), Res.box 44 gc2 [(Value.slice Acap lcap ccap)], Res.own (cL cI) 26 Acap lcap ccap cap2])) :
    Calls Tryz.prog 149 #[(.slice Ax lx cx), (.pointer (some (⟨gc, 0, none⟩ : Addr))), (.pointer (some (⟨gc2, 0, none⟩ : Addr)))] w fun e w' => ∃ z z2 Az lz cz, e = .returned (.tuple #[]) ∧ Sep w S O w' (rl [Res.box 153 gc [(Value.map (some gm))], Res.obj gm (mapO Value.bool z), Res.box 44 gc2 [(.slice Az lz cz)], Res.own (cL cI) 26 Az lz cz z2]) ∧ R z z2 := by
  unfold ybE at h; refine yan (l := [(.slice Ax lx cx), (.pointer (some (⟨gc, 0, none⟩ : Addr))), (.pointer (some (⟨gc2, 0, none⟩ : Addr)))]) func149 rfl ntmps149 (Nat.le_of_ble_eq_true rfl) (zs (zq (zm (.slice Ax lx cx)) (zn (yal rfl (am1 rfl) enter_148 ((yem h (yaN _) (hS.rdr 0 rfl)).mono ?_))))); rintro _ w2 ⟨r, rfl, hC, h⟩; replace hS := hS.pur hC.pure; clear hC; refine ⟨_, rfl, ?_⟩; refine zb (zn (ybJ ydj ?_)); intro g w3 hN; replace hS := hS.made (n := 12) 5 rfl cI (ii 0) (0 : Int) (fun _ _ => rfl) (hN : New _ _ _ (Array.replicate 12 (ii 0)) 151) (by decide); clear hN; refine zb ?_; obtain ⟨hx, h⟩ := h; refine zo (n_starr rfl rfl ydj hS 5 rfl hx ?_); clear hS; intro w4 hS; refine zb (yaa (zs (zq (zl underlying153 (Row.cell (hS.bx 1 rfl) (i := 0) rfl)) (zq (yav (vs := r.map (.int .i64)) rfl underlying151 rfl (ygv ydj (hS.rdo 5 rfl)) (yfG (hS.rdo 5 rfl))) ?_)))); obtain ⟨hx2, h⟩ := h; obtain ⟨hx3, h⟩ := h; refine zn (n_val (v_mget1 (vE := Value.bool) (x0 := false) (keyt_151) hx2 hx3 rfl rfl underlying153 ycm (hS.mp 2 rfl)) ?_); refine zb (zq (ydn rfl) (yaa ?_)); by_cases hp : ((mget cap r).getD false) = true
  · replace h := h.1 hp; exact yax (congrArg Value.bool (congrArg Bool.not hp)) (yag (yew rfl ⟨_, _, _, _, _, rfl, (hS.sel [1, 2, 3, 4] (by decide)), h⟩))
  · replace h := h.2 hp; refine yaq (congrArg Value.bool (congrArg Bool.not (Bool.eq_false_iff.2 hp))) (zs (zq (zl underlying153 (Row.cell (hS.bx 1 rfl) (i := 0) rfl)) (zq (yav (vs := r.map (.int .i64)) rfl underlying151 rfl (ygv ydj (hS.rdo 5 rfl)) (yfG (hS.rdo 5 rfl))) (zo (n_mput (vE := Value.bool) (keyt_151) hx2 hx3 (v := true) rfl rfl rfl underlying153 (hS.mp 2 rfl) ?_))))); intro w5 e1 e2; replace hS := hS.mst 2 rfl e1 e2; clear e1 e2; refine zb (yaa (zr (zq (zl underlying44 (Row.cell (hS.bx 3 rfl) (i := 0) rfl)) (zq (zm (.slice Ax lx cx)) (zn (yaR (l := [(0, (.slice Ax lx cx))]) (cells := [(.slice Ax lx cx)]) (bp1 rfl) underlying44 ya0 rfl rfl ?_)))))); intro g2 w6 hN; replace hS := hS.lit (n := 1) (c := (cL cI)) 6 rfl hN ([x] : List (List Int)) rfl (by decide) ⟨[(.slice Ax lx cx)], _, rfl, (ro_R (hS.ro 0 rfl)), rfl⟩; clear hN; refine zb ?_; obtain ⟨hx4, h⟩ := h; refine zn (n_app (c := (cL cI)) rfl rfl underlying44 underlying44 ya0 rfl rfl (by decide) hS 4 rfl (hS.yo 6 rfl) hx4 ?_); clear hS; intro A c w7 hS; refine zb (zo (zt (.slice A (lcap + 1) c) yd7 (hS.bwr 3 rfl (j := 0) rfl) ?_)); intro w8 e1; replace hS := hS.bst 3 rfl 0 (.slice A (lcap + 1) c) e1; clear e1; exact zb (yaa (yew rfl ⟨_, _, _, _, _, rfl, (hS.sel [1, 2, 3, 4] (by decide)), h⟩))
def yca (g : Int) (g2 : List E3) (d : List Int) (each : List (List Int × Bool)) (each2 : List (List Int)) (R : (List (List Int × Bool)) → (List (List Int)) → Prop) : Prop :=
(∃ I2 : Nat → Int → (List (List Int × Bool)) → (List (List Int)) → Prop, (∃ m0, I2 m0 1 each each2) ∧ ∀ m2 set2 each3 each4, I2 m2 set2 each3 each4 → 
((0 ≤ g ∧ g < 64) ∧
In64 (1 * 2 ^ g.toNat) ∧
(In64 ((1 * 2 ^ g.toNat) - 1) ∧
((set2 < ((1 * 2 ^ g.toNat) - 1) →
ybM g g2 d set2 (fun r r2 =>
((r2 = true →
ybE r each3 each4 (fun y y2 =>
(In64 (set2 + 1) ∧
∃ m3, m3 < m2 ∧ I2 m3 (set2 + 1) y y2))) ∧
(¬ (r2 = true) →
(In64 (set2 + 1) ∧
∃ m4, m4 < m2 ∧ I2 m4 (set2 + 1) each3 each4))))) ∧
(¬ (set2 < ((1 * 2 ^ g.toNat) - 1)) →
R each3 each4)))))
theorem ygl {S O : Nat → Prop} {w : World} {g g2 d each each2 Ag lg cg Ad ld cd gc gm gc2 Aeach leach ceach} {R : (List (List Int × Bool)) → (List (List Int)) → Prop} (h : yca g g2 d each each2 R) (hS : Sep w S O w (rl [Res.ro (FP.sl c3 Ag lg cg g2), Res.ro (FP.sl cI Ad ld cd d), Res.box 153 gc [(Value.map (some gm))], Res.obj gm (mapO Value.bool each), Res.box 44 gc2 [(Value.slice Aeach leach ceach)], Res.own (cL cI) 26 Aeach leach ceach each2])) :
    Calls Tryz.prog 143 #[(.agg #[(ii g), (.slice Ag lg cg)]), (.slice Ad ld cd), (.func (Fn.func 149) #[] #[(.pointer (some (⟨gc, 0, none⟩ : Addr))), (.pointer (some (⟨gc2, 0, none⟩ : Addr)))])] w fun e w' => ∃ z z2 Az lz cz, e = .returned (.tuple #[]) ∧ Sep w S O w' (rl [Res.box 153 gc [(Value.map (some gm))], Res.obj gm (mapO Value.bool z), Res.box 44 gc2 [(.slice Az lz cz)], Res.own (cL cI) 26 Az lz cz z2]) ∧ R z z2 := by
  unfold yca at h; refine yan (l := [(.agg #[(ii g), (.slice Ag lg cg)]), (.slice Ad ld cd), (.func (Fn.func 149) #[] #[(.pointer (some (⟨gc, 0, none⟩ : Addr))), (.pointer (some (⟨gc2, 0, none⟩ : Addr)))])]) func143 rfl ntmps143 (Nat.le_of_ble_eq_true rfl) (zs (zn (yb6 (v := (.agg #[(ii g), (.slice Ag lg cg)])) rfl ?_))); intro g3 w2 hN; replace hS : Sep w S O w2 (stl _ 6 (Res.box 24 g3 [(ii g), (.slice Ag lg cg)])) := hS.new 6 rfl hN; clear hN; refine zb (yaa (zs (zq (za (ii 1)) (yaa (yak ?_))))); obtain ⟨I2, ⟨m0, h0⟩, hr⟩ := h; refine yaO (fun m E ds w' => ∃ set2 each3 each4 Aeach2 leach2 ceach2, I2 m set2 each3 each4 ∧ ds = [] ∧ E 1 = (Value.slice Ad ld cd) ∧ E 2 = (Value.func (Fn.func 149) #[] #[(.pointer (some (⟨gc, 0, none⟩ : Addr))), (.pointer (some (⟨gc2, 0, none⟩ : Addr)))]) ∧ E 3 = (Value.pointer (some (⟨g3, 0, none⟩ : Addr))) ∧ E 6 = (ii set2) ∧ Sep w S O w' (rl [Res.ro (FP.sl cI Ad ld cd d), Res.box 153 gc [(Value.map (some gm))], Res.obj gm (mapO Value.bool each3), Res.box 44 gc2 [(.slice Aeach2 leach2 ceach2)], Res.own (cL cI) 26 Aeach2 leach2 ceach2 each4, Res.box 24 g3 [(ii g), (.slice Ag lg cg)], Res.ro (FP.sl c3 Ag lg cg g2)])) m0 ⟨_, _, _, _, _, _, h0, rfl, rfl, rfl, rfl, rfl, (hS.sel [1, 2, 3, 4, 5, 6, 0] (by decide))⟩ ?_; clear h0 hS; rintro m2 E ds w3 ⟨set2, each3, each4, Aeach2, leach2, ceach2, h, rfl, hE1, hE2, hE3, hE6, hS⟩ again; replace h := hr m2 set2 each3 each4 h; clear hr; refine yaf (zs (zq (yae hE6) (zq (yam hE3 underlying24 rfl yaj) (zq (zl underlying3 (Row.cell (hS.bx 5 rfl) (i := 0) rfl)) ?_)))); obtain ⟨hz, h⟩ := h; obtain ⟨hi, h⟩ := h; refine zq (v_shl rfl rfl hz hi) ?_; obtain ⟨hi2, h⟩ := h; refine zq (zS hi2) (zq zL (yaa ?_)); by_cases hp : set2 < ((1 * 2 ^ g.toNat) - 1)
  · replace h := h.1 hp; refine zc hp (yag (yaf (yak (zs (zq (yav (vs := [(ii g), (.slice Ag lg cg)]) hE3 underlying24 rfl yas ⟨Row.cell (hS.bx 5 rfl) (i := 0) rfl, Row.cell (hS.bx 5 rfl) (i := 1) rfl, trivial⟩) (zq (yae hE1) (zq (yae hE6) (zn (yal rfl (am3 rfl rfl rfl) enter_195 ((yei h (yaN _) (hS.rdr 6 rfl) (hS.rdr 0 rfl)).mono ?_)))))))))); rintro _ w4 ⟨r, r2, Ar, lr, cr, rfl, hC, h⟩; replace hS := hS.call1 (hC.widen (yea (ybl (fI .i64) _ _ _ _ _) ye0) hS.blt) 7 0 rfl; clear hC; refine ⟨_, rfl, ?_⟩; refine zb (zq (zm (.tuple #[(.slice Ar lr cr), (.bool (r2))])) (zq (zx (.slice Ar lr cr)) (zq (zx (.bool (r2))) (zq (za (.slice Ar lr cr)) (zq (za (.bool (r2))) (yaa (zs (zq (zm (.bool (r2))) (yaa ?_))))))))); by_cases hp2 : r2 = true
    · replace h := h.1 hp2; refine yaq (congrArg Value.bool hp2) (zr (zq (yae (v := (Value.func (Fn.func 149) #[] #[(.pointer (some (⟨gc, 0, none⟩ : Addr))), (.pointer (some (⟨gc2, 0, none⟩ : Addr)))])) hE2) (zq (zm (.slice Ar lr cr)) ?_))); replace hS := hS.frz 7 rfl; have hB := hS.lend (asc [(1, 0), (2, 1), (3, 2), (4, 3)]) [7, 1, 2, 3, 4] (by decide) ⟨.inr rfl, .inl (ycu rfl), .inl (ycu rfl), .inl (ycu rfl), .inl (ycu rfl), trivial⟩; refine zn (yeH (vs := #[(.slice Ar lr cr)]) (us := #[(.pointer (some (⟨gc, 0, none⟩ : Addr))), (.pointer (some (⟨gc2, 0, none⟩ : Addr)))]) rfl (am1 rfl) enter_149 ((ybp (by simp) (yfj h hB)).mono ?_)); rintro _ w5 ⟨y, y2, A, l, c, rfl, hC, h⟩; replace hS := hS.back (asc [(1, 0), (2, 1), (3, 2), (4, 3)]) (yfu (by decide)) hC; clear hC hB; refine ⟨_, rfl, ?_⟩; refine zb (yaa (yai (zr (zq (yae hE6) ?_)))); obtain ⟨hi3, h⟩ := h; refine zq (zA hi3) (zq (za (ii (set2 + 1))) (yaa ?_)); obtain ⟨mq, hlt, h⟩ := h; exact again mq _ _ _ ⟨_, _, _, _, _, _, h, rfl, hE1, hE2, hE3, rfl, (hS.sel [0, 1, 2, 3, 4, 5, 6] (by decide))⟩ hlt
    · replace h := h.2 hp2; refine yax (congrArg Value.bool (Bool.eq_false_iff.2 hp2)) (yag (yai (zr (zq (yae hE6) ?_)))); obtain ⟨hi4, h⟩ := h; refine zq (zA hi4) (zq (za (ii (set2 + 1))) (yaa ?_)); obtain ⟨mq, hlt, h⟩ := h; exact again mq _ _ _ ⟨_, _, _, _, _, _, h, rfl, hE1, hE2, hE3, rfl, (hS.sel [0, 1, 2, 3, 4, 5, 6] (by decide))⟩ hlt
  · replace h := h.2 hp; exact zd hp (yaH rfl (yew rfl ⟨_, _, _, _, _, rfl, (hS.sel [1, 2, 3, 4] (by decide)), h⟩))
def ycH (g : Int) (g2 : List E3) (d : List Int) (R : (List (List Int)) → Int → Prop) : Prop :=
ycV g g2 0 d (fun r r2 r3 =>
((r3 = 0 →
yaV r (fun r4 =>
((r4 = true →
ybK r (fun r5 =>
(KOk 12 ([] : List (List Int × Bool)) ∧
yfx 12 r5 ∧
(∃ I2 : Nat → Int → (List (List Int)) → (List (List Int × Bool)) → Prop, (∃ m0, I2 m0 0 ([r]) (mput ([] : List (List Int × Bool)) r5 true)) ∧ ∀ m2 i queue add, I2 m2 i queue add → 
((i < ((queue.length : Nat) : Int) →
((16384 < ((queue.length : Nat) : Int) →
R ([]) 12) ∧
(¬ (16384 < ((queue.length : Nat) : Int)) →
((0 ≤ i ∧ i < ((queue.length : Nat) : Int)) ∧
yca g g2 (gx queue i.toNat) add queue (fun y y2 =>
(In64 (i + 1) ∧
∃ m3, m3 < m2 ∧ I2 m3 (i + 1) y2 y)))))) ∧
(¬ (i < ((queue.length : Nat) : Int)) →
ybu queue (fun r6 =>
R r6 0))))))) ∧
(¬ (r4 = true) →
R ([]) 0)))) ∧
(¬ (r3 = 0) →
R ([]) r3)))
theorem yhl {O : Nat → Prop} {w : World} {g g2 d Ag lg cg Ad ld cd} {R : (List (List Int)) → Int → Prop} (h : ycH g g2 d R) (hO : ∀ k, O k → k < w.heap.size) (hA0 : (FP.sl c3 Ag lg cg g2).P O w) (hA1 : (FP.sl cI Ad ld cd d).P O w) :
    Calls Tryz.prog 81 #[(.agg #[(ii g), (.slice Ag lg cg)]), (.slice Ad ld cd)] w fun e w' => ∃ r7 r8 Ar4 lr4 cr4, e = .returned (.tuple #[(.slice Ar4 lr4 cr4), (ii r8)]) ∧ Sep w no O w' (rl [Res.ro (FP.sl (cL cI) Ar4 lr4 cr4 r7)]) ∧ R r7 r8 := by
  unfold ycH at h; have hS : Sep w no O w (rl [Res.ro (FP.sl c3 Ag lg cg g2), Res.ro (FP.sl cI Ad ld cd d)]) := Sep.startl hO [(FP.sl c3 Ag lg cg g2), (FP.sl cI Ad ld cd d)] ⟨hA0, hA1, trivial⟩; refine yan (l := [(.agg #[(ii g), (.slice Ag lg cg)]), (.slice Ad ld cd)]) func81 rfl ntmps81 (Nat.le_of_ble_eq_true rfl) (zs (zn (yb6 (v := (.agg #[(ii g), (.slice Ag lg cg)])) rfl ?_))); intro g3 w2 hN; replace hS : Sep w no O w2 (stl _ 2 (Res.box 24 g3 [(ii g), (.slice Ag lg cg)])) := hS.new 2 rfl hN; clear hN; refine zb (zq (za (.slice none 0 0)) (zq (za (ii 0)) (yaa (zs (zq (yav (vs := [(ii g), (.slice Ag lg cg)]) rfl underlying24 rfl yas ⟨Row.cell (hS.bx 2 rfl) (i := 0) rfl, Row.cell (hS.bx 2 rfl) (i := 1) rfl, trivial⟩) (zq (zm (.slice Ad ld cd)) (zn (yal rfl (am3 rfl rfl rfl) yiQ ((ydC h (yaN _) (hS.rdr 0 rfl) (hS.rdr 1 rfl)).mono ?_))))))))); rintro _ w3 ⟨r, r2, r3, Ar, lr, cr, Ar2, lr2, cr2, rfl, hC, h⟩; replace hS := hS.call2 (hC.widen (yea (ybl (fI .i64) _ _ _ _ _) (yea (ybl (fI .i64) _ _ _ _ _) ye0)) hS.blt) 3 0 4 1 rfl rfl (by decide) (by decide); clear hC; refine ⟨_, rfl, ?_⟩; refine zb (zq (zm (.tuple #[(.slice Ar lr cr), (.slice Ar2 lr2 cr2), (ii r3)])) (zq (zx (.slice Ar lr cr)) (zq (zx (.slice Ar2 lr2 cr2)) (zq (zx (ii r3)) (zq (za (.slice Ar lr cr)) (zq (za (.slice Ar2 lr2 cr2)) (zq (za (ii r3)) (yaa (yaf (zs (zq (zm (ii r3)) (zq zN (yaa ?_))))))))))))); by_cases hp : r3 = 0
  · replace h := h.1 hp; refine ze hp (yag (yaf (zs (zq (zm (.slice Ar lr cr)) (zn (yal rfl (am1 rfl) yhy ((ycp h (yaN _) (hS.rdo 3 rfl)).mono ?_))))))); rintro _ w4 ⟨r4, rfl, hC, h⟩; replace hS := hS.pur hC.pure; clear hC; refine ⟨_, rfl, ?_⟩; refine zb (zq (ydn rfl) (yaa ?_)); by_cases hp2 : r4 = true
    · replace h := h.1 hp2; refine yax (congrArg Value.bool (congrArg Bool.not hp2)) (yag (zs (zn (n_mkmap (vE := Value.bool) rfl ?_)))); intro g4 w5 e1 e2; replace hS : Sep w no O w5 (stl _ 5 (Res.obj g4 (mapO Value.bool ([] : List (List Int × Bool))))) := hS.newm 5 rfl e1 e2; clear e1 e2; refine zb (zq (zm (.slice Ar lr cr)) (zn (yal rfl (am1 rfl) enter_148 ((yem h (yaN _) (hS.rdo 3 rfl)).mono ?_)))); rintro _ w6 ⟨r5, rfl, hC, h⟩; replace hS := hS.pur hC.pure; clear hC; refine ⟨_, rfl, ?_⟩; refine zb ?_; obtain ⟨hx, h⟩ := h; obtain ⟨hx2, h⟩ := h; refine zo (n_minsert (vE := Value.bool) (keyt_151) hx hx2 (v := true) rfl rfl rfl underlying153 (hS.mp 5 rfl) ?_); intro w7 e1 e2; replace hS := hS.mst 5 rfl e1 e2; clear e1 e2; refine zb (zq (zm (Value.map (some g4))) (zn (ybJ info_153 ?_))); intro g5 w8 hN; replace hS : Sep w no O w8 (stl _ 6 (Res.box 153 g5 [(Value.map none)])) := hS.new 6 rfl hN; clear hN; refine zb (zo (zt (Value.map (some g4)) info_153 (hS.bwr 6 rfl (j := 0) rfl) ?_)); intro w9 e1; replace hS := hS.bst 6 rfl 0 (Value.map (some g4)) e1; clear e1; refine zb (yaa (zs (zq (zm (.slice Ar lr cr)) ?_))); replace hS := hS.frz 3 rfl; refine zn (yaR (l := [(0, (.slice Ar lr cr))]) (cells := [(.slice Ar lr cr)]) (bp1 rfl) underlying44 ya0 rfl rfl ?_); intro g6 w10 hN; replace hS := hS.lit (n := 1) (c := (cL cI)) 7 rfl hN ([r] : List (List Int)) rfl (by decide) ⟨[(.slice Ar lr cr)], _, rfl, (ro_R (hS.ro 3 rfl)), rfl⟩; clear hN; refine zb (zn (ybJ yd7 ?_)); intro g7 w11 hN; replace hS : Sep w no O w11 (stl _ 8 (Res.box 44 g7 [(.slice none 0 0)])) := hS.new 8 rfl hN; clear hN; refine zb (zo (zt (.slice (some ⟨g6, 0, none⟩) 1 1) yd7 (hS.bwr 8 rfl (j := 0) rfl) ?_)); intro w12 e1; replace hS := hS.bst 8 rfl 0 (.slice (some ⟨g6, 0, none⟩) 1 1) e1; clear e1; refine zb (yaa (zs (zq (yfd (am0) (am2 rfl rfl)) (zq (za (.func (Fn.func 149) #[] #[(.pointer (some (⟨g5, 0, none⟩ : Addr))), (.pointer (some (⟨g7, 0, none⟩ : Addr)))])) (yaa (yaf (zs (zq (za (ii 0)) (yaa (yak ?_)))))))))); obtain ⟨I2, ⟨m0, h0⟩, hr⟩ := h; refine yaO (fun m E ds w' => ∃ i queue add Aqueue lqueue cqueue, I2 m i queue add ∧ ds = [] ∧ E 2 = (Value.pointer (some (⟨g3, 0, none⟩ : Addr))) ∧ E 10 = (Value.pointer (some (⟨g7, 0, none⟩ : Addr))) ∧ E 11 = (Value.func (Fn.func 149) #[] #[(.pointer (some (⟨g5, 0, none⟩ : Addr))), (.pointer (some (⟨g7, 0, none⟩ : Addr)))]) ∧ E 12 = (ii i) ∧ Sep w no O w' (rl [Res.box 24 g3 [(ii g), (.slice Ag lg cg)], Res.ro (FP.sl c3 Ag lg cg g2), Res.box 44 g7 [(.slice Aqueue lqueue cqueue)], Res.own (cL cI) 26 Aqueue lqueue cqueue queue, Res.box 153 g5 [(Value.map (some g4))], Res.obj g4 (mapO Value.bool add)])) m0 ⟨_, _, _, _, _, _, h0, rfl, rfl, rfl, rfl, rfl, (hS.sel [2, 0, 8, 7, 6, 5] (by decide))⟩ ?_; clear h0 hS; rintro m2 E ds w13 ⟨i, queue, add, Aqueue, lqueue, cqueue, h, rfl, hE2, hE10, hE11, hE12, hS⟩ again; replace h := hr m2 i queue add h; clear hr; refine yaf (zs (zq (yae hE12) (zq (yaA hE10 underlying44 rfl (Row.cell (hS.bx 2 rfl) (i := 0) rfl)) (zq (ybc (n := queue.length) rfl underlying44 (ya2 (hS.rdo 3 rfl))) (zq zL (yaa ?_)))))); by_cases hp3 : i < ((queue.length : Nat) : Int)
      · replace h := h.1 hp3; refine zc hp3 (yag (yaf (yak (yaf (zs (zq (yaA hE10 underlying44 rfl (Row.cell (hS.bx 2 rfl) (i := 0) rfl)) (zq (ybc (n := queue.length) rfl underlying44 (ya2 (hS.rdo 3 rfl))) (zq zG (yaa ?_))))))))); by_cases hp4 : 16384 < ((queue.length : Nat) : Int)
        · replace h := h.1 hp4; refine zc hp4 (zs (zq (za (.slice none 0 0)) (zq (za (ii 12)) (yaa ?_)))); replace hS := hS.addro 6 rfl _ (yhk (cL cI) _ _); exact ybF rfl rfl rfl ⟨_, _, _, _, _, rfl, (hS.sel [6] (by decide)), h⟩
        · replace h := h.2 hp4; refine zd hp4 (yag (ybt [0, 1, 2, 3, 4, 5, 6] st0 yaQ (by kernel_rfl) (by kernel_rfl) ?_)); replace hS := hS.drew; refine zp (yav (vs := [(ii g), (.slice Ag lg cg)]) hE2 underlying24 rfl yas ⟨Row.cell (hS.bx 0 rfl) (i := 0) rfl, Row.cell (hS.bx 0 rfl) (i := 1) rfl, trivial⟩) (zp (yaA hE10 underlying44 rfl (Row.cell (hS.bx 2 rfl) (i := 0) rfl)) (zp (yae hE12) ?_)); obtain ⟨hx3, h⟩ := h; refine zp (zi underlying44 ya0 (ybh (hS.rdo 3 rfl) hx3)) ?_; obtain ⟨A, l, c, hc, hq⟩ := hS.elo 3 rfl hx3 6 rfl; replace hS := hq; clear hq; refine zp (yaA (v := (.slice A l c)) rfl underlying26 rfl hc) (zp (yae (v := (Value.func (Fn.func 149) #[] #[(.pointer (some (⟨g5, 0, none⟩ : Addr))), (.pointer (some (⟨g7, 0, none⟩ : Addr)))])) hE11) ?_); have hB := hS.lend (asc [(4, 0), (5, 1), (2, 2), (3, 3)]) [1, 6, 4, 5, 2, 3] (by decide) ⟨.inr rfl, .inr rfl, .inl (ycu rfl), .inl (ycu rfl), .inl (ycu rfl), .inl (ycu rfl), trivial⟩; refine rp_n rfl rfl rfl rfl (yeH (vs := #[(.agg #[(ii g), (.slice Ag lg cg)]), (.slice A l c), (.func (Fn.func 149) #[] #[(.pointer (some (⟨g5, 0, none⟩ : Addr))), (.pointer (some (⟨g7, 0, none⟩ : Addr)))])]) (us := #[]) rfl (am3 rfl rfl rfl) enter_143 ((ybp (by simp) (ygl h hB)).mono ?_)); rintro _ w14 ⟨y, y2, A2, l2, c2, rfl, hC, h⟩; replace hS := hS.back (asc [(4, 0), (5, 1), (2, 2), (3, 3)]) (yfu (by decide)) hC; clear hC hB; refine ⟨_, rfl, ?_⟩; refine zb (yb4 (yai (zr (zq (yae hE12) ?_)))); obtain ⟨hi, h⟩ := h; refine zq (zA hi) (zq (za (ii (i + 1))) (yaa ?_)); obtain ⟨mq, hlt, h⟩ := h; exact again mq _ _ _ ⟨_, _, _, _, _, _, h, rfl, hE2, hE10, hE11, rfl, (hS.sel [0, 1, 2, 3, 4, 5] (by decide))⟩ hlt
      · replace h := h.2 hp3; refine zd hp3 (yaH rfl (zs (zq (yaA hE10 underlying44 rfl (Row.cell (hS.bx 2 rfl) (i := 0) rfl)) ?_))); have hB := hS.lend (asc [(6, 0), (3, 20)]) [3] (by decide) ⟨.inl (ycu rfl), trivial⟩; refine zn (yeH (vs := #[(.slice Aqueue lqueue cqueue)]) (us := #[]) rfl (am1 rfl) enter_145 ((ybp (by simp) (ydS h hB)).mono ?_)); rintro _ w15 ⟨r6, Ar3, lr3, cr3, rfl, hC, h⟩; replace hS := hS.back (asc [(6, 0), (3, 20)]) (yfu (by decide)) hC; clear hC hB; refine ⟨_, rfl, ?_⟩; exact zb (zq (za (.slice Ar3 lr3 cr3)) (zq (za (ii 0)) (yaa (ybF rfl rfl rfl ⟨_, _, _, _, _, rfl, (hS.sel [6] (by decide)), h⟩))))
    · replace h := h.2 hp2; refine yaq (congrArg Value.bool (congrArg Bool.not (Bool.eq_false_iff.2 hp2))) (zs (zq (za (.slice none 0 0)) (zq (za (ii 0)) (yaa ?_)))); replace hS := hS.addro 5 rfl _ (yhk (cL cI) _ _); exact ybF rfl rfl rfl ⟨_, _, _, _, _, rfl, (hS.sel [5] (by decide)), h⟩
  · replace h := h.2 hp; refine zf hp (zs (zq (zm (ii r3)) (zq (za (.slice none 0 0)) (zq (za (ii r3)) (yaa ?_))))); replace hS := hS.addro 5 rfl _ (yhk (cL cI) _ _); exact ybF rfl rfl rfl ⟨_, _, _, _, _, rfl, (hS.sel [5] (by decide)), h⟩
def yhb (x : List Int) (cap : List Int) (R : Bool → Prop) : Prop :=
(∃ I2 : Nat → Int → Prop, (∃ m0, I2 m0 0) ∧ ∀ m2 v, I2 m2 v → 
((v < ((x.length : Nat) : Int) →
((0 ≤ v ∧ v < ((x.length : Nat) : Int)) ∧
((0 ≤ v ∧ v < ((cap.length : Nat) : Int)) ∧
(((gi x v.toNat) < (gi cap v.toNat) →
R false) ∧
(¬ ((gi x v.toNat) < (gi cap v.toNat)) →
(In64 (v + 1) ∧
∃ m3, m3 < m2 ∧ I2 m3 (v + 1))))))) ∧
(¬ (v < ((x.length : Nat) : Int)) →
R true)))
theorem yhp {O : Nat → Prop} {w : World} {x cap Ax lx cx gc Acap lcap ccap} {R : Bool → Prop} (h : yhb x cap R) (hO : ∀ k, O k → k < w.heap.size) (hA0 : (FP.sl cI Ax lx cx x).P O w) (hA1 : (FP.bx 26 gc [(Value.slice Acap lcap ccap)]).P O w) (hA2 : (FP.sl cI Acap lcap ccap cap).P O w) :
    Calls Tryz.prog 84 #[(.slice Ax lx cx), (.pointer (some (⟨gc, 0, none⟩ : Addr)))] w fun e w' => ∃ r, e = .returned (.bool (r)) ∧ Sep w no O w' (rl []) ∧ R r := by
  unfold yhb at h; have hS : Sep w no O w (rl [Res.ro (FP.sl cI Ax lx cx x), Res.ro (FP.bx 26 gc [(.slice Acap lcap ccap)]), Res.ro (FP.sl cI Acap lcap ccap cap)]) := Sep.startl hO [(FP.sl cI Ax lx cx x), (FP.bx 26 gc [(.slice Acap lcap ccap)]), (FP.sl cI Acap lcap ccap cap)] ⟨hA0, hA1, hA2, trivial⟩; refine yan (l := [(.slice Ax lx cx), (.pointer (some (⟨gc, 0, none⟩ : Addr)))]) func84 rfl ntmps84 (Nat.le_of_ble_eq_true rfl) (zs (zq (za (.bool (false))) (yaa (yaf (zs (zq (zm (.slice Ax lx cx)) (zq (ybc (n := x.length) rfl underlying26 (ya2 (hS.rdr 0 rfl))) (zq (zm (ii 0)) (yaa (yak ?_)))))))))); obtain ⟨I2, ⟨m0, h0⟩, hr⟩ := h; refine yaO (fun m E ds w' => ∃ v, I2 m v ∧ ds = [] ∧ E 0 = (Value.slice Ax lx cx) ∧ E 1 = (Value.pointer (some (⟨gc, 0, none⟩ : Addr))) ∧ E 6 = (ii ((x.length : Nat) : Int)) ∧ E 7 = (ii v) ∧ Sep w no O w' (rl [Res.ro (FP.sl cI Ax lx cx x), Res.ro (FP.bx 26 gc [(.slice Acap lcap ccap)]), Res.ro (FP.sl cI Acap lcap ccap cap)])) m0 ⟨_, h0, rfl, rfl, rfl, rfl, rfl, (hS.sel [0, 1, 2] (by decide))⟩ ?_; clear h0 hS; rintro m2 E ds w2 ⟨v, h, rfl, hE0, hE1, hE6, hE7, hS⟩ again; replace h := hr m2 v h; clear hr; refine zs (zq (yd4 hE7 hE6) (yaa (yaf ?_))); by_cases hp : v < ((x.length : Nat) : Int)
  · replace h := h.1 hp; refine zc hp (yag (yaf (yak (zs (zq (yae hE7) (zq (za (ii v)) (yaa (yaf (ybt [0, 1, 2, 3, 4, 5, 6, 7, 8] st0 yaQ (by kernel_rfl) (by kernel_rfl) ?_))))))))); replace hS := hS.drew; refine zp (yae hE0) (zp (zm (ii v)) ?_); obtain ⟨hx, h⟩ := h; refine zp (zi underlying26 yaj (ybh (hS.rdr 0 rfl) hx)) (zp (yaA (v := (ii (gi x v.toNat))) rfl underlying3 rfl (rd_1 (hS.rdr 0 rfl) hx (fun q => ybs q) rfl)) ?_); refine zp (yaA hE1 underlying26 rfl (Row.cell (hS.bxr 1 rfl) (i := 0) rfl)) (zp (zm (ii v)) ?_); obtain ⟨hx2, h⟩ := h; refine zp (zi underlying26 yaj (ybh (hS.rdr 2 rfl) hx2)) (zp (yaA (v := (ii (gi cap v.toNat))) rfl underlying3 rfl (rd_1 (hS.rdr 2 rfl) hx2 (fun q => ybs q) rfl)) ?_); refine zp zL (yb4 ?_); by_cases hp2 : (gi x v.toNat) < (gi cap v.toNat)
    · replace h := h.1 hp2; exact zc hp2 (zs (zq (za (.bool (false))) (yaa (yah rfl rfl ⟨_, rfl, (hS.sel [] (by decide)), h⟩))))
    · replace h := h.2 hp2; refine zd hp2 (yag (yai (zr ?_))); obtain ⟨hi, h⟩ := h; refine zq (ycv hE7 rfl hi) (zq (zm (ii (v + 1))) (yaa ?_)); obtain ⟨mq, hlt, h⟩ := h; exact again mq _ _ _ ⟨_, h, rfl, hE0, hE1, hE6, rfl, (hS.sel [0, 1, 2] (by decide))⟩ hlt
  · replace h := h.2 hp; exact zd hp (yaH rfl (zs (zq (za (.bool (true))) (yaa (yah rfl rfl ⟨_, rfl, (hS.sel [] (by decide)), h⟩)))))
def yg9 (g : Int) (g2 : List E3) (d : List Int) (e2 : List Int) (R : (List Int) → Bool → Int → Prop) : Prop :=
ycc g g2 ([d, e2]) (fun r =>
((r = 0 →
yaV e2 (fun r2 =>
((r2 = true →
ycH g g2 d (fun r3 r4 =>
((r4 = 0 →
yaX r3 (fun x R => yhb x e2 R) (fun r5 =>
((r5 < 0 →
R ([]) false 0) ∧
(¬ (r5 < 0) →
((0 ≤ r5 ∧ r5 < ((r3.length : Nat) : Int)) ∧
R (gx r3 r5.toNat) true 0))))) ∧
(¬ (r4 = 0) →
R ([]) false r4)))) ∧
(¬ (r2 = true) →
R ([]) false 15)))) ∧
(¬ (r = 0) →
R ([]) false r)))
theorem yhu {O : Nat → Prop} {w : World} {g g2 d e2 Ag lg cg Ad ld cd Ae le ce} {R : (List Int) → Bool → Int → Prop} (h : yg9 g g2 d e2 R) (hO : ∀ k, O k → k < w.heap.size) (hA0 : (FP.sl c3 Ag lg cg g2).P O w) (hA1 : (FP.sl cI Ad ld cd d).P O w) (hA2 : (FP.sl cI Ae le ce e2).P O w) :
    Calls Tryz.prog 24 #[(.agg #[(ii g), (.slice Ag lg cg)]), (.slice Ad ld cd), (.slice Ae le ce)] w fun e w' => ∃ r6 r7 r8 Ar2 lr2 cr2, e = .returned (.tuple #[(.slice Ar2 lr2 cr2), (.bool (r7)), (ii r8)]) ∧ Sep w no O w' (rl [Res.ro (FP.sl cI Ar2 lr2 cr2 r6)]) ∧ R r6 r7 r8 := by
  unfold yg9 at h; have hS : Sep w no O w (rl [Res.ro (FP.sl c3 Ag lg cg g2), Res.ro (FP.sl cI Ad ld cd d), Res.ro (FP.sl cI Ae le ce e2)]) := Sep.startl hO [(FP.sl c3 Ag lg cg g2), (FP.sl cI Ad ld cd d), (FP.sl cI Ae le ce e2)] ⟨hA0, hA1, hA2, trivial⟩; refine yan (l := [(.agg #[(ii g), (.slice Ag lg cg)]), (.slice Ad ld cd), (.slice Ae le ce)]) func24 rfl ntmps24 (Nat.le_of_ble_eq_true rfl) (zs (zn (yb6 (v := (.agg #[(ii g), (.slice Ag lg cg)])) rfl ?_))); intro g3 w2 hN; replace hS : Sep w no O w2 (stl _ 3 (Res.box 24 g3 [(ii g), (.slice Ag lg cg)])) := hS.new 3 rfl hN; clear hN; refine zb (zn (yb6 (v := (.slice Ae le ce)) rfl ?_)); intro g4 w3 hN; replace hS : Sep w no O w3 (stl _ 4 (Res.box 26 g4 [(.slice Ae le ce)])) := hS.new 4 rfl hN; clear hN; refine zb (zq (za (.slice none 0 0)) (zq (za (.bool (false))) (zq (za (ii 0)) (yaa (yaf (zs (zq (yav (vs := [(ii g), (.slice Ag lg cg)]) rfl underlying24 rfl yas ⟨Row.cell (hS.bx 3 rfl) (i := 0) rfl, Row.cell (hS.bx 3 rfl) (i := 1) rfl, trivial⟩) (zq (zm (.slice Ad ld cd)) (zq (zl underlying26 (Row.cell (hS.bx 4 rfl) (i := 0) rfl)) (zn (yaR (l := [(0, (.slice Ad ld cd)), (1, (.slice Ae le ce))]) (cells := [(.slice Ad ld cd), (.slice Ae le ce)]) (bp2 rfl rfl) underlying44 ya0 rfl rfl ?_))))))))))); intro g5 w4 hN; replace hS := hS.lit (n := 2) (c := (cL cI)) 5 rfl hN ([d, e2] : List (List Int)) rfl (by decide) ⟨[(.slice Ad ld cd)], _, rfl, (ro_R (hS.ro 1 rfl)), ⟨[(.slice Ae le ce)], _, rfl, (ro_R (hS.ro 2 rfl)), rfl⟩⟩; clear hN; refine zb (zn (yal rfl (am2 rfl rfl) enter_80 ((yel h (yaN _) (hS.rdr 0 rfl) (hS.rdo 5 rfl)).mono ?_))); rintro _ w5 ⟨r, rfl, hC, h⟩; replace hS := hS.pur hC.pure; clear hC; refine ⟨_, rfl, ?_⟩; refine zb (zq (za (ii r)) (yaa (zs (zq (zm (ii r)) (zq zN (yaa ?_)))))); by_cases hp : r = 0
  · replace h := h.1 hp; refine ze hp (yag (yaf (zs (zq (zl underlying26 (Row.cell (hS.bx 4 rfl) (i := 0) rfl)) (zn (yal rfl (am1 rfl) yhy ((ycp h (yaN _) (hS.rdr 2 rfl)).mono ?_))))))); rintro _ w6 ⟨r2, rfl, hC, h⟩; replace hS := hS.pur hC.pure; clear hC; refine ⟨_, rfl, ?_⟩; refine zb (zq (ydn rfl) (yaa ?_)); by_cases hp2 : r2 = true
    · replace h := h.1 hp2; refine yax (congrArg Value.bool (congrArg Bool.not hp2)) (yag (zs (zq (yav (vs := [(ii g), (.slice Ag lg cg)]) rfl underlying24 rfl yas ⟨Row.cell (hS.bx 3 rfl) (i := 0) rfl, Row.cell (hS.bx 3 rfl) (i := 1) rfl, trivial⟩) (zq (zm (.slice Ad ld cd)) (zn (yal rfl (am2 rfl rfl) enter_81 ((yhl h hS.blt (hS.ro 0 rfl) (hS.ro 1 rfl)).mono ?_))))))); rintro _ w7 ⟨r3, r4, Ar, lr, cr, rfl, hC, h⟩; replace hS := hS.call1 hC 6 0 rfl; clear hC; refine ⟨_, rfl, ?_⟩; refine zb (zq (zm (.tuple #[(.slice Ar lr cr), (ii r4)])) (zq (zx (.slice Ar lr cr)) (zq (zx (ii r4)) (zq (za (.slice Ar lr cr)) (zq (za (ii r4)) (yaa (yaf (zs (zq (zm (ii r4)) (zq zN (yaa ?_))))))))))); by_cases hp3 : r4 = 0
      · replace h := h.1 hp3; refine ze hp3 (yag (zs (zq (zm (.slice Ar lr cr)) (zq (yfd (am0) (am1 rfl)) ?_)))); replace hS := hS.frzb 4 rfl; refine zn (yal rfl (am2 rfl rfl) enter_83 ((ydg h (yaN _) (hS.rdr 6 rfl) (fun w' hk => ⟨84, #[(.pointer (some (⟨g4, 0, none⟩ : Addr)))], rfl, enter_84, fun x Ax lx cx R hF hz0 => ybp (by simp) (yhp hF (yaN _) hz0 (FP.sub _ (FP.keep _ (FP.sub _ (hS.ro 4 rfl) (fun _ _ h => h.elim) : FP.P _ no _) hk) fun _ _ h => h.elim) (FP.sub _ (FP.keep _ (FP.sub _ (hS.ro 2 rfl) (fun _ _ h => h.elim) : FP.P _ no _) hk) fun _ _ h => h.elim))⟩)).mono ?_)); rintro _ w8 ⟨r5, rfl, hC, h⟩; replace hS := hS.pur hC.pure; clear hC; refine ⟨_, rfl, ?_⟩; refine zb (zq (za (ii r5)) (yaa (yaf (zs (zq (zm (ii r5)) (zq zL (yaa ?_))))))); by_cases hp4 : r5 < 0
        · replace h := h.1 hp4; refine zc hp4 (zs (zq (za (.slice none 0 0)) (zq (za (.bool (false))) (zq (za (ii 0)) (yaa ?_))))); replace hS := hS.addro 7 rfl _ (yhk cI _ _); exact yfS rfl rfl rfl rfl ⟨_, _, _, _, _, _, rfl, (hS.sel [7] (by decide)), h⟩
        · replace h := h.2 hp4; refine zd hp4 (yag (zs (zq (zm (.slice Ar lr cr)) (zq (zm (ii r5)) ?_)))); obtain ⟨hx, h⟩ := h; refine zq (zi underlying44 ya0 (ybh (hS.rdr 6 rfl) hx)) ?_; obtain ⟨A, l, c, hc, hq⟩ := hS.el 6 rfl hx 7 8 rfl rfl (by decide); replace hS := hq; clear hq; exact zq (yaA (v := (.slice A l c)) rfl underlying26 rfl (hS.clr 8 rfl)) (zq (za (.slice A l c)) (zq (za (.bool (true))) (zq (za (ii 0)) (yaa (yfS rfl rfl rfl rfl ⟨_, _, _, _, _, _, rfl, (hS.sel [7] (by decide)), h⟩)))))
      · replace h := h.2 hp3; refine zf hp3 (zs (zq (zm (ii r4)) (zq (za (.slice none 0 0)) (zq (za (.bool (false))) (zq (za (ii r4)) (yaa ?_)))))); replace hS := hS.addro 7 rfl _ (yhk cI _ _); exact yfS rfl rfl rfl rfl ⟨_, _, _, _, _, _, rfl, (hS.sel [7] (by decide)), h⟩
    · replace h := h.2 hp2; refine yaq (congrArg Value.bool (congrArg Bool.not (Bool.eq_false_iff.2 hp2))) (zs (zq (za (.slice none 0 0)) (zq (za (.bool (false))) (zq (za (ii 15)) (yaa ?_))))); replace hS := hS.addro 6 rfl _ (yhk cI _ _); exact yfS rfl rfl rfl rfl ⟨_, _, _, _, _, _, rfl, (hS.sel [6] (by decide)), h⟩
  · replace h := h.2 hp; refine zf hp (zs (zq (zm (ii r)) (zq (za (.slice none 0 0)) (zq (za (.bool (false))) (zq (za (ii r)) (yaa ?_)))))); replace hS := hS.addro 6 rfl _ (yhk cI _ _); exact yfS rfl rfl rfl rfl ⟨_, _, _, _, _, _, rfl, (hS.sel [6] (by decide)), h⟩
end Go.Proofs.YtncilechkclmbaaGreat

/- What package system comes to: steps, the search, the system in order. -/
namespace Go.Proofs.YtncilechkclmbaaGreat
open Go Go.Proofs.Tryz
set_option linter.unusedVariables false
set_option linter.unusedSimpArgs false
theorem W_snocE (x : E3) (v u : Nat) : ∀ es : List E3, W (es ++ [x]) v u = W es v u + w1 x v u
  | [] => by rw [List.nil_append, yfb, W_nil]; omega
  | y :: es => by rw [List.cons_append, yfb, yfb, W_snocE x v u es]; omega
theorem Lp_snocE {n : Nat} (x : E3) (s : Nat → Int) (v : Nat) (es : List E3) : Lp n (es ++ [x]) s v = Lp n es s v + sm n (fun u => w1 x v u * (s v - s u)) := by
  unfold Lp
  rw [← ycF]
  exact yau fun u _ => by rw [W_snocE, Int.add_mul]
theorem edge_same {n : Nat} {a b : Nat} {k : Int} {s : Nat → Int} (h : s a = s b) (v : Nat) : sm n (fun u => w1 ((a : Int), (b : Int), k) v u * (s v - s u)) = 0 := by
  rw [yau (g := fun _ => 0) fun u _ => ?_, ycf]
  unfold w1
  split
  · rename_i q
    have : s v = s u := by
      rcases q.2 with ⟨h1, h2⟩ | ⟨h1, h2⟩
      · rw [← Int.ofNat.inj h1, ← Int.ofNat.inj h2]; exact h
      · rw [← Int.ofNat.inj h1, ← Int.ofNat.inj h2]; exact h.symm
    rw [this, Int.sub_self, Int.mul_zero]
  · rw [Int.zero_mul]
theorem edge_diff {n : Nat} {a b : Nat} {k : Int} {s : Nat → Int} (ha : a < n) (hb : b < n) (h : a ≠ b) (v : Nat) : sm n (fun u => w1 ((a : Int), (b : Int), k) v u * (s v - s u)) = if v = a then k * (s a - s b) else if v = b then k * (s b - s a) else 0 := by
  by_cases e1 : v = a
  · subst e1
    rw [if_pos rfl, ← yeI (k * (s v - s b)) hb]
    refine yau fun u _ => ?_
    by_cases e : u = b
    · subst e
      rw [if_pos rfl]
      unfold w1
      rw [if_pos ⟨by show (v : Int) ≠ u; omega, .inl ⟨rfl, rfl⟩⟩]
    · rw [if_neg e]
      unfold w1
      rw [if_neg, Int.zero_mul]
      rintro ⟨_, ⟨_, q⟩ | ⟨q1, q2⟩⟩
      · exact e (Int.ofNat.inj q).symm
      · exact h (Int.ofNat.inj q2).symm
  · rw [if_neg e1]
    by_cases e2 : v = b
    · subst e2
      rw [if_pos rfl, ← yeI (k * (s v - s a)) ha]
      refine yau fun u _ => ?_
      by_cases e : u = a
      · subst e
        rw [if_pos rfl]
        unfold w1
        rw [if_pos ⟨by show (u : Int) ≠ v; omega, .inr ⟨rfl, rfl⟩⟩]
      · rw [if_neg e]
        unfold w1
        rw [if_neg, Int.zero_mul]
        rintro ⟨_, ⟨q1, q2⟩ | ⟨q, _⟩⟩
        · exact h (Int.ofNat.inj q1)
        · exact e (Int.ofNat.inj q).symm
    · rw [if_neg e2, yau (g := fun _ => 0) fun u _ => ?_, ycf]
      unfold w1
      rw [if_neg, Int.zero_mul]
      rintro ⟨_, ⟨q1, q2⟩ | ⟨q1, q2⟩⟩
      · exact e1 (Int.ofNat.inj q1).symm
      · exact e2 (Int.ofNat.inj q2).symm
def posB (d : List Int) : Bool := decide (∀ v, v < d.length → 0 ≤ gi d v)
theorem ydF {n : Nat} {d : List Int} (h : d.length = n) : posB d = true ↔ Pos n d := by
  unfold posB; rw [decide_eq_true_iff]; exact ⟨fun q => ⟨h, fun v hv => q v (by omega)⟩, fun q v hv => q.pos v (by omega)⟩
theorem ycL {d : List Int} {R : Bool → Prop} (hl : d.length ≤ 1000000000) (h0 : 0 < d.length) (h : R (posB d)) : yaV d R := by
  unfold yaV
  refine ykh hl h0 fun m ⟨k, hk, e⟩ hall => ?_
  have : decide (0 ≤ m) = posB d := by
    unfold posB
    rw [decide_eq_decide]
    exact ⟨fun q v hv => by have := hall v hv; omega, fun q => by have := q k hk; omega⟩
  rw [this]; exact h
theorem ye7 {n m : Nat} {es : List E3} {d : List Int} {R : List Int → Bool → Prop} (hE : EOk n es) (hn : 1 ≤ n ∧ n ≤ 12) (hl : es.length ≤ 1000) (hm : m < 4096) (hd : d.length = n) (hb : ∀ v, v < n → -1000000 ≤ gi d v ∧ gi d v ≤ 1000000) (h : R (firM n es d m) (posB (firM n es d m))) : ybM (n : Int) es d (m : Int) R := by
  unfold ybM
  obtain ⟨s, hs⟩ : ∃ s : Nat → Int, s = fun u => if m.testBit u = true then 1 else 0 := ⟨_, rfl⟩
  have hsv : ∀ u, s u = 0 ∨ s u = 1 := fun u => by rw [hs]; show (if m.testBit u = true then (1 : Int) else 0) = 0 ∨ (if m.testBit u = true then (1 : Int) else 0) = 1; split <;> omega
  have hfv : ∀ (es : List E3) (v : Nat), v < n → gi (firM n es d m) v = gi d v - Lp n es s v := fun es v hv => by rw [yfY hv, hs]
  have hbit : ∀ u : Nat, ((((m : Int) / 2 ^ (u : Int).toNat).toNat &&& (1 : Int).toNat : Nat) : Int) = s u := fun u => by rw [bit_and, hs]
  refine ycN (by omega) ?_
  refine ⟨fun q v o => Cnt es.length (fun k => o = firM n (es.take k) d m ∧ ∀ v, v < n → -1000000 - 50 * (k : Int) ≤ gi o v ∧ gi o v ≤ 1000000 + 50 * (k : Int)) q v, Cnt.start ⟨?_, fun v hv => by have := hb v hv; omega⟩, ?_⟩
  · rw [List.take_zero]
    exact ygM hd (ya7 _ _ _ _) fun v hv => by rw [hfv _ v hv]; unfold Lp; rw [yau (g := fun _ => 0) (fun u _ => by rw [W_nil, Int.zero_mul]), ycf]; omega
  rintro q _ o ⟨k, rfl, rfl, hk, hinv⟩
  rw [Int.toNat_natCast]
  refine ⟨fun hlt => ?_, fun hge => ?_⟩
  · have hkl : k < es.length := by omega
    have hx := hE _ (yiJ hkl)
    have htake : es.take (k + 1) = es.take k ++ [ge es k] := by rw [List.take_add_one, List.getElem?_eq_getElem hkl, ydL hkl]; rfl
    generalize ge es k = x at hx htake ⊢
    obtain ⟨a, b, c⟩ := x
    simp only at hx ⊢
    obtain ⟨a, rfl⟩ : ∃ a' : Nat, a = (a' : Int) := ⟨a.toNat, by omega⟩
    obtain ⟨b, rfl⟩ : ∃ b' : Nat, b = (b' : Int) := ⟨b.toNat, by omega⟩
    obtain ⟨ho, hbo⟩ := hinv
    have hol : o.length = n := by rw [ho]; exact ya7 _ _ _ _
    have ha : a < n := by omega
    have hbn : b < n := by omega
    have hstep : ∀ v, v < n → gi (firM n (es.take (k + 1)) d m) v = gi o v - sm n (fun u => w1 ((a : Int), (b : Int), c) v u * (s v - s u)) := fun v hv => by
      rw [hfv _ v hv, htake, Lp_snocE, ho, hfv _ v hv]; omega
    have sa := hsv a
    have sb := hsv b
    rw [hbit, hbit, Int.toNat_natCast, Int.toNat_natCast]
    refine ⟨by omega, by omega, bit_fit m a (by omega), by omega, bit_fit m b (by omega), fun hab => ?_, fun hab => ⟨fun hba => ?_, fun hba => ?_⟩⟩
    · have hma : s a = 1 := by omega
      have hmb : s b = 0 := by omega
      have hne : a ≠ b := fun e => by subst e; omega
      have hf : ∀ v, v < n → gi (firM n (es.take (k + 1)) d m) v = gi ((o.set a (gi o a - c)).set b (gi (o.set a (gi o a - c)) b + c)) v := fun v hv => by
        rw [hstep v hv, edge_diff ha hbn hne, ybV (by rw [List.length_set]; omega), ybV (by omega), ybV (by omega), hma, hmb]
        by_cases e1 : v = b
        · subst e1
          rw [if_neg (by omega), if_pos rfl, if_pos rfl, if_neg (by omega)]; omega
        · rw [if_neg e1]
          by_cases e2 : v = a
          · subst e2; rw [if_pos rfl, if_pos rfl]; omega
          · rw [if_neg e2, if_neg e2, if_neg e1]; omega
      have h1 := hbo a ha
      have h2 := hbo b hbn
      have hs2 : gi (o.set a (gi o a - c)) b = gi o b := by rw [ybV (by omega), if_neg (by omega)]
      refine ⟨by omega, i64 (by omega), by rw [List.length_set]; omega, by rw [hs2]; exact i64 (by omega), Cnt.next hkl (by omega) ⟨(ygM (ya7 _ _ _ _) (by simp [hol]) hf).symm, fun v hv => ?_⟩⟩
      rw [ybV (by rw [List.length_set]; omega), hs2]
      have h3 := hbo v hv
      by_cases e1 : v = b
      · rw [if_pos e1]; omega
      · rw [if_neg e1, ybV (by omega)]
        by_cases e2 : v = a
        · rw [if_pos e2]; omega
        · rw [if_neg e2]; omega
    · have hma : s a = 0 := by omega
      have hmb : s b = 1 := by omega
      have hne : a ≠ b := fun e => by subst e; omega
      have hf : ∀ v, v < n → gi (firM n (es.take (k + 1)) d m) v = gi ((o.set b (gi o b - c)).set a (gi (o.set b (gi o b - c)) a + c)) v := fun v hv => by
        rw [hstep v hv, edge_diff ha hbn hne, ybV (by rw [List.length_set]; omega), ybV (by omega), ybV (by omega), hma, hmb]
        by_cases e1 : v = a
        · subst e1
          rw [if_pos rfl, if_pos rfl, if_neg (by omega)]; omega
        · rw [if_neg e1, if_neg e1]
          by_cases e2 : v = b
          · subst e2; rw [if_pos rfl, if_pos rfl]; omega
          · rw [if_neg e2, if_neg e2]; omega
      have h1 := hbo a ha
      have h2 := hbo b hbn
      have hs2 : gi (o.set b (gi o b - c)) a = gi o a := by rw [ybV (by omega), if_neg (by omega)]
      refine ⟨by omega, i64 (by omega), by rw [List.length_set]; omega, by rw [hs2]; exact i64 (by omega), Cnt.next hkl (by omega) ⟨(ygM (ya7 _ _ _ _) (by simp [hol]) hf).symm, fun v hv => ?_⟩⟩
      rw [ybV (by rw [List.length_set]; omega), hs2]
      have h3 := hbo v hv
      by_cases e1 : v = a
      · rw [if_pos e1]; omega
      · rw [if_neg e1, ybV (by omega)]
        by_cases e2 : v = b
        · rw [if_pos e2]; omega
        · rw [if_neg e2]; omega
    · refine Cnt.next hkl (by omega) ⟨(ygM (ya7 _ _ _ _) hol fun v hv => ?_).symm, fun v hv => by have := hbo v hv; omega⟩
      rw [hstep v hv, edge_same (show s a = s b by omega)]; omega
  · have e : k = es.length := by omega
    rw [e, List.take_length] at hinv
    rw [hinv.1]
    refine ycL (by rw [ya7]; omega) (by rw [ya7]; omega) h
theorem lex_lt {a b : List Int} (h : ¬ lexC b a < 0) (hne : a ≠ b) : lexC a b < 0 := by
  rw [yeV] at h
  have h2 : lexC a b ≠ 0 := fun q => hne (lexC_eq _ _ q)
  omega
theorem p_compact {l : List (List Int)} {R : List (List Int) → Prop} (hl : l.length ≤ 1000000) (hx : ∀ x ∈ l, x.length ≤ 1000000000) (ha : Asc l) (h : R l) : yaK l (fun x x2 R => ybC x x2 R) R := by
  unfold yaK ybC
  refine ⟨fun _ => h, fun h2 => ⟨fun q v => ∃ k : Nat, q = l.length - k ∧ v = (k : Int) ∧ 1 ≤ k ∧ k ≤ l.length, ⟨l.length - 1, 1, rfl, rfl, by omega, by omega⟩, ?_⟩⟩
  rintro q _ ⟨k, rfl, rfl, h1, hk⟩
  refine ⟨fun hlt => ⟨by omega, i64 (by omega), by omega, ?_⟩, fun _ => h⟩
  have e1 : ((k : Int) - 1).toNat = k - 1 := by omega
  rw [e1, Int.toNat_natCast]
  have hk2 : k < l.length := by omega
  refine yaS (hx _ (List.mem_of_getElem? (yfn hk2))) ⟨fun e => ?_, fun _ => ⟨i64 (by omega), l.length - (k + 1), by omega, k + 1, rfl, by omega, by omega, by omega⟩⟩
  have e := of_decide_eq_true e
  have := List.pairwise_iff_getElem.1 ha (k - 1) k (by omega) hk2 (by omega)
  rw [← yfv, ← yfv hk2, e, yd0] at this
  omega
theorem yex {l : List (List Int)} {R : List (List Int) → Prop} (hl : l.length ≤ 1000000) (hx : ∀ x ∈ l, x.length ≤ 1000000000) (hn : l.Nodup) (h : ∀ z, Asc z → (∀ y, y ∈ z ↔ y ∈ l) → R z) : ybu l R := by
  unfold ybu
  refine ⟨by omega, hx, fun z hp hs => ?_⟩
  have ha : Asc z := ((hp.nodup_iff.2 hn).and hs).imp fun {a b} q => lex_lt q.2 q.1
  have hm : ∀ y, y ∈ z ↔ y ∈ l := fun y => hp.mem_iff
  exact p_compact (by rw [hp.length_eq]; exact hl) (fun x q => hx x ((hm x).1 q)) ha (h z ha hm)
structure Inv (n : Nat) (es : List E3) (d : List Int) (M : List (List Int × Bool)) (Q : List (List Int)) : Prop where
  keys : KOk 12 M
  seen : ∀ x, x.length = n → ((mget M (keyF x)).getD false = true ↔ x ∈ Q)
  nd : Q.Nodup
  mem : ∀ x ∈ Q, Pos n x ∧ Eqv n es d x
theorem yfT {n : Nat} {x : List Int} (h : Pos n x) : Eff n x (dg x) := ⟨h.len, h.pos, rfl⟩
theorem sys_len {n : Nat} {es : List E3} {d : List Int} (h1 : 1 ≤ n) (hn : n ≤ 5) (h5 : dg d ≤ 5) : (sysF n es d).length ≤ 2401 := by
  unfold sysF
  split
  · simp
  · refine Nat.le_trans (List.length_filter_le _ _) ?_
    obtain ⟨N, rfl⟩ : ∃ N, n = N + 1 := ⟨n - 1, by omega⟩
    exact yks (by omega) (by omega)
theorem Inv.len {n : Nat} {es : List E3} {d : List Int} {M : List (List Int × Bool)} {Q : List (List Int)} (I : Inv n es d M Q) (h1 : 1 ≤ n) (hn : n ≤ 5) (hd : d.length = n) (h5 : dg d ≤ 5) : Q.length ≤ 2401 :=
  Nat.le_trans (nodup_le I.nd fun x hx => (yc0 h1 hd).2 (I.mem x hx)) (sys_len (es := es) h1 hn h5)
section
variable {n : Nat} {es : List E3} {d : List Int}
theorem Inv.start (hn : n ≤ 5) (hd : d.length = n) (h5 : dg d ≤ 5) {r : List Int} (hr : Pos n r) (he : Eqv n es d r) : Inv n es d (mput [] (keyF r) true) [r] := by
  have hdr : dg r = dg d := he.dg hd hr.len
  refine ⟨(KOk.nil 12).put (ygP (yfT hr) (by omega)) true, fun x hx => ?_, by simp, fun x hx => by rw [List.mem_singleton.1 hx]; exact ⟨hr, he⟩⟩
  rw [mget_put]
  by_cases e : keyF r = keyF x
  · rw [if_pos e]
    simp
    exact (keyF_inj (by omega) hr.len hx e).symm
  · rw [if_neg e]
    simp [mget]
    exact fun q => e (by rw [q])
theorem p_add (hn : 1 ≤ n ∧ n ≤ 5) (hd : d.length = n) (h5 : dg d ≤ 5) {M : List (List Int × Bool)} {Q : List (List Int)} {x : List Int} {R : List (List Int × Bool) → List (List Int) → Prop} (I : Inv n es d M Q) (hx : Pos n x) (he : Eqv n es d x)
    (h : ∀ M' Q', Inv n es d M' Q' → Q <+: Q' → x ∈ Q' → R M' Q') : ybE x M Q R := by
  have hdx : dg x = dg d := he.dg hd hx.len
  have hlen := I.len hn.1 hn.2 hd h5
  have hl := hx.len
  unfold ybE ybK
  refine ⟨by omega, ycU x, ycU x, I.keys, ygP (yfT hx) (by omega), fun q => ?_, fun q => ⟨by omega, ?_⟩⟩
  · exact h _ _ I (List.prefix_refl _) ((I.seen x hl).1 q)
  · have hnx : x ∉ Q := fun z => q ((I.seen x hl).2 z)
    refine h _ _ ⟨I.keys.put (ygP (yfT hx) (by omega)) true, fun y hy => ?_, ?_, fun y hy => ?_⟩ (List.prefix_append _ _) (by simp)
    · show (mget (mput M (keyF x) true) (keyF y)).getD false = true ↔ _
      rw [mget_put]
      by_cases e : keyF x = keyF y
      · rw [if_pos e, keyF_inj (by omega) hl hy e]; simp
      · rw [if_neg e, I.seen y hy, List.mem_append, List.mem_singleton]
        exact ⟨.inl, fun z => z.resolve_right fun z => e (by rw [z])⟩
    · rw [List.nodup_append]
      exact ⟨I.nd, by simp, fun a ha b hb e => hnx (by rw [List.mem_singleton] at hb; rw [← hb, ← e]; exact ha)⟩
    · rcases List.mem_append.1 hy with z | z
      · exact I.mem y z
      · rw [List.mem_singleton.1 z]; exact ⟨hx, he⟩
theorem p_system_steps (hE : EOk n es) (hel : es.length ≤ 1000) (hn : 1 ≤ n ∧ n ≤ 5) (hd : d.length = n) (h5 : dg d ≤ 5) {M : List (List Int × Bool)} {Q : List (List Int)} {x : List Int} {R : List (List Int × Bool) → List (List Int) → Prop} (I : Inv n es d M Q) (hx : x ∈ Q)
    (h : ∀ M' Q', Inv n es d M' Q' → Q <+: Q' → (∀ m, 1 ≤ m → m < 2 ^ n - 1 → Pos n (firM n es x m) → firM n es x m ∈ Q') → R M' Q') : yca (n : Int) es x M Q R := by
  unfold yca
  obtain ⟨hp, he⟩ := I.mem x hx
  have h12 : 2 ^ n ≤ 4096 := yfH (by omega)
  have h2 : 2 ≤ 2 ^ n := by have := Nat.pow_le_pow_right (n := 2) (by omega) hn.1; omega
  have hb : ∀ v, v < n → -1000000 ≤ gi x v ∧ gi x v ≤ 1000000 := fun v hv => by
    have h1 := (yfT hp).le hv
    have h3 := hp.pos v hv
    have := he.dg hd hp.len
    omega
  refine ⟨fun q v M' Q' => ∃ k : Nat, q = 2 ^ n - k ∧ v = (k : Int) ∧ 1 ≤ k ∧ k ≤ 2 ^ n - 1 ∧ Inv n es d M' Q' ∧ Q <+: Q' ∧ ∀ m, 1 ≤ m → m < k → Pos n (firM n es x m) → firM n es x m ∈ Q', ⟨2 ^ n - 1, 1, rfl, rfl, by omega, by omega, I, List.prefix_refl _, fun m h1 h2 => absurd h1 (by omega)⟩, ?_⟩
  rintro q _ M' Q' ⟨k, rfl, rfl, hk1, hk, I', hpre, hall⟩
  rw [pow_cast]
  refine ⟨by omega, i64 (by omega), i64 (by omega), fun hlt => ?_, fun hge => ?_⟩
  · refine ye7 hE (by omega) hel (by omega) hp.len hb ⟨fun q => ?_, fun q => ?_⟩
    · have hq := (ydF (ya7 n es x k)).1 q
      refine p_add hn hd h5 I' hq (he.trans (Eqv.firM n es x k)) fun M2 Q2 I2 hp2 hm2 => ⟨i64 (by omega), 2 ^ n - (k + 1), by omega, k + 1, rfl, by omega, by omega, by omega, I2, hpre.trans hp2, fun m h1 h3 h4 => ?_⟩
      by_cases e : m = k
      · subst e; exact hm2
      · exact hp2.subset (hall m h1 (by omega) h4)
    · refine ⟨i64 (by omega), 2 ^ n - (k + 1), by omega, k + 1, rfl, by omega, by omega, by omega, I', hpre, fun m h1 h3 h4 => ?_⟩
      by_cases e : m = k
      · subst e; exact absurd ((ydF (ya7 n es x m)).2 h4) q
      · exact hall m h1 (by omega) h4
  · exact h M' Q' I' hpre fun m h1 h2 h3 => hall m h1 (by omega) h3
theorem yht {R : List (List Int) → Int → Prop} (hD : DOk n es d) (hd : d.length = n) (h : R (sysF n es d) 0) : ycH (n : Int) es d R := by
  have G := hD.G
  have hE := G.E
  have hn : 1 ≤ n ∧ n ≤ 5 := ⟨G.n1, G.n5⟩
  have hel := G.el
  have h5 := hD.d5
  have hgiv := G.giv hd fun v hv => by have := hD.b v hv; omega
  unfold ycH
  refine ⟨.inl (G.small fun v hv => by have := hD.b v hv; omega), by omega, fun q => absurd hgiv q, fun _ r s hr hrl hsl => ?_⟩
  have e0 : (0 : Int).toNat = 0 := rfl
  simp only [Int.toNat_natCast, e0] at hr hrl hsl ⊢
  have heq : Eqv n es d r := ⟨gi s, hr.lp⟩
  refine ⟨fun _ => ycL (by omega) (by omega) ⟨fun hp => ?_, fun hp => ?_⟩, fun q => absurd trivial q⟩
  · have hP := (ydF hrl).1 hp
    have hdr : dg r = dg d := heq.dg hd hP.len
    unfold ybK
    refine ⟨by omega, ycU r, KOk.nil 12, ygP (yfT hP) (by omega), ?_⟩
    refine ⟨fun q v Q M => ∃ k : Nat, q = 3000 - k ∧ v = (k : Int) ∧ k ≤ Q.length ∧ Inv n es d M Q ∧ r ∈ Q ∧ ∀ j, j < k → ∀ m, 1 ≤ m → m < 2 ^ n - 1 → Pos n (firM n es (gx Q j) m) → firM n es (gx Q j) m ∈ Q, ⟨3000, 0, rfl, rfl, by omega, Inv.start hn.2 hd h5 hP heq, by simp, fun j hj => absurd hj (by omega)⟩, ?_⟩
    rintro q _ Q M ⟨k, rfl, rfl, hk, I, hrQ, hall⟩
    have hlen := I.len hn.1 hn.2 hd h5
    refine ⟨fun hlt => ⟨fun _ => by omega, fun _ => ⟨by omega, ?_⟩⟩, fun hge => ?_⟩
    · rw [Int.toNat_natCast]
      have hkl : k < Q.length := by omega
      refine p_system_steps hE (by omega) hn hd h5 I (List.mem_of_getElem? (yfn hkl)) fun M' Q' I' hp2 hm2 => ⟨i64 (by omega), 3000 - (k + 1), by omega, k + 1, rfl, by omega, ?_, I', hp2.subset hrQ, fun j hj m h1 h2 h3 => ?_⟩
      · have := hp2.length_le; omega
      · have hgj : gx Q' j = gx Q j := by
          obtain ⟨t, rfl⟩ := hp2
          have hj2 : j < Q.length := by omega
          rw [yfv (by rw [List.length_append]; omega), yfv hj2, List.getElem_append_left hj2]
        rw [hgj] at h3 ⊢
        by_cases e : j = k
        · subst e; exact hm2 m h1 h2 h3
        · exact hp2.subset (hall j (by omega) m h1 h2 h3)
    · refine yex (by omega) (fun x hx => by have := (I.mem x hx).1.len; omega) I.nd fun z hz hzm => ?_
      have e := sysF_eq hE hn.1 hd hrQ hP heq I.mem (fun y m hy h1 h2 h3 => by
        obtain ⟨j, hj⟩ := List.mem_iff_getElem?.1 hy
        have hjl := (List.getElem?_eq_some_iff.1 hj).1
        rw [yfn hjl] at hj
        cases hj
        exact hall j (by omega) m h1 h2 h3) hz hzm
      rw [e]; exact h
  · have : sysF n es d = [] := by
      rw [List.eq_nil_iff_forall_not_mem]
      intro x hx
      obtain ⟨h1, s', h2⟩ := (yc0 hn.1 hd).1 hx
      have hw : Win n es d := ⟨s', fun v hv => by rw [← h2 v hv]; exact h1.pos v hv⟩
      have h0 := (win_red hE (by omega) hr.red hr.lp).1 hw
      refine hp ((ydF hrl).2 ⟨hrl, fun v hv => ?_⟩)
      by_cases e : v = 0
      · subst e; exact h0
      · exact hr.pos v hv e
    rw [this] at h; exact h
end
end Go.Proofs.YtncilechkclmbaaGreat

/- What the functions of package system and their references come to. -/
namespace Go.Proofs.YtncilechkclmbaaGreat
open Go Go.Proofs.Tryz
set_option linter.unusedVariables false
set_option linter.unusedSimpArgs false
theorem ye9 {n : Int} {es : List E3} {l : List (List Int)} {R : Int → Prop} (hl : es.length ≤ 1000) (hll : l.length ≤ 1000) (h : R (givL n es l)) : ycc n es l R := yjH hl hll h
theorem yhi {n : Nat} {es : List E3} {d : List Int} (hD : DOk n es d) : (sysF n es d).length ≤ 2401 := sys_len hD.G.n1 hD.G.n5 hD.d5
theorem yho {n : Nat} {es : List E3} {d x : List Int} (hD : DOk n es d) (hd : d.length = n) (hx : x ∈ sysF n es d) : Pos n x ∧ Eqv n es d x := (yc0 hD.G.n1 hd).1 hx
def leB (e x : List Int) : Bool := decide (∀ v, v < x.length → gi e v ≤ gi x v)
theorem find_at {l : List (List Int)} {p : List Int → Bool} {k : Nat} (hk : k < l.length) (h1 : p (gx l k) = true) (h2 : ∀ j, j < k → p (gx l j) = false) : l.find? p = some (gx l k) := by
  rw [List.find?_eq_some_iff_getElem]
  exact ⟨h1, k, hk, (yfv hk).symm, fun j hj => by rw [← yfv, h2 j hj]; rfl⟩
theorem find_no {l : List (List Int)} {p : List Int → Bool} (h : ∀ x ∈ l, p x = false) : l.find? p = none := by
  rw [List.find?_eq_none]
  exact fun x hx q => by rw [h x hx] at q; cases q
theorem yhf {s : List (List Int)} {F : List Int → (Bool → Prop) → Prop} {p : List Int → Bool} {R : Int → Prop} (hl : s.length ≤ 1000000000) (hF : ∀ x (R' : Bool → Prop), x ∈ s → R' (p x) → F x R') (h1 : (∀ x ∈ s, p x = false) → R (-1)) (h2 : ∀ k : Nat, k < s.length → p (gx s k) = true → (∀ j, j < k → p (gx s j) = false) → R (k : Int)) : yaX s F R := by
  unfold yaX
  have hm : ∀ k, k < s.length → gx s k ∈ s := fun k hk => List.mem_of_getElem? (yfn hk)
  refine ⟨Cnt s.length (fun k => ∀ j, j < k → p (gx s j) = false), Cnt.start (fun j hj => absurd hj (by omega)), ?_⟩
  rintro m _ ⟨k, rfl, rfl, hk, hinv⟩
  simp only [Int.toNat_natCast]
  refine ⟨fun hlt => ⟨by omega, hF _ _ (hm k (by omega)) ⟨fun h => ?_, fun h => Cnt.next (by omega) (by omega) fun j hj => ?_⟩⟩, fun hge => ?_⟩
  · exact h2 k (by omega) h hinv
  · by_cases e : j = k
    · subst e; simpa using h
    · exact hinv j (by omega)
  · refine h1 fun x hx => ?_
    obtain ⟨j, hj⟩ := List.getElem?_of_mem hx
    have hjl := (List.getElem?_eq_some_iff.1 hj).1
    have := hinv j (by omega)
    rw [yfn hjl] at hj
    cases hj
    exact this
theorem p_system_Above {n : Int} {es : List E3} {d e : List Int} {R : List Int → Bool → Int → Prop} (hl : es.length ≤ 1000) (h0 : givL n es [d, e] ≠ 0 → R [] false (givL n es [d, e])) (h1 : givL n es [d, e] = 0 → posB e = false → R [] false 15)
    (h2 : givL n es [d, e] = 0 → posB e = true → DOk n.toNat es d ∧ (∀ x, (sysF n.toNat es d).find? (leB e) = some x → R x true 0) ∧ ((sysF n.toNat es d).find? (leB e) = none → R [] false 0)) : yg9 n es d e R := by
  unfold yg9
  refine ye9 hl (by simp) ⟨fun hg => ?_, fun hg => h0 hg⟩
  have hgg : yb2 n es = 0 ∧ yaJ d n = 0 ∧ yaJ e n = 0 := by
    unfold givL errL errL errL at hg
    by_cases q : yb2 n es = 0
    · rw [if_pos q] at hg
      by_cases q2 : yaJ d n = 0
      · rw [if_pos q2] at hg
        by_cases q3 : yaJ e n = 0
        · exact ⟨q, q2, q3⟩
        · rw [if_neg q3] at hg; exact absurd hg q3
      · rw [if_neg q2] at hg; exact absurd hg q2
    · rw [if_neg q] at hg; exact absurd hg q
  have hgd : yaD n es 0 d = 0 := by rw [given0, if_pos hgg.1]; exact hgg.2.1
  have hge : yaD n es 0 e = 0 := by rw [given0, if_pos hgg.1]; exact hgg.2.2
  have hn := yb7 hge
  obtain ⟨m, rfl⟩ : ∃ m : Nat, n = (m : Int) := ⟨n.toNat, by omega⟩
  obtain ⟨-, -, hn12, -, -, -, hel, -⟩ := ydT (q := 0) hge
  refine ycL (by omega) (by omega) ⟨fun hp => ?_, fun hp => h1 hg (by simpa using hp)⟩
  obtain ⟨hD, h3, h4⟩ := h2 hg hp
  obtain ⟨N, e1, hd⟩ := ygO hgd hD
  have e1 : m = N + 1 := by omega
  subst e1
  rw [Int.toNat_natCast] at *
  have hlen := yhi hD
  refine yht hD hd ⟨fun _ => ?_, fun q => absurd rfl q⟩
  refine yhf (p := leB e) (by omega) (fun x R' hx hR' => ?_) (fun hall => ⟨fun _ => h4 (find_no hall), fun q => absurd (by omega) q⟩) fun k hk hp1 hp2 => ⟨fun q => absurd q (by omega), fun _ => ⟨by omega, ?_⟩⟩
  · have hxl := (yho hD hd hx).1.len
    unfold yhb
    refine ⟨Cnt x.length (fun k => ∀ j, j < k → gi e j ≤ gi x j), Cnt.start (fun j hj => absurd hj (by omega)), ?_⟩
    rintro q _ ⟨k, rfl, rfl, hk, hinv⟩
    rw [Int.toNat_natCast]
    refine ⟨fun hlt => ⟨by omega, by omega, fun hb => ?_, fun hb => Cnt.next (by omega) (by omega) fun j hj => ?_⟩, fun hge => ?_⟩
    · unfold leB at hR'; rw [decide_eq_false fun q => by have := q k (by omega); omega] at hR'; exact hR'
    · by_cases e : j = k
      · subst e; omega
      · exact hinv j (by omega)
    · unfold leB at hR'; rw [decide_eq_true fun v hv => hinv v (by omega)] at hR'; exact hR'
  · rw [Int.toNat_natCast]
    exact h3 _ (find_at hk hp1 hp2)
end Go.Proofs.YtncilechkclmbaaGreat

/- yju, and what the references of package system come to. -/
namespace Go.Proofs.YtncilechkclmbaaGreat
open Go Go.Proofs.Tryz
set_option linter.unusedVariables false
set_option linter.unusedSimpArgs false
def StepTo (n : Nat) (es : List E3) (d y : List Int) (k : Nat) : Prop := ∃ m, 1 ≤ m ∧ m < k ∧ Pos n (firM n es d m) ∧ y = firM n es d m
section
variable {n : Nat} {es : List E3} {d : List Int}
end
def StepsL (n : Nat) (es : List E3) (d : List Int) (z : List (List Int)) : Prop := Asc z ∧ ∀ y, y ∈ z ↔ StepTo n es d y (2 ^ n - 1)
theorem StepsL.eq {n : Nat} {es : List E3} {d : List Int} {z z' : List (List Int)} (h : StepsL n es d z) (h' : StepsL n es d z') : z = z' := Asc.eq h.1 h'.1 fun y => by rw [h.2, h'.2]
end Go.Proofs.YtncilechkclmbaaGreat

/- The references of package system: the system, what is above, the steps. -/
namespace Go.Proofs.YtncilechkclmbaaGreat
open Go Go.Proofs.Tryz
set_option linter.unusedVariables false
set_option linter.unusedSimpArgs false
section
variable {N : Nat} {es : List E3} {d : List Int}
open Classical in
end
end Go.Proofs.YtncilechkclmbaaGreat

/- Pure forms of functions, made by program (pf.py), each with the proof that the code does so. -/
namespace Go.Proofs.YtncilechkclmbaaGreat
open Go Go.RowKit Go.Shelf Go.Proofs.Tryz
set_option linter.unusedVariables false
set_option maxRecDepth 100000
set_option maxHeartbeats 1000000
end Go.Proofs.YtncilechkclmbaaGreat

/- Laws of layer 37: the examples, what is right, and the four laws against the reference. -/
namespace Go.Proofs.YtncilechkclmbaaGreat
open Go Go.Proofs.Tryz
set_option linter.unusedVariables false
set_option linter.unusedSimpArgs false
end Go.Proofs.YtncilechkclmbaaGreat

/- Laws of layer 37: Lists, Points, yju, Covers. -/
namespace Go.Proofs.YtncilechkclmbaaGreat
open Go Go.Proofs.Tryz
set_option linter.unusedVariables false
set_option linter.unusedSimpArgs false
structure RtOk (n : Int) (es : List E3) (most : Int) (d : List Int) : Prop where
  j : yb2 n es = 0
  c : yaJ d n = 0
  f : FewOk n es d most
theorem RtOk.giv {n most : Int} {es : List E3} {d : List Int} (h : RtOk n es most d) : yaD n es 0 d = 0 := by rw [given0, if_pos h.j, h.c]
theorem bool_ofL (p : List Int → Prop) : ∃ f : List Int → Bool, ∀ d, f d = true ↔ p d := ⟨fun v => @decide (p v) (Classical.propDecidable _), fun v => by simp⟩
theorem RtOk.nat {n : Nat} {most : Int} {es : List E3} {d : List Int} (h : RtOk n es most d) (hm : most ≤ 5) : DOk n es d ∧ yaD n es 0 d = 0 ∧ d.length = n ∧ dg d ≤ most ∧ ∀ v, v < n → -100 ≤ gi d v ∧ gi d v ≤ 100 := by
  have hg := h.giv
  have hD := h.f.dok hm hg
  rw [Int.toNat_natCast] at hD
  have h4 := ydT (q := 0) hg
  have hlo := (yeZ.1 (h.f.g hg).1).2 h.c
  exact ⟨hD, hg, h4.2.2.2.2.2.2.1, (h.f.g hg).2, fun v hv => hlo v (by have := h4.2.2.2.2.2.2.1; omega)⟩
theorem RtOk.int {n most : Int} {es : List E3} {d : List Int} (h : RtOk n es most d) : ∃ n' : Nat, n = (n' : Int) := ⟨n.toNat, by have := yb7 h.giv; omega⟩
end Go.Proofs.YtncilechkclmbaaGreat

/- Laws of layer 37: Connects, Reaches, Adds, Agrees. -/
namespace Go.Proofs.YtncilechkclmbaaGreat
open Go Go.Proofs.Tryz
set_option linter.unusedVariables false
set_option linter.unusedSimpArgs false
end Go.Proofs.YtncilechkclmbaaGreat

/- Pure forms of functions, made by program (pf.py), each with the proof that the code does so. -/
namespace Go.Proofs.YtncilechkclmbaaGreat
open Go Go.RowKit Go.Shelf Go.Proofs.Tryz
set_option linter.unusedVariables false
set_option maxRecDepth 100000
set_option maxHeartbeats 1000000
def yjs (d : List Int) (R : Prop) : Prop :=
R
theorem pok_chips_from {O : Nat → Prop} {w : World} {d Ad ld cd} {R : Prop} (h : yjs d R) (hO : ∀ k, O k → k < w.heap.size) (hA0 : (FP.sl cI Ad ld cd d).P O w) :
    Calls Tryz.prog 102 #[(.slice Ad ld cd)] w fun e w' => ∃ gr, e = .returned (.func (Fn.func 162) #[] #[(.pointer (some (⟨gr, 0, none⟩ : Addr)))]) ∧ Sep w no O w' (rl [Res.box 26 gr [(.slice Ad ld cd)]]) ∧ R := by
  unfold yjs at h; have hS : Sep w no O w (rl [Res.ro (FP.sl cI Ad ld cd d)]) := Sep.startl hO [(FP.sl cI Ad ld cd d)] ⟨hA0, trivial⟩; refine yan (l := [(.slice Ad ld cd)]) func102 rfl ntmps102 (Nat.le_of_ble_eq_true rfl) (zs (zn (yb6 (v := (.slice Ad ld cd)) rfl ?_))); intro g w2 hN; replace hS : Sep w no O w2 (stl _ 1 (Res.box 26 g [(.slice Ad ld cd)])) := hS.new 1 rfl hN; clear hN; exact zb (zq (za Value.nilFunc) (yaa (zs (zq (yfd (am0) (am1 rfl)) (zq (za (.func (Fn.func 162) #[] #[(.pointer (some (⟨g, 0, none⟩ : Addr)))])) (yaa (yah rfl rfl ⟨_, rfl, (hS.sel [1] (by decide)), h⟩)))))))
def yi5 (cap : List Int) (Pr R : List (List Int) → Prop) : Prop :=
(∃ I2 : Nat → (List (List Int)) → Bool → (List Int) → Prop, (∃ m0, I2 m0 ([]) true cap) ∧ ∀ m2 pre2 more v, I2 m2 pre2 more v → 
((more = true →
yaM v (fun r =>
(Pr (pre2 ++ [r]) ∧
(yjd v (fun r2 y =>
∃ m3, m3 < m2 ∧ I2 m3 (pre2 ++ [r]) r2 y) ∧
True)))) ∧
(¬ (more = true) →
R pre2)))
theorem yjV {w : World} {T0 G0 : BS} {cap gc Acap lcap ccap} {Pr R : List (List Int) → Prop} (h : yi5 cap Pr R) (hS0 : Sep w G0 T0 w (rl [Res.box 26 gc [(Value.slice Acap lcap ccap)], Res.own cI 3 Acap lcap ccap cap])) :
    yj1 Tryz.prog 162 #[(.pointer (some (⟨gc, 0, none⟩ : Addr)))] (fun (x : List Int) (b : (Option Addr × Nat × Nat)) => #[(.slice b.1 b.2.1 b.2.2)]) (fun (x : List Int) (b : (Option Addr × Nat × Nat)) => (FP.sl cI b.1 b.2.1 b.2.2 x)) Pr R T0 G0 w := by
  unfold yi5 at h; intro l J Jx T1 w1 hs hJ hp hT; obtain ⟨G, hJ, hS⟩ := gen_startP hS0 hs hJ hp hT; clear hS0 hp hT; refine yjY (l := [(.func (.yield l) #[] #[]), (.pointer (some (⟨gc, 0, none⟩ : Addr)))]) func162 rfl ntmps162 (Nat.le_of_ble_eq_true rfl) rfl (zs (zq (za (.bool (true))) (yaa (yak ?_)))); obtain ⟨I2, ⟨m0, h0⟩, hr⟩ := h; refine yaO (fun m E ds w' => ∃ pre2 more v, ∃ T2 : BS, ∃ G2 : BS, ∃ wb2 : World, ∃ Av lv cv, I2 m pre2 more v ∧ ds = [] ∧ E 0 = (Value.func (.yield l) #[] #[]) ∧ E 1 = (Value.pointer (some (⟨gc, 0, none⟩ : Addr))) ∧ E 3 = (Value.bool (more)) ∧ J T2 G2 pre2 wb2 ∧ Sep wb2 G2 T2 w' (rl [Res.box 26 gc [(.slice Av lv cv)], Res.own cI 3 Av lv cv v])) m0 ⟨_, _, _, _, _, _, _, _, _, h0, rfl, rfl, rfl, rfl, hJ, (hS.sel [0, 1] (by decide))⟩ ?_; clear h0 hS hJ; rintro m2 E ds w2 ⟨pre2, more, v, T2, G2, wb2, Av, lv, cv, h, rfl, hE0, hE1, hE3, hJ, hS⟩ again; replace h := hr m2 pre2 more v h; clear hr; refine yaf (zs (zq (yae hE3) (yaa ?_))); by_cases hp : more = true
  · replace h := h.1 hp; refine yaq (congrArg Value.bool hp) (yag (yaf (yak (zs (zq (yae hE0) (zq (yaA hE1 underlying26 rfl (Row.cell (hS.bx 0 rfl) (i := 0) rfl)) (zn (yal rfl (am1 rfl) enter_17 ((ycB h (yaN _) (hS.rdo 1 rfl)).mono ?_))))))))); rintro _ w3 ⟨r, Ar, lr, cr, rfl, hC, h⟩; replace hS := hS.call1 (hC.widen (yea (ybl (fI .i64) _ _ _ _ _) ye0) hS.blt) 2 0 rfl; clear hC; refine ⟨_, rfl, ?_⟩; refine zb ?_; replace hS := hS.frz 2 rfl; obtain ⟨hPr, hyes, hno⟩ := h; refine zn (n_yield (m := 1) rfl (am1 rfl) (gen_yieldP (x := r) (b := (Ar, lr, cr)) hs hJ hS hPr (hS.ro 2 rfl) ?_ ?_))
    · clear hno hJ hS; have h := hyes; clear hyes; intro T3 w4 hJ hS; generalize OwnB _ = G3 at hJ hS; refine ⟨_, rfl, ?_⟩; refine zb (zq (ydn rfl) (yaa (yax (congrArg Value.bool (congrArg Bool.not rfl)) (yag (yai (zr (zq (yaA hE1 underlying26 rfl (Row.cell (hS.bx 0 rfl) (i := 0) rfl)) ?_))))))); have hB := hS.lend (asc [(1, 0)]) [1] (by decide) ⟨.inl (ycu rfl), trivial⟩; refine zn (yeH (vs := #[(.slice Av lv cv)]) (us := #[]) rfl (am1 rfl) enter_163 ((ybp (by simp) (yjR h hB)).mono ?_)); rintro _ w5 ⟨r2, y, rfl, hC, h⟩; replace hS := hS.back (asc [(1, 0)]) (yfu (by decide)) hC; clear hC hB; refine ⟨_, rfl, ?_⟩; refine zb (zq (za (.bool (r2))) (yaa ?_)); obtain ⟨mq, hlt, h⟩ := h; exact again mq _ _ _ ⟨_, _, _, _, _, _, _, _, _, h, rfl, hE0, hE1, rfl, hJ, (hS.sel [0, 1] (by decide))⟩ hlt
    · clear hyes hJ hS; have h := hno; clear hno; intro T4 w6 hJ hS; generalize OwnB _ = G4 at hJ hS; refine ⟨_, rfl, ?_⟩; exact zb (zq (ydn rfl) (yaa (yaq (congrArg Value.bool (congrArg Bool.not rfl)) (wt_ret0 rfl ⟨⟨_, rfl⟩, gen_endxP hs hJ hS⟩))))
  · replace h := h.2 hp; exact yax (congrArg Value.bool (Bool.eq_false_iff.2 hp)) (yaH rfl (yew rfl ⟨⟨_, rfl⟩, gen_endP hs hJ hS h⟩))
def yiX (s : List (List Int)) (seq : List Int) (R : (List (List Int)) → Prop) : Prop :=
(∃ Pr Rr : List (List Int) → Prop, yi5 seq Pr Rr ∧
(∃ I2 : List (List Int) → (List (List Int)) → Prop, I2 [] s ∧
(∀ pre y s2, I2 pre s2 → Pr (pre ++ [y]) →
(s2.length + 1 ≤ 1000000000 ∧
I2 (pre ++ [y]) (s2 ++ [y]))) ∧
(∀ ys s2, I2 ys s2 → Rr ys →
R s2)))
theorem yi8 {S O : Nat → Prop} {w : World} {s seq As ls cs gc Aseq lseq cseq} {R : (List (List Int)) → Prop} (h : yiX s seq R) (hS : Sep w S O w (rl [Res.own (cL cI) 26 As ls cs s, Res.box 26 gc [(Value.slice Aseq lseq cseq)], Res.own cI 3 Aseq lseq cseq seq])) :
    Calls Tryz.prog 161 #[(.slice As ls cs), (.func (Fn.func 162) #[] #[(.pointer (some (⟨gc, 0, none⟩ : Addr)))])] w fun e w' => ∃ r Ar lr cr, e = .returned (.slice Ar lr cr) ∧ Sep w S O w' (rl [Res.own (cL cI) 26 Ar lr cr r]) ∧ R r := by
  unfold yiX at h; refine yjK (l := [(.slice As ls cs), (.func (Fn.func 162) #[] #[(.pointer (some (⟨gc, 0, none⟩ : Addr)))])]) func161 rfl ntmps161 (Nat.le_of_ble_eq_true rfl) (zs (zn (yb6 (v := (.slice As ls cs)) rfl ?_))); intro g w2 hN; replace hS : Sep w S O w2 (stl _ 3 (Res.box 44 g [(.slice As ls cs)])) := hS.new 3 rfl hN; clear hN; refine zb (zq (za (.slice none 0 0)) (yaa (yaf (zs (zq (zm (.func (Fn.func 162) #[] #[(.pointer (some (⟨gc, 0, none⟩ : Addr)))])) (yaa (yak ?_))))))); obtain ⟨Pr, Rr, hgp, I2, h0, hb, h⟩ := h; refine wt_iterSP hS [3, 0] [1, 2] (by decide) (by decide) ⟨.inl (by decide), .inl (by decide), trivial⟩ rfl enter_162 (val := (fun (x : List Int) (b : (Option Addr × Nat × Nat)) => #[(.slice b.1 b.2.1 b.2.2)])) (pass := (fun (x : List Int) (b : (Option Addr × Nat × Nat)) => (FP.sl cI b.1 b.2.1 b.2.2 x))) (Pr := Pr) (R := Rr) (fun _ _ => rfl) rfl (fun pr LL => ∃ s2 As2 ls2 cs2, I2 pr s2 ∧ LL = [Res.box 44 g [(.slice As2 ls2 cs2)], Res.own (cL cI) 26 As2 ls2 cs2 s2]) (fun _ _ _ => False) ⟨_, _, _, _, h0, rfl⟩ (fun T G hG => yjV hgp hG) ?_ ?_ (fun _ _ _ _ _ hx => hx.elim)
  · clear h h0 hS hgp; rintro ll rdy busy S O2 pre y ⟨A, l, c⟩ w3 _ ⟨s2, As2, ls2, cs2, hI, rfl⟩ hPr hpass hS; have h := hb pre y s2 hI hPr; clear hb hI hPr; replace hS := hS.addro 3 rfl _ hpass; clear hpass; refine ya5 (yeU ll) (zq (za (.slice A l c)) (yaa (yjL fun a ra => ⟨rfl, _, _, ra, hS, ⟨2, rfl⟩, ?_⟩))); intro w5 hw; replace hS := hS.flip 2 rfl busy hw; clear hw ra a; refine yak (ya5 (yeU ll) (zq (zl underlying44 (Row.cell (hS.bx 0 rfl) (i := 0) rfl)) (zq (zm (.slice A l c)) (zn (yaR (l := [(0, (.slice A l c))]) (cells := [(.slice A l c)]) (bp1 rfl) underlying44 ya0 rfl rfl ?_))))); intro g2 w6 hN; replace hS := hS.lit (n := 1) (c := (cL cI)) 4 rfl hN ([y] : List (List Int)) rfl (by decide) ⟨[(.slice A l c)], _, rfl, (ro_R (hS.ro 3 rfl)), rfl⟩; clear hN; refine zb ?_; obtain ⟨hx, h⟩ := h; refine zn (n_app (c := (cL cI)) rfl rfl underlying44 underlying44 ya0 rfl rfl (by decide) hS 1 rfl (hS.yo 4 rfl) hx ?_); clear hS; intro A2 c2 w7 hS; refine zb (zo (zt (.slice A2 (ls2 + 1) c2) yd7 (hS.bwr 0 rfl (j := 0) rfl) ?_)); intro w8 e1; replace hS := hS.bst 0 rfl 0 (.slice A2 (ls2 + 1) c2) e1; clear e1; exact zb (yaa (yai (yjL fun a r => ⟨_, ⟨_, _, _, _, h, rfl⟩, (hS.sel [0, 1, 2] (by decide))⟩)))
  · clear hb h0 hS hgp; rintro D ys w4 _ hRr ⟨s2, As2, ls2, cs2, hI, rfl⟩ hS; replace h := h ys s2 hI hRr; clear hI hRr; exact yai (zs (zq (zl underlying44 (Row.cell (hS.bx 0 rfl) (i := 0) rfl)) (zq (za (.slice As2 ls2 cs2)) (yaa (wt_retk1 (rs := [D]) (by simp) (hS.marked 2 rfl) rfl rfl (fun w9 hk => ⟨_, _, _, _, rfl, (hS.unmark [2] [1] (by decide) (by decide) (ykd 2 rfl) hk), h⟩))))))
def yi1 (seq : List Int) (R : (List (List Int)) → Prop) : Prop :=
yiX ([]) seq (fun r =>
R r)
theorem yjo {S O : Nat → Prop} {w : World} {seq gc Aseq lseq cseq} {R : (List (List Int)) → Prop} (h : yi1 seq R) (hS : Sep w S O w (rl [Res.box 26 gc [(Value.slice Aseq lseq cseq)], Res.own cI 3 Aseq lseq cseq seq])) :
    Calls Tryz.prog 101 #[(.func (Fn.func 162) #[] #[(.pointer (some (⟨gc, 0, none⟩ : Addr)))])] w fun e w' => ∃ r2 Ar2 lr2 cr2, e = .returned (.slice Ar2 lr2 cr2) ∧ Sep w S O w' (rl [Res.own (cL cI) 26 Ar2 lr2 cr2 r2]) ∧ R r2 := by
  unfold yi1 at h; refine yan (l := [(.func (Fn.func 162) #[] #[(.pointer (some (⟨gc, 0, none⟩ : Addr)))])]) func101 rfl ntmps101 (Nat.le_of_ble_eq_true rfl) (zs (zq (za (.slice none 0 0)) (yaa (zs (zq (zm (.func (Fn.func 162) #[] #[(.pointer (some (⟨gc, 0, none⟩ : Addr)))])) ?_))))); replace hS := hS.nil 2 rfl (cL cI) 26; have hB := hS.lend (asc [(3, 0), (2, 20), (0, 21), (1, 22)]) [2, 0, 1] (by decide) ⟨.inl (ycu rfl), .inl (ycu rfl), .inl (ycu rfl), trivial⟩; refine zn (yeH (vs := #[(.slice none 0 0), (.func (Fn.func 162) #[] #[(.pointer (some (⟨gc, 0, none⟩ : Addr)))])]) (us := #[]) rfl (am2 rfl rfl) enter_161 ((ybp (by simp) (yi8 h hB)).mono ?_)); rintro _ w2 ⟨r, Ar, lr, cr, rfl, hC, h⟩; replace hS := hS.back (asc [(3, 0), (2, 20), (0, 21), (1, 22)]) (yfu (by decide)) hC; clear hC hB; refine ⟨_, rfl, ?_⟩; exact zb (zq (za (.slice Ar lr cr)) (yaa (yah rfl rfl ⟨_, _, _, _, rfl, (hS.sel [3] (by decide)), h⟩)))
def yjn (n : Int) (k : Int) (R : (List (List Int)) → Int → Prop) : Prop :=
yci n (fun r =>
((r = 0 →
(∃ J2 : Prop, (J2 → (∃ I2 : Nat → Int → Int → Prop, (∃ m0, I2 m0 1 1) ∧ ∀ m2 count i, I2 m2 count i → 
((i < n →
(In64 (k + i) ∧
(In64 (count * (k + i)) ∧
(i ≠ 0 ∧
In64 ((count * (k + i)).tdiv i) ∧
((16384 < ((count * (k + i)).tdiv i) →
R ([]) 12) ∧
(¬ (16384 < ((count * (k + i)).tdiv i)) →
(In64 (i + 1) ∧
∃ m3, m3 < m2 ∧ I2 m3 ((count * (k + i)).tdiv i) (i + 1)))))))) ∧
(¬ (i < n) →
((0 ≤ n ∧ n ≤ 1000000) ∧
(In64 (n - 1) ∧
((0 ≤ (n - 1) ∧ (n - 1) < (((List.replicate n.toNat (0 : Int)).length : Nat) : Int)) ∧
yjs ((List.replicate n.toNat (0 : Int)).set (n - 1).toNat k) (yi1 ((List.replicate n.toNat (0 : Int)).set (n - 1).toNat k) (fun r2 =>
R r2 0))))))))) ∧
((k < 0 →
R ([]) 2) ∧
(¬ (k < 0) →
((1048576 < k →
R ([]) 2) ∧
(¬ (1048576 < k) →
J2)))))) ∧
(¬ (r = 0) →
R ([]) r)))
theorem pok_chips_All {O : Nat → Prop} {w : World} {n k} {R : (List (List Int)) → Int → Prop} (h : yjn n k R) (hO : ∀ k, O k → k < w.heap.size) :
    Calls Tryz.prog 39 #[(ii n), (ii k)] w fun e w' => ∃ r3 r4 Ar2 lr2 cr2, e = .returned (.tuple #[(.slice Ar2 lr2 cr2), (ii r4)]) ∧ Sep w no O w' (rl [Res.own (cL cI) 26 Ar2 lr2 cr2 r3]) ∧ R r3 r4 := by
  unfold yjn at h; have hS : Sep w no O w (rl []) := Sep.start w hO; refine yan (l := [(ii n), (ii k)]) func39 rfl ntmps39 (Nat.le_of_ble_eq_true rfl) (zs (zq (za (.slice none 0 0)) (zq (za (ii 0)) (yaa (yaf (zs (zq (zm (ii n)) (zn (yal rfl (am1 rfl) enter_100 ((yfC h (yaN _)).mono ?_)))))))))); rintro _ w2 ⟨r, rfl, hC, h⟩; replace hS := hS.pur hC.pure; clear hC; refine ⟨_, rfl, ?_⟩; refine zb (zq (za (ii r)) (yaa (zs (zq (zm (ii r)) (zq zN (yaa ?_)))))); by_cases hp : r = 0
  · replace h := h.1 hp; refine ze hp (yag (yaf (yaf ?_))); obtain ⟨J2, hJ, h⟩ := h; refine ycZ (fun E ds w' => J2 ∧ ds = [] ∧ E 0 = (ii n) ∧ E 1 = (ii k) ∧ Sep w no O w' (rl [])) ?_ ?_
    · clear h hS; rintro E ds w3 ⟨h, rfl, hE0, hE1, hS⟩; replace h := hJ h; refine zs (zq (za (ii 1)) (yaa (yaf (zs (zq (za (ii 1)) (yaa (yak ?_))))))); obtain ⟨I2, ⟨m0, h0⟩, hr⟩ := h; refine yaO (fun m E ds w' => ∃ count i, I2 m count i ∧ ds = [] ∧ E 0 = (ii n) ∧ E 1 = (ii k) ∧ E 7 = (ii count) ∧ E 8 = (ii i) ∧ Sep w no O w' (rl [])) m0 ⟨_, _, h0, rfl, hE0, hE1, rfl, rfl, (hS.sel [] (by decide))⟩ ?_; clear h0 hS; rintro m2 E ds w4 ⟨count, i, h, rfl, hE0, hE1, hE7, hE8, hS⟩ again; replace h := hr m2 count i h; clear hr; refine yaf (zs (zq (yae hE8) (zq (yae hE0) (zq zL (yaa ?_))))); by_cases hp2 : i < n
      · replace h := h.1 hp2; refine zc hp2 (yag (yaf (yak (zs (zq (yae hE7) (zq (yae hE1) (zq (yae hE8) ?_))))))); obtain ⟨hi, h⟩ := h; refine zq (zA hi) ?_; obtain ⟨hi2, h⟩ := h; refine zq (v_mul rfl rfl hi2) (zq (yae hE8) ?_); obtain ⟨hz, h⟩ := h; obtain ⟨hi3, h⟩ := h; refine zq (v_quo rfl rfl hz hi3) (zq (za (ii ((count * (k + i)).tdiv i))) (yaa (zs (zq (zm (ii ((count * (k + i)).tdiv i))) (zq zG (yaa ?_)))))); by_cases hp3 : 16384 < ((count * (k + i)).tdiv i)
        · replace h := h.1 hp3; refine zc hp3 (zs (zq (za (.slice none 0 0)) (zq (za (ii 12)) (yaa ?_)))); replace hS := hS.nil 0 rfl (cL cI) 26; exact ybF rfl rfl rfl ⟨_, _, _, _, _, rfl, (hS.sel [0] (by decide)), h⟩
        · replace h := h.2 hp3; refine zd hp3 (yag (yai (zr (zq (yae hE8) ?_)))); obtain ⟨hi4, h⟩ := h; refine zq (zA hi4) (zq (za (ii (i + 1))) (yaa ?_)); obtain ⟨mq, hlt, h⟩ := h; exact again mq _ _ _ ⟨_, _, h, rfl, hE0, hE1, rfl, rfl, (hS.sel [] (by decide))⟩ hlt
      · replace h := h.2 hp2; refine zd hp2 (yaH rfl (zs (zq (yae hE0) ?_))); obtain ⟨hx, h⟩ := h; refine zn (yky rfl rfl underlying26 yaj (by decide) rfl hx ?_); intro g w5 hN; replace hS := hS.made 0 rfl cI (ii 0) (0 : Int) (fun _ _ => rfl) hN (by omega); clear hN; refine zb (zq (za (.slice (some ⟨g, 0, none⟩) n.toNat n.toNat)) (yaa (zs (zq (zm (.slice (some ⟨g, 0, none⟩) n.toNat n.toNat)) (zq (yae hE0) ?_))))); obtain ⟨hi5, h⟩ := h; refine zq (zS hi5) (zq (yae hE1) ?_); obtain ⟨hx2, h⟩ := h; refine zq (zi underlying26 yaj (ybh (hS.rdo 0 rfl) hx2)) (zo (zt (ii k) yaj (hS.wr 0 rfl rfl hx2) ?_)); intro w6 e1; replace hS := hS.st 0 rfl rfl hx2 (x := k) rfl e1; clear e1; refine zb (yaa (zs (zq (zm (.slice (some ⟨g, 0, none⟩) n.toNat n.toNat)) (zn (yal rfl (am1 rfl) enter_102 ((pok_chips_from h (yaN _) (hS.rdo 0 rfl)).mono ?_)))))); rintro _ w7 ⟨gc, rfl, hC, h⟩; replace hS := hS.call1 (hC.widen (yea (flat_box _ _ _) ye0) hS.blt) 1 0 rfl; clear hC; refine ⟨_, rfl, ?_⟩; refine zb ?_; have hB := hS.lend (asc [(2, 0), (1, 20), (0, 21)]) [1, 0] (by decide) ⟨.inl (ycu rfl), .inl (ycu rfl), trivial⟩; refine zn (yeH (vs := #[(.func (Fn.func 162) #[] #[(.pointer (some (⟨gc, 0, none⟩ : Addr)))])]) (us := #[]) rfl (am1 rfl) enter_101 ((ybp (by simp) (yjo h hB)).mono ?_)); rintro _ w8 ⟨r2, Ar, lr, cr, rfl, hC, h⟩; replace hS := hS.back (asc [(2, 0), (1, 20), (0, 21)]) (yfu (by decide)) hC; clear hC hB; refine ⟨_, rfl, ?_⟩; exact zb (zq (za (.slice Ar lr cr)) (zq (za (ii 0)) (yaa (ybF rfl rfl rfl ⟨_, _, _, _, _, rfl, (hS.sel [2] (by decide)), h⟩))))
    clear hJ; intro j; refine zr (zq (zm (ii k)) (zq zL (zq (zm (.bool (decide (k < 0)))) ?_))); by_cases hp4 : k < 0
    · replace h := h.1 hp4; refine rl_p (yab rfl (yac rfl (congrArg Value.bool (decide_eq_true hp4))) rfl) rfl (rl_p (yab rfl (yac rfl (congrArg Value.bool (decide_eq_true hp4))) rfl) rfl (zq (yao (v := (.bool (true))) (congrArg Value.bool (decide_eq_true hp4)) rfl) (yaa (yaq rfl (zs (zq (za (.slice none 0 0)) (zq (za (ii 2)) (yaa ?_)))))))); replace hS := hS.nil 0 rfl (cL cI) 26; exact ybF rfl rfl rfl ⟨_, _, _, _, _, rfl, (hS.sel [0] (by decide)), h⟩
    · replace h := h.2 hp4; refine rl_q (yad rfl (yac rfl (congrArg Value.bool (decide_eq_false hp4)))) rfl rfl (zm (ii k)) (rl_q (yad rfl (yac rfl (congrArg Value.bool (decide_eq_false hp4)))) rfl rfl zG (zq (yap (v := (.bool (decide (1048576 < k)))) (congrArg Value.bool (decide_eq_false hp4)) rfl) (yaa ?_))); by_cases hp5 : 1048576 < k
      · replace h := h.1 hp5; refine zc hp5 (zs (zq (za (.slice none 0 0)) (zq (za (ii 2)) (yaa ?_)))); replace hS := hS.nil 0 rfl (cL cI) 26; exact ybF rfl rfl rfl ⟨_, _, _, _, _, rfl, (hS.sel [0] (by decide)), h⟩
      · replace h := h.2 hp5; exact zd hp5 (yag (j _ _ _ ⟨h, rfl, rfl, rfl, (hS.sel [] (by decide))⟩))
  · replace h := h.2 hp; refine zf hp (zs (zq (zm (ii r)) (zq (za (.slice none 0 0)) (zq (za (ii r)) (yaa ?_))))); replace hS := hS.nil 0 rfl (cL cI) 26; exact ybF rfl rfl rfl ⟨_, _, _, _, _, rfl, (hS.sel [0] (by decide)), h⟩
def yjc (d : Int) (d2 : List E3) (i : List Int) (a : Int) (R : Bool → Prop) : Prop :=
((3 : Int) ≠ 0 ∧
(In64 (a.tmod 3) ∧
yjm d d2 4 ([i]) (fun r =>
((r = true →
yja d d2 i (a.tmod 3) (fun r2 r3 =>
((r3 = 0 →
yjn d (a.tmod 3) (fun r4 r5 =>
((r5 = 0 →
(∃ I2 : Nat → Bool → Int → Prop, (∃ m0, I2 m0 true 0) ∧ ∀ m2 v v2, I2 m2 v v2 → 
((v2 < ((r4.length : Nat) : Int) →
((0 ≤ v2 ∧ v2 < ((r4.length : Nat) : Int)) ∧
yg9 d d2 i (gx r4 v2.toNat) (fun r6 r7 r8 =>
((r8 = 0 →
((v = true →
(In64 (v2 + 1) ∧
∃ m3, m3 < m2 ∧ I2 m3 r7 (v2 + 1))) ∧
(¬ (v = true) →
(In64 (v2 + 1) ∧
∃ m4, m4 < m2 ∧ I2 m4 false (v2 + 1))))) ∧
(¬ (r8 = 0) →
R false))))) ∧
(¬ (v2 < ((r4.length : Nat) : Int)) →
(((v == r2) = true →
yji (fun r9 =>
R r9)) ∧
(¬ ((v == r2) = true) →
R false)))))) ∧
(¬ (r5 = 0) →
R false)))) ∧
(¬ (r3 = 0) →
R false)))) ∧
(¬ (r = true) →
yji (fun r10 =>
R r10))))))
theorem pok_l38_RankCovers {O : Nat → Prop} {w : World} {d d2 i a Ad ld cd Ai li ci} {R : Bool → Prop} (h : yjc d d2 i a R) (hO : ∀ k, O k → k < w.heap.size) (hA0 : (FP.sl c3 Ad ld cd d2).P O w) (hA1 : (FP.sl cI Ai li ci i).P O w) :
    Calls Tryz.prog 6 #[(.agg #[(ii d), (.slice Ad ld cd)]), (.slice Ai li ci), (.int .u8 a)] w fun e w' => ∃ r11, e = .returned (.bool (r11)) ∧ Sep w no O w' (rl []) ∧ R r11 := by
  unfold yjc at h; have hS : Sep w no O w (rl [Res.ro (FP.sl c3 Ad ld cd d2), Res.ro (FP.sl cI Ai li ci i)]) := Sep.startl hO [(FP.sl c3 Ad ld cd d2), (FP.sl cI Ai li ci i)] ⟨hA0, hA1, trivial⟩; refine yan (l := [(.agg #[(ii d), (.slice Ad ld cd)]), (.slice Ai li ci), (.int .u8 a)]) func6 rfl ntmps6 (Nat.le_of_ble_eq_true rfl) (zs (zn (yb6 (v := (.agg #[(ii d), (.slice Ad ld cd)])) rfl ?_))); intro g w2 hN; replace hS : Sep w no O w2 (stl _ 2 (Res.box 24 g [(ii d), (.slice Ad ld cd)])) := hS.new 2 rfl hN; clear hN; refine zb (zq (za (.bool (false))) (yaa (zs (zq (zm (.int .u8 a)) ?_)))); obtain ⟨hz, h⟩ := h; refine zq (v_remk rfl rfl hz) ?_; obtain ⟨hi, h⟩ := h; refine zq (v_conv rfl underlying5 underlying3 hi) (zq (za (ii (a.tmod 3))) (yaa (yaf (zs (zq (yav (vs := [(ii d), (.slice Ad ld cd)]) rfl underlying24 rfl yas ⟨Row.cell (hS.bx 2 rfl) (i := 0) rfl, Row.cell (hS.bx 2 rfl) (i := 1) rfl, trivial⟩) (zq (zm (.slice Ai li ci)) (zn (yaR (l := [(0, (.slice Ai li ci))]) (cells := [(.slice Ai li ci)]) (bp1 rfl) underlying44 ya0 rfl rfl ?_)))))))); intro g2 w3 hN; replace hS := hS.lit (n := 1) (c := (cL cI)) 3 rfl hN ([i] : List (List Int)) rfl (by decide) ⟨[(.slice Ai li ci)], _, rfl, (ro_R (hS.ro 1 rfl)), rfl⟩; clear hN; refine zb (zn (yal rfl (am3 rfl rfl rfl) enter_36 ((pok_l38_right h (yaN _) (hS.rdr 0 rfl) (hS.rdo 3 rfl)).mono ?_))); rintro _ w4 ⟨r, rfl, hC, h⟩; replace hS := hS.pur hC.pure; clear hC; refine ⟨_, rfl, ?_⟩; refine zb (zq (ydn rfl) (yaa ?_)); by_cases hp : r = true
  · replace h := h.1 hp; refine yax (congrArg Value.bool (congrArg Bool.not hp)) (yag (zs (zq (yav (vs := [(ii d), (.slice Ad ld cd)]) rfl underlying24 rfl yas ⟨Row.cell (hS.bx 2 rfl) (i := 0) rfl, Row.cell (hS.bx 2 rfl) (i := 1) rfl, trivial⟩) (zq (zm (.slice Ai li ci)) (zq (zm (ii (a.tmod 3))) (zn (yal rfl (am3 rfl rfl rfl) enter_38 ((ykl h (yaN _) (hS.rdr 0 rfl) (hS.rdr 1 rfl)).mono ?_)))))))); rintro _ w5 ⟨r2, r3, rfl, hC, h⟩; replace hS := hS.pur hC.pure; clear hC; refine ⟨_, rfl, ?_⟩; refine zb (zq (zm (.tuple #[(.bool (r2)), (ii r3)])) (zq (zx (.bool (r2))) (zq (zx (ii r3)) (zq (za (.bool (r2))) (zq (za (ii r3)) (yaa (yaf (zs (zq (zm (ii r3)) (zq zN (yaa ?_))))))))))); by_cases hp2 : r3 = 0
    · replace h := h.1 hp2; refine ze hp2 (yag (zs (zq (yam rfl underlying24 rfl yaj) (zq (zl underlying3 (Row.cell (hS.bx 2 rfl) (i := 0) rfl)) (zq (zm (ii (a.tmod 3))) (zn (yal rfl (am2 rfl rfl) enter_39 ((pok_chips_All h hS.blt).mono ?_)))))))); rintro _ w6 ⟨r4, r5, Ar, lr, cr, rfl, hC, h⟩; replace hS := hS.call1 hC 4 0 rfl; clear hC; refine ⟨_, rfl, ?_⟩; refine zb (zq (zm (.tuple #[(.slice Ar lr cr), (ii r5)])) (zq (zx (.slice Ar lr cr)) (zq (zx (ii r5)) (zq (za (.slice Ar lr cr)) (zq (za (ii r5)) (yaa (yaf (zs (zq (zm (ii r5)) (zq zN (yaa ?_))))))))))); by_cases hp3 : r5 = 0
      · replace h := h.1 hp3; refine ze hp3 (yag (zs (zq (za (.bool (true))) (yaa (yaf (zs (zq (zm (.slice Ar lr cr)) (zq (ybc (n := r4.length) rfl underlying44 (ya2 (hS.rdo 4 rfl))) (zq (zm (ii 0)) (yaa (yak ?_))))))))))); obtain ⟨I2, ⟨m0, h0⟩, hr⟩ := h; refine yaO (fun m E ds w' => ∃ v v2, I2 m v v2 ∧ ds = [] ∧ E 1 = (Value.slice Ai li ci) ∧ E 3 = (Value.pointer (some (⟨g, 0, none⟩ : Addr))) ∧ E 8 = (Value.bool (r2)) ∧ E 11 = (Value.bool (v)) ∧ E 44 = (Value.slice Ar lr cr) ∧ E 45 = (ii ((r4.length : Nat) : Int)) ∧ E 46 = (ii v2) ∧ Sep w no O w' (rl [Res.ro (FP.sl cI Ai li ci i), Res.box 24 g [(ii d), (.slice Ad ld cd)], Res.ro (FP.sl c3 Ad ld cd d2), Res.own (cL cI) 26 Ar lr cr r4])) m0 ⟨_, _, h0, rfl, rfl, rfl, rfl, rfl, rfl, rfl, rfl, (hS.sel [1, 2, 0, 4] (by decide))⟩ ?_; clear h0 hS; rintro m2 E ds w7 ⟨v, v2, h, rfl, hE1, hE3, hE8, hE11, hE44, hE45, hE46, hS⟩ again; replace h := hr m2 v v2 h; clear hr; refine zs (zq (yd4 hE46 hE45) (yaa (yaf ?_))); by_cases hp4 : v2 < ((r4.length : Nat) : Int)
        · replace h := h.1 hp4; refine zc hp4 (yag (yaf (yak (zs ?_)))); obtain ⟨hx, h⟩ := h; refine zq (yeK hE44 hE46 underlying44 ya0 (ybh (hS.rdo 3 rfl) hx)) ?_; obtain ⟨A, l, c, hc, hq⟩ := hS.elo 3 rfl hx 4 rfl; replace hS := hq; clear hq; refine zq (yaA (v := (.slice A l c)) rfl underlying26 rfl hc) (zq (za (.slice A l c)) (yaa (zs (zq (yav (vs := [(ii d), (.slice Ad ld cd)]) hE3 underlying24 rfl yas ⟨Row.cell (hS.bx 1 rfl) (i := 0) rfl, Row.cell (hS.bx 1 rfl) (i := 1) rfl, trivial⟩) (zq (yae hE1) (zq (zm (.slice A l c)) (zn (yal rfl (am3 rfl rfl rfl) enter_24 ((yhu h hS.blt (hS.ro 2 rfl) (hS.ro 0 rfl) (hS.ro 4 rfl)).mono ?_))))))))); rintro _ w8 ⟨r6, r7, r8, Ar2, lr2, cr2, rfl, hC, h⟩; replace hS := hS.call1 hC 5 0 rfl; clear hC; refine ⟨_, rfl, ?_⟩; refine zb (zq (zm (.tuple #[(.slice Ar2 lr2 cr2), (.bool (r7)), (ii r8)])) (zq (zx (.slice Ar2 lr2 cr2)) (zq (zx (.bool (r7))) (zq (zx (ii r8)) (zq (za (.slice Ar2 lr2 cr2)) (zq (za (.bool (r7))) (zq (za (ii r8)) (yaa (yaf (zs (zq (zm (ii r8)) (zq zN (yaa ?_))))))))))))); by_cases hp5 : r8 = 0
          · replace h := h.1 hp5; refine ze hp5 (yag (zr (zq (yae hE11) (zq (zm (.bool (v))) ?_)))); by_cases hp6 : v = true
            · replace h := h.1 hp6; refine rl_q (yad rfl (yac rfl (congrArg Value.bool hp6))) rfl rfl (zm (.bool (r7))) (zq (yao (v := (.bool (r7))) (congrArg Value.bool hp6) rfl) (zq (za (.bool (r7))) (yaa (yai (zr ?_))))); obtain ⟨hi2, h⟩ := h; refine zq (ycv hE46 rfl hi2) (zq (zm (ii (v2 + 1))) (yaa ?_)); obtain ⟨mq, hlt, h⟩ := h; exact again mq _ _ _ ⟨_, _, h, rfl, hE1, hE3, hE8, rfl, hE44, hE45, rfl, (hS.sel [0, 1, 2, 3] (by decide))⟩ hlt
            · replace h := h.2 hp6; refine rl_p (yab rfl (yac rfl (congrArg Value.bool (Bool.eq_false_iff.2 hp6))) rfl) rfl (zq (yap (v := (.bool (false))) (congrArg Value.bool (Bool.eq_false_iff.2 hp6)) rfl) (zq (za (.bool (false))) (yaa (yai (zr ?_))))); obtain ⟨hi3, h⟩ := h; refine zq (ycv hE46 rfl hi3) (zq (zm (ii (v2 + 1))) (yaa ?_)); obtain ⟨mq, hlt, h⟩ := h; exact again mq _ _ _ ⟨_, _, h, rfl, hE1, hE3, hE8, rfl, hE44, hE45, rfl, (hS.sel [0, 1, 2, 3] (by decide))⟩ hlt
          · replace h := h.2 hp5; exact zf hp5 (zs (zq (za (.bool (false))) (yaa (yah rfl rfl ⟨_, rfl, (hS.sel [] (by decide)), h⟩))))
        · replace h := h.2 hp4; refine zd hp4 (yaH rfl (zs (zq (yae hE11) (zq (yae hE8) (zq (v_beql rfl rfl underlying4) (zq (zm (.bool ((v == r2)))) ?_)))))); by_cases hp7 : (v == r2) = true
          · replace h := h.1 hp7; refine rl_n (yad rfl (yac rfl (congrArg Value.bool hp7))) rfl rfl rfl (yal rfl (am0) enter_37 ((yj2 h (yaN _)).mono ?_)); rintro _ w9 ⟨r9, rfl, hC, h⟩; replace hS := hS.pur hC.pure; clear hC; refine ⟨_, rfl, ?_⟩; exact zb (zq (yao (v := (.bool (r9))) (congrArg Value.bool hp7) rfl) (zq (za (.bool (r9))) (yaa (yah rfl rfl ⟨_, rfl, (hS.sel [] (by decide)), h⟩))))
          · replace h := h.2 hp7; exact rl_p (yab rfl (yac rfl (congrArg Value.bool (Bool.eq_false_iff.2 hp7))) rfl) rfl (zq (yap (v := (.bool (false))) (congrArg Value.bool (Bool.eq_false_iff.2 hp7)) rfl) (zq (za (.bool (false))) (yaa (yah rfl rfl ⟨_, rfl, (hS.sel [] (by decide)), h⟩))))
      · replace h := h.2 hp3; exact zf hp3 (zs (zq (za (.bool (false))) (yaa (yah rfl rfl ⟨_, rfl, (hS.sel [] (by decide)), h⟩))))
    · replace h := h.2 hp2; exact zf hp2 (zs (zq (za (.bool (false))) (yaa (yah rfl rfl ⟨_, rfl, (hS.sel [] (by decide)), h⟩))))
  · replace h := h.2 hp; refine yaq (congrArg Value.bool (congrArg Bool.not (Bool.eq_false_iff.2 hp))) (zs (zn (yal rfl (am0) enter_37 ((yj2 h (yaN _)).mono ?_)))); rintro _ w10 ⟨r10, rfl, hC, h⟩; replace hS := hS.pur hC.pure; clear hC; refine ⟨_, rfl, ?_⟩; exact zb (zq (za (.bool (r10))) (yaa (yah rfl rfl ⟨_, rfl, (hS.sel [] (by decide)), h⟩)))
end Go.Proofs.YtncilechkclmbaaGreat

/- RankCovers: the rank, and what the system has above each effective divisor. -/
namespace Go.Proofs.YtncilechkclmbaaGreat
open Go Go.Proofs.Tryz
set_option linter.unusedVariables false
set_option linter.unusedSimpArgs false
theorem tmod_three {a : Int} (ha : 0 ≤ a) : 0 ≤ a.tmod 3 ∧ a.tmod 3 < 3 := ⟨Int.tmod_nonneg _ ha, Int.tmod_lt_of_pos _ (by omega)⟩
theorem first_set (N : Nat) (k : Int) : (List.replicate (N + 1) (0 : Int)).set N k = ydw (N + 1) k := by
  refine yfe (by rw [List.length_set, List.length_replicate, yjF (by omega)]) fun i hi => ?_
  rw [List.length_set, List.length_replicate] at hi
  rw [ybV (by rw [List.length_replicate]; omega), ykF, yka hi]
  rfl
theorem p_chips_from_1 {N k : Nat} (hN : N ≤ 4) (hk : k ≤ 6) : yi5 (ydw (N + 1) (k : Int)) (fun p => p <+: ydb (N + 1) k) (fun p => p = ydb (N + 1) k) := by
  unfold yi5
  obtain ⟨⟨B0, hB0⟩, hst⟩ := ygK N k
  have hmem : ∀ x ∈ ydb (N + 1) k, x.length = N + 1 ∧ ∀ j, j < N + 1 → -1000000 ≤ gi x j ∧ gi x j ≤ 1000000 := fun x hx => by
    obtain ⟨h1, h2, h3⟩ := (ydq N k x).1 hx
    exact ⟨h1, fun j hj => by have := dg_entry h2 (j := j) (by omega); omega⟩
  generalize ydb (N + 1) k = L at hB0 hst hmem ⊢
  refine ⟨fun q pre more v => ∃ B, L = pre ++ B ∧ q = B.length ∧ (more = true → ∃ B', B = v :: B') ∧ (more = false → B = []), ⟨L.length, L, rfl, rfl, fun _ => ⟨B0, hB0⟩, fun q => (by cases q)⟩, ?_⟩
  rintro q pre more v ⟨B, hL, rfl, hm, hn⟩
  refine ⟨fun hmt => ?_, fun hmf => ?_⟩
  · obtain ⟨B', rfl⟩ := hm hmt
    obtain ⟨hvl, hvb⟩ := hmem v (by rw [hL]; simp)
    have hL2 : L = (pre ++ [v]) ++ B' := by rw [hL]; simp
    have hat := (show yju (pre ++ v :: B') none by rw [← hL]; exact hst).at_
    refine ycN (by omega) ⟨⟨B', hL2.symm⟩, ?_, trivial⟩
    refine ykg (by omega) (by omega) (fun j hj => hvb j (by omega)) (fun y hy => ⟨B'.length, by simp, B', hL2, rfl, fun _ => ?_, fun q => (by cases q)⟩) (fun hno => ?_)
    · rw [hy] at hat
      cases B' with
      | nil => simp at hat
      | cons z B' => simp at hat; exact ⟨B', by rw [hat]⟩
    · rw [hno] at hat
      refine ⟨B'.length, by simp, B', hL2, rfl, fun q => (by cases q), fun _ => ?_⟩
      cases B' with
      | nil => rfl
      | cons z B' => simp at hat
  · have hB := hn (by simpa using hmf)
    rw [hB, List.append_nil] at hL
    exact hL.symm
def cntF (k i : Nat) : Int := if k = 0 then 1 else if k = 1 then (i : Int) else (i : Int) * (i + 1) / 2
theorem p_chips_All {N k : Nat} {R : List (List Int) → Int → Prop} (hN : N ≤ 4) (hk : k ≤ 2) (h : R (ydb (N + 1) k) 0) : yjn ((N + 1 : Nat) : Int) (k : Int) R := by
  unfold yjn
  have hv : ∀ {R' : Int → Prop}, R' 0 → yci ((N + 1 : Nat) : Int) R' := fun h => by
    unfold yci
    exact ⟨fun q => by omega, fun _ => ⟨fun q => by omega, fun _ => h⟩⟩
  refine hv ⟨fun _ => ?_, fun q => absurd rfl q⟩
  · refine ⟨True, fun _ => ?_, fun q => by omega, fun _ => ⟨fun q => by omega, fun _ => trivial⟩⟩
    refine ⟨fun q c i => ∃ j : Nat, i = (j : Int) ∧ 1 ≤ j ∧ j ≤ N + 1 ∧ q = N + 1 - j ∧ c = cntF k j, ⟨N, 1, rfl, by omega, by omega, by omega, ?_⟩, ?_⟩
    · have hk3 : k = 0 ∨ k = 1 ∨ k = 2 := by omega
      rcases hk3 with rfl | rfl | rfl <;> decide
    rintro q c _ ⟨j, rfl, h1, hj, rfl, rfl⟩
    refine ⟨fun hlt => ?_, fun hge => ?_⟩
    · have hj4 : j = 1 ∨ j = 2 ∨ j = 3 ∨ j = 4 := by omega
      have hk3 : k = 0 ∨ k = 1 ∨ k = 2 := by omega
      have key : (0 ≤ cntF k j ∧ cntF k j ≤ 100) ∧ (0 ≤ cntF k j * ((k : Int) + j) ∧ cntF k j * ((k : Int) + j) ≤ 10000) ∧ (cntF k j * ((k : Int) + j)).tdiv (j : Int) = cntF k (j + 1) ∧ (0 ≤ cntF k (j + 1) ∧ cntF k (j + 1) ≤ 100) := by
        rcases hj4 with rfl | rfl | rfl | rfl <;> rcases hk3 with rfl | rfl | rfl <;> decide
      obtain ⟨k1, k2, k3, k4⟩ := key
      rw [k3]
      exact ⟨i64 (by omega), i64 (by omega), by omega, i64 (by omega), fun q => by omega, fun _ => ⟨i64 (by omega), N + 1 - (j + 1), by omega, j + 1, rfl, by omega, by omega, rfl, rfl⟩⟩
    · have e1 : (((N + 1 : Nat) : Int) - 1).toNat = N := by omega
      rw [e1, Int.toNat_natCast, first_set]
      refine ⟨by omega, i64 (by omega), by simp; omega, ?_⟩
      unfold yjs yi1 yiX
      have hlen := yks (n := N) (k := k) (by omega) (by omega)
      refine ⟨fun p => p <+: ydb (N + 1) k, fun p => p = ydb (N + 1) k, p_chips_from_1 hN (by omega), fun p s => s = p, rfl, fun pre y s hs hp => ⟨?_, by rw [hs]⟩, fun ys s hs hys => by rw [hs, hys]; exact h⟩
      have := hp.length_le
      rw [List.length_append, List.length_singleton] at this
      rw [hs]; omega
theorem p_l38_right {n most : Int} {es : List E3} {l : List (List Int)} {R : Bool → Prop} (hl : l.length ≤ 1000) (h1 : (∀ d ∈ l, RtOk n es most d) → R true) (h2 : R false) : yjm n es most l R := by
  unfold yjm
  refine p_r25_Joined0 ⟨fun hj => ?_, fun _ => h2⟩
  obtain ⟨p, hp⟩ := bool_ofL fun d => ¬ (yaJ d n = 0 ∧ FewOk n es d most)
  refine yba (p := p) (by omega) (fun d R' hd hR' => ?_) (fun hall => ?_) (fun d hd hp => by simpa using h2)
  · unfold yjl
    refine yft ⟨fun hc => p_r38_Few (fun hF => ?_) (fun hF => ?_), fun hc => ?_⟩
    · have e : p d = false := by rw [Bool.eq_false_iff]; exact fun q => (hp d).1 q ⟨hc, hF⟩
      rw [e] at hR'; exact hR'
    · have e : p d = true := (hp d).2 fun q => hF q.2
      rw [e] at hR'; exact hR'
    · have e : p d = true := (hp d).2 fun q => hc q.1
      rw [e] at hR'; exact hR'
  · refine h1 fun d hd => ?_
    have h3 := hall d hd
    have h4 : yaJ d n = 0 ∧ FewOk n es d most := Classical.not_not.1 fun q => by rw [(hp d).2 q] at h3; cases h3
    exact ⟨hj, h4.1, h4.2⟩
theorem win_above {n : Nat} {es : List E3} {d e : List Int} (hn : 1 ≤ n) (hd : d.length = n) (he : ∀ v, v < n → 0 ≤ gi e v) : Win n es (sb n d e) ↔ ((sysF n es d).find? (leB e)).isSome = true := by
  rw [List.find?_isSome]
  constructor
  · rintro ⟨s, hs⟩
    have hl : (tab (fun v => gi d v - Lp n es s v) n).length = n := ydW _ _
    refine ⟨tab (fun v => gi d v - Lp n es s v) n, (yc0 hn hd).2 ⟨⟨hl, fun v hv => ?_⟩, s, fun v hv => yf5 _ hv⟩, ?_⟩
    · have h1 := hs v hv
      have h2 := he v hv
      rw [yjA hv] at h1
      rw [yf5 _ hv]; omega
    · unfold leB
      rw [decide_eq_true_iff, hl]
      intro v hv
      have h1 := hs v hv
      rw [yjA hv] at h1
      rw [yf5 _ hv]; omega
  · rintro ⟨x, hx, hle⟩
    obtain ⟨hp, s, hs⟩ := (yc0 hn hd).1 hx
    unfold leB at hle
    rw [decide_eq_true_iff, hp.len] at hle
    refine ⟨s, fun v hv => ?_⟩
    have h1 := hs v hv
    have h2 := hle v hv
    rw [yjA hv]; omega
theorem p_rankcovers {n a : Int} {es : List E3} {d : List Int} (ha : 0 ≤ a ∧ a < 256) : yjc n es d a (fun b => b = true) := by
  unfold yjc
  have hm := tmod_three ha.1
  refine ⟨by omega, i64 (by omega), p_l38_right (by simp) (fun hR => ⟨fun _ => ?_, fun q => absurd rfl q⟩) ⟨fun q => (by cases q), fun _ => ykt rfl⟩⟩
  have hR := hR d (by simp)
  obtain ⟨n, rfl⟩ := hR.int
  obtain ⟨hD, hg, hdl, h5, hdb⟩ := hR.nat (by omega)
  have hn1 := hD.G.n1
  have hn5 := hD.G.n5
  have hel := hD.G.el
  obtain ⟨k, hk⟩ : ∃ k : Nat, a.tmod 3 = (k : Int) := ⟨(a.tmod 3).toNat, by omega⟩
  rw [hk] at hm ⊢
  obtain ⟨N, rfl⟩ : ∃ N, n = N + 1 := ⟨n - 1, by omega⟩
  refine p_rank_AtLeast (by omega) (fun q => absurd hg q) (fun _ q => by omega) fun _ _ => ⟨by rw [Int.toNat_natCast]; exact hD, fun kk hkk => ⟨fun _ => p_chips_All (by omega) (by omega) ⟨fun _ => ?_, fun q => absurd rfl q⟩, fun q => absurd rfl q⟩⟩
  rw [Int.toNat_natCast] at hkk
  have hlen := yks (n := N) (k := k) (by omega) (by omega)
  have hLe := fun e => ydq N k e
  have hAL : (k : Int) ≤ kk ↔ ∀ e ∈ ydb (N + 1) k, ((sysF (N + 1) es d).find? (leB e)).isSome = true := by
    rw [hkk.ge hn1]
    constructor
    · intro h e he
      have hE := yj7 he
      exact (win_above hn1 hdl hE.pos).1 (h e hE)
    · intro h e he
      exact (win_above hn1 hdl he.pos).2 (h e (ykr he))
  generalize ydb (N + 1) k = L at hlen hLe hAL ⊢
  refine ⟨fun q b v => Cnt L.length (fun j => b = true ↔ ∀ i, i < j → ((sysF (N + 1) es d).find? (leB (gx L i))).isSome = true) q v, Cnt.start ⟨fun _ i hi => absurd hi (by omega), fun _ => rfl⟩, ?_⟩
  rintro q b _ ⟨j, rfl, rfl, hj, hinv⟩
  rw [Int.toNat_natCast]
  refine ⟨fun hjl => ⟨by omega, ?_⟩, fun hjg => ⟨fun _ => ykt rfl, fun q => absurd ?_ q⟩⟩
  · have hjl2 : j < L.length := by omega
    obtain ⟨x1, x2, x3⟩ := (hLe (gx L j)).1 (List.mem_of_getElem? (yfn hjl2))
    have hsucc : ∀ c : Bool, (c = true ↔ ((sysF (N + 1) es d).find? (leB (gx L j))).isSome = true) → b = true → (c = true ↔ ∀ i, i < j + 1 → ((sysF (N + 1) es d).find? (leB (gx L i))).isSome = true) := fun c hc hb => by
      rw [hc]
      constructor
      · intro h i hi
        by_cases e : i = j
        · subst e; exact h
        · exact hinv.1 hb i (by omega)
      · exact fun h => h j (by omega)
    have hxc : yaJ (gx L j) ((N + 1 : Nat) : Int) = 0 := yfN x1 (by omega) (by omega) fun i hi => by have := dg_entry x2 (j := i) (by omega); omega
    have hgL : givL ((N + 1 : Nat) : Int) es [d, gx L j] = 0 := by
      unfold givL errL errL errL
      rw [if_pos hR.j, if_pos hR.c, if_pos hxc]
    have hpos : posB (gx L j) = true := (ydF x1).2 ⟨x1, (pos_iff x1).1 x2⟩
    have fin : ∀ c : Bool, (c = true ↔ ((sysF (N + 1) es d).find? (leB (gx L j))).isSome = true) → ((b = true → (In64 ((j : Int) + 1) ∧ ∃ m3, m3 < L.length - j ∧ Cnt L.length (fun j => c = true ↔ ∀ i, i < j → ((sysF (N + 1) es d).find? (leB (gx L i))).isSome = true) m3 ((j : Int) + 1))) ∧
        (¬ (b = true) → (In64 ((j : Int) + 1) ∧ ∃ m4, m4 < L.length - j ∧ Cnt L.length (fun j => false = true ↔ ∀ i, i < j → ((sysF (N + 1) es d).find? (leB (gx L i))).isSome = true) m4 ((j : Int) + 1)))) := fun c hc =>
      ⟨fun hb => Cnt.next hjl2 (by omega) (hsucc c hc hb), fun hb => Cnt.next hjl2 (by omega) ⟨fun q => (by cases q), fun h => absurd (hinv.2 fun i hi => h i (by omega)) hb⟩⟩
    refine p_system_Above (by omega) (fun q => absurd hgL q) (fun _ q => by rw [hpos] at q; cases q) fun _ _ => ⟨by rw [Int.toNat_natCast]; exact hD, fun y hy => ⟨fun _ => fin true ?_, fun q => absurd rfl q⟩, fun hno => ⟨fun _ => fin false ?_, fun q => absurd rfl q⟩⟩
    · rw [Int.toNat_natCast] at hy
      rw [hy]; simp
    · rw [Int.toNat_natCast] at hno
      rw [hno]; simp
  · have e : j = L.length := by omega
    subst e
    have : b = decide ((k : Int) ≤ kk) := by
      rw [Bool.eq_iff_iff, decide_eq_true_iff, hAL, hinv]
      constructor
      · intro h e he
        obtain ⟨i, hi⟩ := List.getElem?_of_mem he
        have hil := (List.getElem?_eq_some_iff.1 hi).1
        have := h i hil
        rw [yfn hil] at hi
        rw [Option.some.inj hi] at this; exact this
      · exact fun h i hi => h _ (List.mem_of_getElem? (yfn hi))
    rw [this]; simp
end Go.Proofs.YtncilechkclmbaaGreat
