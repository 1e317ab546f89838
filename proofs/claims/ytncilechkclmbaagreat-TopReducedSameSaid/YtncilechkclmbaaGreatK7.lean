/- Texts laid together: Srt, Lay, SrtD, PSa, SySp, SySq, SySr, SySs, PSl, Lr37, Lr37a, Lr37b, PTc, PTr, Tr. -/
import Derived.Shelf.SlSortCmp.NoneTotal
import Derived.Shelf.SlLaysF
import Derived.Test.YtncilechkclmbaaGreatChecked
import Derived.Test.YtncilechkclmbaaGreatK6
/- slices.SortFunc at slices of one's own: the kit's contract, said of what is owned. Elements of one cell. No program in sight. -/
namespace Go.Proofs.YtncilechkclmbaaGreat
open Go Go.RowKit Go.Shelf Go.Lib Go.Sort Go.Proofs.Tryz
set_option linter.unusedVariables false
set_option linter.unusedSimpArgs false
theorem pair_up {τ : Type} {p : Value → τ → Prop} : ∀ (cells : List Value) (xs : List τ), cells.length = xs.length → (∀ (k : Nat) x u, xs[k]? = some x → cells[k]? = some u → p u x) → ∃ ds : List {q : Value × τ // p q.1 q.2}, ds.map (·.1.1) = cells ∧ ds.map (·.1.2) = xs
  | [], [], _, _ => ⟨[], rfl, rfl⟩
  | [], _ :: _, h, _ => by simp at h
  | _ :: _, [], h, _ => by simp at h
  | u :: cells, x :: xs, h, hp => by
    obtain ⟨ds, h1, h2⟩ := pair_up (p := p) cells xs (by simpa using h) fun k y v hy hv => hp (k + 1) y v (by simpa using hy) (by simpa using hv)
    exact ⟨⟨(u, x), hp 0 x u rfl rfl⟩ :: ds, by rw [List.map_cons, h1], by rw [List.map_cons, h2]⟩
theorem yeE {α : Type} [Inhabited α] (enc : α → Value) (w : World) (blk off m : Nat) (d : Array α) (os : Array Obj) : Keeps (fun k => k = blk) w (sortWorld enc w blk off m d os) := by
  refine ⟨rfl, rfl, rfl, ?_, fun k hk hn => ?_⟩
  · show w.heap.size ≤ ((w.heap.modify blk (onCells (putCells enc off d))) ++ os).size
    simp
  · show ((w.heap.modify blk (onCells (putCells enc off d))) ++ os)[k]? = _
    rw [Array.getElem?_append_left (by simpa using hk), Array.getElem?_modify, if_neg (fun q => hn q.symm)]
theorem sortWorld_at {α : Type} [Inhabited α] (enc : α → Value) (w : World) (blk off m : Nat) (d : Array α) (os : Array Obj) {cur : Array Value} {e : TypeId} {fr : Nat × Nat} (h : w.heap[blk]? = some (.cells cur e fr)) : (sortWorld enc w blk off m d os).heap[blk]? = some (.cells (putCells enc off d cur) e fr) := by
  show ((w.heap.modify blk (onCells (putCells enc off d))) ++ os)[blk]? = _
  have hb := (Array.getElem?_eq_some_iff.1 h).1
  rw [Array.getElem?_append_left (by simpa using hb), Array.getElem?_modify, if_pos rfl, h]
  rfl
section
variable {P : Program} {ρ : Ren} {τ : Type} {c : Cod τ} {cf : τ → τ → Int} {g : Nat}
theorem srt_own (L : SlLaysF.n6 P ρ) (hc1 : c.sz = 1) (hO : SWO (ltOf cf)) (eg : Enters P g)
    {w : World} {S O : Nat → Prop} {e : TypeId} {A : Option Addr} {l cap : Nat} {xs : List τ} {R : List τ → Prop}
    (hcmp : ∀ W x y vx vy, x ∈ xs → y ∈ xs → c.R no W [vx] x → c.R no W [vy] y → Calls P g #[vx, vy] W fun e w' => e = .returned (.int .i64 (cf x y)) ∧ ∃ q os', w' = grow (W.drewN q) os')
    (hlen : xs.length ≤ 1000000000) (h : ∀ zs, zs.Perm xs → zs.Pairwise (fun a b => ¬ cf b a < 0) → R zs)
    (hS : Sep w S O w (rl [Res.own c e A l cap xs])) : Calls P (ρ.f 6) #[.slice A l cap, .func (.func g) #[] #[]] w fun e' w' => ∃ zs, e' = .returned (.tuple #[]) ∧ Sep w S O w' (rl [Res.own c e A l cap zs]) ∧ R zs := by
  obtain ⟨hl, cells, ho, hc⟩ := hS.own 0 rfl
  by_cases h0 : xs = []
  · subst h0
    simp at hl
    subst hl
    refine (AnyF.slices_SortFunc_none { L with } A cap _ w).mono ?_
    rintro _ w' ⟨rfl, rfl⟩
    exact ⟨[], rfl, hS, h [] (List.Perm.refl _) List.Pairwise.nil⟩
  · have hlp : 0 < xs.length := List.length_pos_iff.2 h0
    rcases ho.2 with ⟨_, q, _⟩ | ⟨gb, o, cur, rfl, hb, hg, hlc, hcm, hsz, hcur⟩
    · omega
    · have hcl : cells.length = xs.length := by rw [ho.1, hc1, hl]; omega
      obtain ⟨Φ, hΦ⟩ : ∃ Φ : Value → τ → Prop, ∀ u x, Φ u x ↔ (u.oneCell' = true ∧ c.R (Bl O (rl [Res.own c e (some ⟨gb, o, none⟩) l cap xs])) w [u] x ∧ x ∈ xs) := ⟨_, fun _ _ => Iff.rfl⟩
      obtain ⟨ds, hd1, hd2⟩ := pair_up (p := Φ) cells xs hcl fun k x u hx hu => by
        obtain ⟨vs, hR, hv⟩ := hc k x hx
        have hv1 := c.len hR
        rw [hc1] at hv1
        obtain ⟨v, rfl⟩ := List.length_eq_one_iff.1 hv1
        have := hv 0 v rfl
        rw [hc1, Nat.mul_one, Nat.add_zero, hu] at this
        cases this
        exact (hΦ _ _).2 ⟨c.one hR _ (by simp), hR, List.mem_of_getElem? hx⟩
      have hdl : ds.length = xs.length := by have q := congrArg List.length hd2; rwa [List.length_map] at q
      have : Inhabited {q : Value × τ // Φ q.1 q.2} := ⟨ds[0]'(by omega)⟩
      have hget : ∀ j (hj : j < ds.length) (hj2 : j < cells.length), (ds.toArray[j]!).1.1 = cells[j] := fun j hj hj2 => by
        rw [getElem!_pos _ _ (by simpa using hj)]
        simp only [← hd1, List.getElem_map, List.getElem_toArray]
      have hlt : gb < w.heap.size := (Array.getElem?_eq_some_iff.1 hg).1
      have hll : l = ds.toArray.size := by rw [hl]; simp [hdl]
      have hcm2 : ds.toArray.size < 4611686018427387904 := by rw [← hll, hl]; exact Nat.lt_of_le_of_lt hlen (by decide)
      have hmain := Any.slices_SortFunc L (fun q : {q : Value × τ // Φ q.1 q.2} => q.1.1) (fun q => ((hΦ _ _).1 q.2).1) (fun a b => cf a.1.2 b.1.2)
        ⟨fun a => hO.irrefl a.1.2, fun a b d => hO.trans a.1.2 b.1.2 d.1.2, fun a b d => hO.ntrans a.1.2 b.1.2 d.1.2⟩ g #[] gb o cap ds.toArray w eg
        (fun m os dk _ x y => by
          have hK := (yeE (fun q : {q : Value × τ // Φ q.1 q.2} => q.1.1) w gb o m dk os).mono (S' := Bl O (rl [Res.own c e (some ⟨gb, o, none⟩) l cap xs])) fun k _ hk => .inr ⟨0, by rw [hk]; rfl⟩
          have hx := c.sub (O' := no) (c.keep ((hΦ _ _).1 x.2).2.1 hK) fun _ _ h => h.elim
          have hy := c.sub (O' := no) (c.keep ((hΦ _ _).1 y.2).2.1 hK) fun _ _ h => h.elim
          rw [Array.append_empty]
          exact hcmp _ _ _ _ _ ((hΦ _ _).1 x.2).2.2 ((hΦ _ _).1 y.2).2.2 hx hy)
        (fun j hj => by
          have hj' : j < ds.length := by simpa using hj
          obtain ⟨g', o', e', _, h1, h2⟩ := ho.cellAt (i := j) (List.getElem?_eq_getElem (by rw [hcl, ← hdl]; exact hj'))
          cases e'
          exact ⟨by rw [h1]; congr 1; exact (hget j hj' _).symm, h2⟩) hlt hcm2
      rw [← hll] at hmain
      refine hmain.mono ?_
      rintro _ w' ⟨rfl, d', n, os, ⟨p1, p2, p3⟩, hs, rfl⟩
      have hd'l : d'.size = l := by rw [p1, hll]
      have hp : d'.toList.Perm ds := by
        have e1 : d'.extract 0 l = d' := by rw [← hd'l]; exact Array.extract_size
        have e2 : ds.toArray.extract 0 l = ds.toArray := by rw [hll]; exact Array.extract_size
        rwa [e1, e2] at p3
      refine ⟨d'.toList.map (·.1.2), rfl, ?_, h _ ((hp.map (fun q => q.1.2)).trans (List.Perm.of_eq hd2)) ?_⟩
      · have hK := yeE (fun q : {q : Value × τ // Φ q.1 q.2} => q.1.1) w gb o n d' os
        refine (hS.upd 0 (Res.own c e (some ⟨gb, o, none⟩) l cap (d'.toList.map (·.1.2))) hK (fun k _ hk => by rw [hk]; rfl) (fun k hk => .inl hk) ?_).sel [0] (by decide)
        refine ⟨by simp [hd'l], d'.toList.map (·.1.1), ⟨by simp [hd'l, hc1], .inr ⟨gb, o, _, rfl, Nat.zero_le _, sortWorld_at _ w gb o n d' os hg, hlc, hcm, by simpa [putCells] using hsz, ?_⟩⟩, fun k x hx => ?_⟩
        · rw [hc1, Nat.mul_one] at hsz ⊢
          apply List.ext_getElem?
          intro i
          rw [List.getElem?_take]
          by_cases hi : i < l
          · rw [if_pos hi, List.getElem?_drop, Array.getElem?_toList]
            have hic : o + i < cur.size := by omega
            rw [putCells, Array.getElem?_mapIdx, Array.getElem?_eq_getElem hic, Option.map_some, if_pos ⟨by omega, by omega⟩, show o + i - o = i by omega, List.getElem?_map, Array.getElem?_toList, Array.getElem?_eq_getElem (by omega), Option.map_some, getElem!_pos _ _ (by omega)]
          · rw [if_neg hi, List.getElem?_eq_none (by simp; omega)]
        · rw [List.getElem?_map, Array.getElem?_toList] at hx
          have hk : k < d'.size := by
            rcases Nat.lt_or_ge k d'.size with q | q
            · exact q
            · rw [Array.getElem?_eq_none q] at hx; cases hx
          rw [Array.getElem?_eq_getElem hk, Option.map_some] at hx
          cases hx
          refine ⟨[d'[k].1.1], ?_, fun j u hj => ?_⟩
          · have hK2 := hK.mono (S' := Bl O (rl [Res.own c e (some ⟨gb, o, none⟩) l cap xs])) fun k _ hk => .inr ⟨0, by rw [hk]; rfl⟩
            refine c.sub (c.keep ((hΦ _ _).1 d'[k].2).2.1 hK2) fun k _ hk => ?_
            rcases hk with q | ⟨i, q⟩
            · exact .inl q
            · by_cases hi : i = 0
              · subst hi; rw [yaT] at q; exact .inr ⟨0, q⟩
              · rw [yaG _ _ hi] at q; exact .inr ⟨i, q⟩
          · cases j with
            | zero =>
              simp at hj
              subst hj
              rw [hc1, Nat.mul_one, Nat.add_zero, List.getElem?_map, Array.getElem?_toList, Array.getElem?_eq_getElem hk, Option.map_some]
            | succ j => simp at hj
      · rw [List.pairwise_map, List.pairwise_iff_getElem]
        intro i j hi hj hij
        have hj' : j < d'.size := by simpa using hj
        have := hs i j (Nat.zero_le _) hij (by omega)
        rw [getElem!_pos d' j hj', getElem!_pos d' i (by omega)] at this
        simpa [ltOf] using this
end
end Go.Proofs.YtncilechkclmbaaGreat

/- slices.SortFunc lies in this program. -/
namespace Go.Proofs.YtncilechkclmbaaGreat
open Go Go.Shelf Go.Proofs.Tryz
def sortD_ren : Go.Shelf.Ren := ⟨fun | 6 => 121 | 15 => 180 | 14 => 179 | 28 => 226 | 29 => 227 | 20 => 218 | 21 => 219 | 22 => 220 | 23 => 221 | 24 => 222 | 25 => 223 | 26 => 224 | 27 => 225 | 46 => 245 | 47 => 246 | 48 => 247 | 49 => 248 | 50 => 249 | 57 => 258 | n => n, fun | 22 => 44 | 24 => 26 | 25 => 59 | 3 => 3 | 39 => 180 | 0 => 0 | 53 => 230 | 55 => 232 | 4 => 4 | 46 => 224 | 45 => 223 | 50 => 213 | 5 => 5 | 9 => 9 | 66 => 255 | 70 => 259 | 76 => 273 | 77 => 274 | n => n, fun | n => n⟩
theorem sortD : Go.Proofs.SlLaysF.n6 Tryz.prog sortD_ren := {
  mixed := by kernel_rfl
  f6 := ⟨Tryz.f121.name, by decide, func121.trans (congrArg some (by kernel_rfl))⟩
  f14 := ⟨Tryz.f179.name, by decide, func179.trans (congrArg some (by kernel_rfl))⟩
  f15 := func180.trans (congrArg some (by kernel_rfl))
  f20 := ⟨Tryz.f218.name, by decide, func218.trans (congrArg some (by kernel_rfl))⟩
  f21 := ⟨Tryz.f219.name, by decide, func219.trans (congrArg some (by kernel_rfl))⟩
  f22 := ⟨Tryz.f220.name, by decide, func220.trans (congrArg some (by kernel_rfl))⟩
  f23 := ⟨Tryz.f221.name, by decide, func221.trans (congrArg some (by kernel_rfl))⟩
  f24 := ⟨Tryz.f222.name, by decide, func222.trans (congrArg some (by kernel_rfl))⟩
  f25 := ⟨Tryz.f223.name, by decide, func223.trans (congrArg some (by kernel_rfl))⟩
  f26 := ⟨Tryz.f224.name, by decide, func224.trans (congrArg some (by kernel_rfl))⟩
  f27 := ⟨Tryz.f225.name, by decide, func225.trans (congrArg some (by kernel_rfl))⟩
  f28 := func226.trans (congrArg some (by kernel_rfl))
  f29 := func227.trans (congrArg some (by kernel_rfl))
  f46 := ⟨Tryz.f245.name, by decide, func245.trans (congrArg some (by kernel_rfl))⟩
  f47 := func246.trans (congrArg some (by kernel_rfl))
  f48 := func247.trans (congrArg some (by kernel_rfl))
  f49 := ⟨Tryz.f248.name, by decide, func248.trans (congrArg some (by kernel_rfl))⟩
  f50 := ⟨Tryz.f249.name, by decide, func249.trans (congrArg some (by kernel_rfl))⟩
  f57 := ⟨Tryz.f258.name, by decide, func258.trans (congrArg some (by kernel_rfl))⟩
  t0 := underlying0
  a0 := Tryz.isAgg0
  z0 := Tryz.sizeOf0
  v0 := Tryz.zeroValue0
  t3 := underlying3
  a3 := Tryz.isAgg3
  z3 := Tryz.sizeOf3
  v3 := Tryz.zeroValue3
  t4 := underlying4
  a4 := Tryz.isAgg4
  z4 := Tryz.sizeOf4
  v4 := Tryz.zeroValue4
  t5 := underlying5
  a5 := Tryz.isAgg5
  z5 := Tryz.sizeOf5
  v5 := Tryz.zeroValue5
  t9 := underlying9
  a9 := Tryz.isAgg9
  z9 := Tryz.sizeOf9
  v9 := Tryz.zeroValue9
  t22 := underlying44
  a22 := Tryz.isAgg44
  z22 := Tryz.sizeOf44
  v22 := Tryz.zeroValue44
  a24 := Tryz.isAgg26
  z24 := Tryz.sizeOf26
  t25 := underlying59
  a25 := Tryz.isAgg59
  z25 := Tryz.sizeOf59
  v25 := Tryz.zeroValue59
  t39 := underlying180
  a39 := Tryz.isAgg180
  z39 := Tryz.sizeOf180
  v39 := Tryz.zeroValue180
  t45 := underlying223
  a45 := Tryz.isAgg223
  z45 := Tryz.sizeOf223
  v45 := Tryz.zeroValue223
  t46 := underlying224
  a46 := Tryz.isAgg224
  z46 := Tryz.sizeOf224
  v46 := Tryz.zeroValue224
  t50 := underlying213
  a50 := Tryz.isAgg213
  z50 := Tryz.sizeOf213
  v50 := Tryz.zeroValue213
  t53 := underlying230
  a53 := Tryz.isAgg230
  z53 := Tryz.sizeOf230
  v53 := Tryz.zeroValue230
  t55 := underlying232
  a55 := Tryz.isAgg232
  z55 := Tryz.sizeOf232
  v55 := Tryz.zeroValue232
  t66 := underlying255
  a66 := Tryz.isAgg255
  z66 := Tryz.sizeOf255
  v66 := Tryz.zeroValue255
  t70 := underlying259
  a70 := Tryz.isAgg259
  z70 := Tryz.sizeOf259
  v70 := Tryz.zeroValue259
  t76 := underlying273
  a76 := Tryz.isAgg273
  z76 := Tryz.sizeOf273
  v76 := Tryz.zeroValue273
  t77 := underlying274
  a77 := Tryz.isAgg274
  z77 := Tryz.sizeOf274
  v77 := Tryz.zeroValue274 }
end Go.Proofs.YtncilechkclmbaaGreat

/- The sort of divisors: slices.SortFunc by slices.Compare. -/
namespace Go.Proofs.YtncilechkclmbaaGreat
open Go Go.RowKit Go.Shelf Go.Sort Go.Proofs.Tryz
set_option maxRecDepth 100000
set_option maxHeartbeats 400000
set_option linter.unusedVariables false
theorem order_any (W : World) (x y : List Int) (vx vy : Value) (lx : x.length ≤ 1000000000) (ly : y.length ≤ 1000000000) (hx : (cL cI).R no W [vx] x) (hy : (cL cI).R no W [vy] y) :
    Calls Tryz.prog 196 #[vx, vy] W fun e w' => e = .returned (.int .i64 (lexC x y)) ∧ W = w' := by
  obtain ⟨A, l, ca, e1, h1⟩ := hx
  obtain ⟨B, m, cb, e2, h2⟩ := hy
  cases e1
  cases e2
  obtain ⟨rfl, ha⟩ := sl_ints h1
  obtain ⟨rfl, hb⟩ := sl_ints h2
  go_enter func196, ntmps196
  go_wp2_with (first | (go_at_call 35; refine (compD_any A B x y ca cb _ ha hb lx ly).mono ?_; rintro e w' ⟨rfl, rfl⟩))
  go_ret
  exact ⟨rfl, rfl⟩
theorem swo_lex : SWO (ltOf lexC) := by
  refine ⟨fun a => ?_, fun a b d h1 h2 => ?_, fun a b d h1 h2 => ?_⟩
  · simp [ltOf, yd0]
  · simp only [ltOf, decide_eq_true_iff] at *
    exact yfO _ _ _ h1 h2
  · simp only [ltOf, decide_eq_false_iff_not] at *
    intro h
    have k1 : lexC b a ≤ 0 := by rw [yeV]; omega
    have k2 : lexC d b ≤ 0 := by rw [yeV]; omega
    have k3 := lexC_le_trans k2 k1
    rw [yeV] at k3
    omega
def yej (xs : List (List Int)) (R : List (List Int) → Prop) : Prop := xs.length ≤ 1000000000 ∧ (∀ x ∈ xs, x.length ≤ 1000000000) ∧ ∀ zs : List (List Int), zs.Perm xs → zs.Pairwise (fun a b => ¬ lexC b a < 0) → R zs
theorem yf0 {S O : Nat → Prop} {w : World} {xs : List (List Int)} {A : Option Addr} {l c : Nat} {t : TypeId} {R : List (List Int) → Prop} (h : yej xs R) (hS : Sep w S O w (rl [Res.own (cL cI) t A l c xs])) :
    Calls Tryz.prog 121 #[.slice A l c, .func (.func 196) #[] #[]] w fun e w' => ∃ z : List (List Int), e = .returned (.tuple #[]) ∧ Sep w S O w' (rl [Res.own (cL cI) t A l c z]) ∧ R z :=
  (srt_own sortD (c := cL cI) rfl swo_lex enter_196 (fun W x y vx vy mx my hx hy => (order_any W x y vx vy (h.2.1 x mx) (h.2.1 y my) hx hy).mono fun e w' ⟨h1, h2⟩ => ⟨h1, 0, #[], by rw [← h2]; simp [grow, World.drewN]⟩) h.1 h.2.2 hS).mono fun e w' ⟨z, h1, h2, h3⟩ => ⟨z, h1, h2, h3⟩
end Go.Proofs.YtncilechkclmbaaGreat

/- Pure forms of functions, made by program (pf.py), each with the proof that the code does so. -/
namespace Go.Proofs.YtncilechkclmbaaGreat
open Go Go.RowKit Go.Shelf Go.Proofs.Tryz
set_option linter.unusedVariables false
set_option maxRecDepth 100000
set_option maxHeartbeats 1000000
def ycc (g : Int) (g2 : List E3) (l : List (List Int)) (R : Int → Prop) : Prop :=
yco g g2 (fun r r2 =>
((r2 = 0 →
((r = true →
(∃ I2 : Nat → Int → Prop, (∃ m0, I2 m0 0) ∧ ∀ m2 v, I2 m2 v → 
((v < ((l.length : Nat) : Int) →
((0 ≤ v ∧ v < ((l.length : Nat) : Int)) ∧
ybZ (gx l v.toNat) g (fun r3 =>
((r3 = 0 →
(In64 (v + 1) ∧
∃ m3, m3 < m2 ∧ I2 m3 (v + 1))) ∧
(¬ (r3 = 0) →
R r3))))) ∧
(¬ (v < ((l.length : Nat) : Int)) →
R 0)))) ∧
(¬ (r = true) →
R 13))) ∧
(¬ (r2 = 0) →
R r2)))
theorem yel {O : Nat → Prop} {w : World} {g g2 l Ag lg cg Al ll cl} {R : Int → Prop} (h : ycc g g2 l R) (hO : ∀ k, O k → k < w.heap.size) (hA0 : (FP.sl c3 Ag lg cg g2).P O w) (hA1 : (FP.sl (cL cI) Al ll cl l).P O w) :
    Calls Tryz.prog 80 #[(.agg #[(ii g), (.slice Ag lg cg)]), (.slice Al ll cl)] w fun e w' => ∃ r4, e = .returned (ii r4) ∧ Sep w no O w' (rl []) ∧ R r4 := by
  unfold ycc at h; have hS : Sep w no O w (rl [Res.ro (FP.sl c3 Ag lg cg g2), Res.ro (FP.sl (cL cI) Al ll cl l)]) := Sep.startl hO [(FP.sl c3 Ag lg cg g2), (FP.sl (cL cI) Al ll cl l)] ⟨hA0, hA1, trivial⟩; refine yan (l := [(.agg #[(ii g), (.slice Ag lg cg)]), (.slice Al ll cl)]) func80 rfl ntmps80 (Nat.le_of_ble_eq_true rfl) (zs (zn (yb6 (v := (.agg #[(ii g), (.slice Ag lg cg)])) rfl ?_))); intro g3 w2 hN; replace hS : Sep w no O w2 (stl _ 2 (Res.box 24 g3 [(ii g), (.slice Ag lg cg)])) := hS.new 2 rfl hN; clear hN; refine zb (zq (za (ii 0)) (yaa (zs (zq (yav (vs := [(ii g), (.slice Ag lg cg)]) rfl underlying24 rfl yas ⟨Row.cell (hS.bx 2 rfl) (i := 0) rfl, Row.cell (hS.bx 2 rfl) (i := 1) rfl, trivial⟩) (zn (yal rfl (am1 rfl) yiW ((yc5 h (yaN _) (hS.rdr 0 rfl)).mono ?_))))))); rintro _ w3 ⟨r, r2, rfl, hC, h⟩; replace hS := hS.pur hC.pure; clear hC; refine ⟨_, rfl, ?_⟩; refine zb (zq (zm (.tuple #[(.bool (r)), (ii r2)])) (zq (zx (.bool (r))) (zq (zx (ii r2)) (zq (za (.bool (r))) (zq (za (ii r2)) (yaa (yaf (yak (zs (zq (zm (ii r2)) (zq zN (zq (za (.bool (!(decide (r2 = 0))))) (yaa ?_))))))))))))); by_cases hp : r2 = 0
  · replace h := h.1 hp; refine ze hp (zs (zq (zm (.bool (r))) (zq (ydn rfl) (zq (za (.bool (!(r)))) (yaa ?_))))); by_cases hp2 : r = true
    · replace h := h.1 hp2; refine yax (congrArg Value.bool (congrArg Bool.not hp2)) (yag (yai (yaf (zs (zq (zm (.slice Al ll cl)) (zq (ybc (n := l.length) rfl underlying44 (ya2 (hS.rdr 1 rfl))) (zq (zm (ii 0)) (yaa (yak ?_))))))))); obtain ⟨I2, ⟨m0, h0⟩, hr⟩ := h; refine yaO (fun m E ds w' => ∃ v, I2 m v ∧ ds = [] ∧ E 2 = (Value.pointer (some (⟨g3, 0, none⟩ : Addr))) ∧ E 22 = (Value.slice Al ll cl) ∧ E 23 = (ii ((l.length : Nat) : Int)) ∧ E 24 = (ii v) ∧ Sep w no O w' (rl [Res.box 24 g3 [(ii g), (.slice Ag lg cg)], Res.ro (FP.sl c3 Ag lg cg g2), Res.ro (FP.sl (cL cI) Al ll cl l)])) m0 ⟨_, h0, rfl, rfl, rfl, rfl, rfl, (hS.sel [2, 0, 1] (by decide))⟩ ?_; clear h0 hS; rintro m2 E ds w4 ⟨v, h, rfl, hE2, hE22, hE23, hE24, hS⟩ again; replace h := hr m2 v h; clear hr; refine zs (zq (yd4 hE24 hE23) (yaa (yaf ?_))); by_cases hp3 : v < ((l.length : Nat) : Int)
      · replace h := h.1 hp3; refine zc hp3 (yag (yaf (yak (zs ?_)))); obtain ⟨hx, h⟩ := h; refine zq (yeK hE22 hE24 underlying44 ya0 (ybh (hS.rdr 2 rfl) hx)) ?_; obtain ⟨A, l2, c, hc, hq⟩ := hS.el 2 rfl hx 3 4 rfl rfl (by decide); replace hS := hq; clear hq; refine zq (yaA (v := (.slice A l2 c)) rfl underlying26 rfl (hS.clr 4 rfl)) (zq (za (.slice A l2 c)) (yaa (zs (zq (zm (.slice A l2 c)) (zq (yam hE2 underlying24 rfl yaj) (zq (zl underlying3 (Row.cell (hS.bx 0 rfl) (i := 0) rfl)) (zn (yal rfl (am2 rfl rfl) yfB ((yeP h (yaN _) (hS.rdr 3 rfl)).mono ?_))))))))); rintro _ w5 ⟨r3, rfl, hC, h⟩; replace hS := hS.pur hC.pure; clear hC; refine ⟨_, rfl, ?_⟩; refine zb (zq (za (ii r3)) (yaa (zs (zq (zm (ii r3)) (zq zN (yaa ?_)))))); by_cases hp4 : r3 = 0
        · replace h := h.1 hp4; refine ze hp4 (yag (yai (zr ?_))); obtain ⟨hi, h⟩ := h; refine zq (ycv hE24 rfl hi) (zq (zm (ii (v + 1))) (yaa ?_)); obtain ⟨mq, hlt, h⟩ := h; exact again mq _ _ _ ⟨_, h, rfl, hE2, hE22, hE23, rfl, (hS.sel [0, 1, 2] (by decide))⟩ hlt
        · replace h := h.2 hp4; exact zf hp4 (zs (zq (zm (ii r3)) (zq (za (ii r3)) (yaa (yah rfl rfl ⟨_, rfl, (hS.sel [] (by decide)), h⟩)))))
      · replace h := h.2 hp3; exact zd hp3 (yaH rfl (zs (zq (za (ii 0)) (yaa (yah rfl rfl ⟨_, rfl, (hS.sel [] (by decide)), h⟩)))))
    · replace h := h.2 hp2; exact yaq (congrArg Value.bool (congrArg Bool.not (Bool.eq_false_iff.2 hp2))) (zs (zq (za (ii 13)) (yaa (yah rfl rfl ⟨_, rfl, (hS.sel [] (by decide)), h⟩))))
  · replace h := h.2 hp; exact zf hp (zs (zq (zm (ii r2)) (zq (za (ii r2)) (yaa (yah rfl rfl ⟨_, rfl, (hS.sel [] (by decide)), h⟩)))))
def yaV (d : List Int) (R : Bool → Prop) : Prop :=
ybb d (fun r =>
R (decide (0 ≤ r)))
theorem ycp {O : Nat → Prop} {w : World} {d Ad ld cd} {R : Bool → Prop} (h : yaV d R) (hO : ∀ k, O k → k < w.heap.size) (hA0 : (FP.sl cI Ad ld cd d).P O w) :
    Calls Tryz.prog 82 #[(.slice Ad ld cd)] w fun e w' => ∃ r2, e = .returned (.bool (r2)) ∧ Sep w no O w' (rl []) ∧ R r2 := by
  unfold yaV at h; have hS : Sep w no O w (rl [Res.ro (FP.sl cI Ad ld cd d)]) := Sep.startl hO [(FP.sl cI Ad ld cd d)] ⟨hA0, trivial⟩; refine yan (l := [(.slice Ad ld cd)]) func82 rfl ntmps82 (Nat.le_of_ble_eq_true rfl) (zs (zq (za (.bool (false))) (yaa (zs (zq (zm (.slice Ad ld cd)) (zn (yal rfl (am1 rfl) enter_141 ((yen h (yaN _) (hS.rdr 0 rfl)).mono ?_)))))))); rintro _ w2 ⟨r, rfl, hC, h⟩; replace hS := hS.pur hC.pure; clear hC; refine ⟨_, rfl, ?_⟩; exact zb (zq (yiO rfl rfl) (zq (za (.bool (decide (0 ≤ r)))) (yaa (yah rfl rfl ⟨_, rfl, (hS.sel [] (by decide)), h⟩))))
def ybM (d : Int) (d2 : List E3) (i : List Int) (a : Int) (R : (List Int) → Bool → Prop) : Prop :=
yaM i (fun r =>
(∃ I2 : Nat → Int → (List Int) → Prop, (∃ m0, I2 m0 0 r) ∧ ∀ m2 v v2, I2 m2 v v2 → 
((v < ((d2.length : Nat) : Int) →
((0 ≤ v ∧ v < ((d2.length : Nat) : Int)) ∧
((0 ≤ ((ge d2 v.toNat).1) ∧ ((ge d2 v.toNat).1) < 64) ∧
((0 ≤ (a / 2 ^ ((ge d2 v.toNat).1).toNat) ∧ (a / 2 ^ ((ge d2 v.toNat).1).toNat) < 9223372036854775808 ∧ 0 ≤ (1 : Int) ∧ (1 : Int) < 9223372036854775808) ∧
((0 ≤ ((ge d2 v.toNat).2.1) ∧ ((ge d2 v.toNat).2.1) < 64) ∧
((0 ≤ (a / 2 ^ ((ge d2 v.toNat).2.1).toNat) ∧ (a / 2 ^ ((ge d2 v.toNat).2.1).toNat) < 9223372036854775808 ∧ 0 ≤ (1 : Int) ∧ (1 : Int) < 9223372036854775808) ∧
(((((a / 2 ^ ((ge d2 v.toNat).2.1).toNat).toNat &&& (1 : Int).toNat : Nat) : Int) < (((a / 2 ^ ((ge d2 v.toNat).1).toNat).toNat &&& (1 : Int).toNat : Nat) : Int) →
((0 ≤ ((ge d2 v.toNat).1) ∧ ((ge d2 v.toNat).1) < ((v2.length : Nat) : Int)) ∧
(In64 ((gi v2 ((ge d2 v.toNat).1).toNat) - ((ge d2 v.toNat).2.2)) ∧
((0 ≤ ((ge d2 v.toNat).2.1) ∧ ((ge d2 v.toNat).2.1) < (((v2.set ((ge d2 v.toNat).1).toNat ((gi v2 ((ge d2 v.toNat).1).toNat) - ((ge d2 v.toNat).2.2))).length : Nat) : Int)) ∧
(In64 ((gi (v2.set ((ge d2 v.toNat).1).toNat ((gi v2 ((ge d2 v.toNat).1).toNat) - ((ge d2 v.toNat).2.2))) ((ge d2 v.toNat).2.1).toNat) + ((ge d2 v.toNat).2.2)) ∧
(In64 (v + 1) ∧
∃ m3, m3 < m2 ∧ I2 m3 (v + 1) ((v2.set ((ge d2 v.toNat).1).toNat ((gi v2 ((ge d2 v.toNat).1).toNat) - ((ge d2 v.toNat).2.2))).set ((ge d2 v.toNat).2.1).toNat ((gi (v2.set ((ge d2 v.toNat).1).toNat ((gi v2 ((ge d2 v.toNat).1).toNat) - ((ge d2 v.toNat).2.2))) ((ge d2 v.toNat).2.1).toNat) + ((ge d2 v.toNat).2.2))))))))) ∧
(¬ ((((a / 2 ^ ((ge d2 v.toNat).2.1).toNat).toNat &&& (1 : Int).toNat : Nat) : Int) < (((a / 2 ^ ((ge d2 v.toNat).1).toNat).toNat &&& (1 : Int).toNat : Nat) : Int)) →
(((((a / 2 ^ ((ge d2 v.toNat).1).toNat).toNat &&& (1 : Int).toNat : Nat) : Int) < (((a / 2 ^ ((ge d2 v.toNat).2.1).toNat).toNat &&& (1 : Int).toNat : Nat) : Int) →
((0 ≤ ((ge d2 v.toNat).2.1) ∧ ((ge d2 v.toNat).2.1) < ((v2.length : Nat) : Int)) ∧
(In64 ((gi v2 ((ge d2 v.toNat).2.1).toNat) - ((ge d2 v.toNat).2.2)) ∧
((0 ≤ ((ge d2 v.toNat).1) ∧ ((ge d2 v.toNat).1) < (((v2.set ((ge d2 v.toNat).2.1).toNat ((gi v2 ((ge d2 v.toNat).2.1).toNat) - ((ge d2 v.toNat).2.2))).length : Nat) : Int)) ∧
(In64 ((gi (v2.set ((ge d2 v.toNat).2.1).toNat ((gi v2 ((ge d2 v.toNat).2.1).toNat) - ((ge d2 v.toNat).2.2))) ((ge d2 v.toNat).1).toNat) + ((ge d2 v.toNat).2.2)) ∧
(In64 (v + 1) ∧
∃ m4, m4 < m2 ∧ I2 m4 (v + 1) ((v2.set ((ge d2 v.toNat).2.1).toNat ((gi v2 ((ge d2 v.toNat).2.1).toNat) - ((ge d2 v.toNat).2.2))).set ((ge d2 v.toNat).1).toNat ((gi (v2.set ((ge d2 v.toNat).2.1).toNat ((gi v2 ((ge d2 v.toNat).2.1).toNat) - ((ge d2 v.toNat).2.2))) ((ge d2 v.toNat).1).toNat) + ((ge d2 v.toNat).2.2))))))))) ∧
(¬ ((((a / 2 ^ ((ge d2 v.toNat).1).toNat).toNat &&& (1 : Int).toNat : Nat) : Int) < (((a / 2 ^ ((ge d2 v.toNat).2.1).toNat).toNat &&& (1 : Int).toNat : Nat) : Int)) →
(In64 (v + 1) ∧
∃ m5, m5 < m2 ∧ I2 m5 (v + 1) v2))))))))))) ∧
(¬ (v < ((d2.length : Nat) : Int)) →
yaV v2 (fun r2 =>
R v2 r2)))))
theorem yei {O : Nat → Prop} {w : World} {d d2 i a Ad ld cd Ai li ci} {R : (List Int) → Bool → Prop} (h : ybM d d2 i a R) (hO : ∀ k, O k → k < w.heap.size) (hA0 : (FP.sl c3 Ad ld cd d2).P O w) (hA1 : (FP.sl cI Ai li ci i).P O w) :
    Calls Tryz.prog 195 #[(.agg #[(ii d), (.slice Ad ld cd)]), (.slice Ai li ci), (ii a)] w fun e w' => ∃ r3 r4 Ar2 lr2 cr2, e = .returned (.tuple #[(.slice Ar2 lr2 cr2), (.bool (r4))]) ∧ Sep w no O w' (rl [Res.own cI 3 Ar2 lr2 cr2 r3]) ∧ R r3 r4 := by
  unfold ybM at h; have hS : Sep w no O w (rl [Res.ro (FP.sl c3 Ad ld cd d2), Res.ro (FP.sl cI Ai li ci i)]) := Sep.startl hO [(FP.sl c3 Ad ld cd d2), (FP.sl cI Ai li ci i)] ⟨hA0, hA1, trivial⟩; refine yan (l := [(.agg #[(ii d), (.slice Ad ld cd)]), (.slice Ai li ci), (ii a)]) func195 rfl ntmps195 (Nat.le_of_ble_eq_true rfl) (zs (zn (yb6 (v := (.agg #[(ii d), (.slice Ad ld cd)])) rfl ?_))); intro g w2 hN; replace hS : Sep w no O w2 (stl _ 2 (Res.box 24 g [(ii d), (.slice Ad ld cd)])) := hS.new 2 rfl hN; clear hN; refine zb (zq (za (.slice none 0 0)) (zq (za (.bool (false))) (yaa (zs (zq (zm (.slice Ai li ci)) (zn (yal rfl (am1 rfl) enter_17 ((ycB h (yaN _) (hS.rdr 1 rfl)).mono ?_)))))))); rintro _ w3 ⟨r, Ar, lr, cr, rfl, hC, h⟩; replace hS := hS.call1 (hC.widen (yea (ybl (fI .i64) _ _ _ _ _) ye0) hS.blt) 3 0 rfl; clear hC; refine ⟨_, rfl, ?_⟩; refine zb (zq (za (.slice Ar lr cr)) (yaa (yaf (zs (zq (yam rfl underlying24 rfl ydy) (zq (zl underlying22 (Row.cell (hS.bx 2 rfl) (i := 1) rfl)) (zq (ybc (n := d2.length) rfl underlying22 (ya2 (hS.rdr 0 rfl))) (zq (zm (ii 0)) (yaa (yak ?_)))))))))); obtain ⟨I2, ⟨m0, h0⟩, hr⟩ := h; refine yaO (fun m E ds w' => ∃ v v2 Av lv cv, I2 m v v2 ∧ ds = [] ∧ E 2 = (ii a) ∧ E 8 = (Value.slice Av lv cv) ∧ E 16 = (Value.slice Ad ld cd) ∧ E 17 = (ii ((d2.length : Nat) : Int)) ∧ E 18 = (ii v) ∧ Sep w no O w' (rl [Res.own cI 3 Av lv cv v2, Res.ro (FP.sl c3 Ad ld cd d2)])) m0 ⟨_, _, _, _, _, h0, rfl, rfl, rfl, rfl, rfl, rfl, (hS.sel [3, 0] (by decide))⟩ ?_; clear h0 hS; rintro m2 E ds w4 ⟨v, v2, Av, lv, cv, h, rfl, hE2, hE8, hE16, hE17, hE18, hS⟩ again; replace h := hr m2 v v2 h; clear hr; refine zs (zq (yd4 hE18 hE17) (yaa (yaf ?_))); by_cases hp : v < ((d2.length : Nat) : Int)
  · replace h := h.1 hp; refine zc hp (yag (yaf (yak (zs ?_)))); obtain ⟨hx, h⟩ := h; refine zq (yeK hE16 hE18 underlying22 ybf (ybh (hS.rdr 1 rfl) hx)) (zq (yav (vs := [(ii ((ge d2 v.toNat).1)), (ii ((ge d2 v.toNat).2.1)), (ii ((ge d2 v.toNat).2.2))]) rfl underlying95 rfl ybf (rd_fs (hS.rdr 1 rfl) hx (fun q => yd6 q))) ?_); refine zn (ybJ ybf ?_); intro g2 w5 hN; replace hS : Sep w no O w5 (stl _ 2 (Res.box 95 g2 [(ii 0), (ii 0), (ii 0)])) := hS.new 2 rfl hN; clear hN; refine zb (zo (yeb (b := g2) (o := 0) (cells := #[(ii ((ge d2 v.toNat).1)), (ii ((ge d2 v.toNat).2.1)), (ii ((ge d2 v.toNat).2.2))]) rfl rfl ybf rfl rfl (yc7 (hS.bx 2 rfl) (Nat.le_of_ble_eq_true rfl)) ?_)); intro w6 e1; replace hS := hS.bstn 2 rfl 0 [(ii ((ge d2 v.toNat).1)), (ii ((ge d2 v.toNat).2.1)), (ii ((ge d2 v.toNat).2.2))] e1; clear e1; refine zb (yaa (yaf (ybt [0, 1, 2, 3, 4, 5, 6, 7, 8, 9, 10, 11] st0 yaQ (by kernel_rfl) (by kernel_rfl) ?_))); replace hS := hS.drew; refine zp (yae hE2) (zp (yam rfl underlying95 rfl yaj) (zp (zl underlying3 (Row.cell (hS.bx 2 rfl) (i := 0) rfl)) ?_)); obtain ⟨hz, h⟩ := h; refine zp (v_shr rfl rfl hz) ?_; obtain ⟨hz2, h⟩ := h; refine zp (v_andb rfl rfl hz2) (zp (yae hE2) (zp (yam rfl underlying95 rfl yaj) (zp (zl underlying3 (Row.cell (hS.bx 2 rfl) (i := 1) rfl)) ?_))); obtain ⟨hz3, h⟩ := h; refine zp (v_shr rfl rfl hz3) ?_; obtain ⟨hz4, h⟩ := h; refine zp (v_andb rfl rfl hz4) (zp (za (ii (((a / 2 ^ ((ge d2 v.toNat).1).toNat).toNat &&& (1 : Int).toNat : Nat) : Int))) (zp (za (ii (((a / 2 ^ ((ge d2 v.toNat).2.1).toNat).toNat &&& (1 : Int).toNat : Nat) : Int))) (yb4 (yak (zs (zq (zm (ii (((a / 2 ^ ((ge d2 v.toNat).1).toNat).toNat &&& (1 : Int).toNat : Nat) : Int))) (zq (zm (ii (((a / 2 ^ ((ge d2 v.toNat).2.1).toNat).toNat &&& (1 : Int).toNat : Nat) : Int))) (zq zG (zq (za (.bool (decide ((((a / 2 ^ ((ge d2 v.toNat).2.1).toNat).toNat &&& (1 : Int).toNat : Nat) : Int) < (((a / 2 ^ ((ge d2 v.toNat).1).toNat).toNat &&& (1 : Int).toNat : Nat) : Int))))) (yaa ?_)))))))))); by_cases hp2 : (((a / 2 ^ ((ge d2 v.toNat).2.1).toNat).toNat &&& (1 : Int).toNat : Nat) : Int) < (((a / 2 ^ ((ge d2 v.toNat).1).toNat).toNat &&& (1 : Int).toNat : Nat) : Int)
    · replace h := h.1 hp2; refine zc hp2 (yaf (ybt [0, 1, 2, 3, 4, 5, 6, 7, 8, 9] st0 yaQ (by kernel_rfl) (by kernel_rfl) ?_)); replace hS := hS.drew; refine zp (yae hE8) (zp (yam rfl underlying95 rfl yaj) (zp (zl underlying3 (Row.cell (hS.bx 2 rfl) (i := 0) rfl)) ?_)); obtain ⟨hx2, h⟩ := h; refine zp (zi underlying26 yaj (ybh (hS.rdo 0 rfl) hx2)) (zp (yaA (v := (ii (gi v2 ((ge d2 v.toNat).1).toNat))) rfl underlying3 rfl (rd_1 (hS.rdo 0 rfl) hx2 (fun q => ybs q) rfl)) ?_); refine zp (yam rfl underlying95 rfl yaj) (zp (zl underlying3 (Row.cell (hS.bx 2 rfl) (i := 2) rfl)) ?_); obtain ⟨hi, h⟩ := h; refine zp (zS hi) (zp (zi underlying26 yaj (ybh (hS.rdo 0 rfl) hx2)) (yhC rfl rfl rfl (zt (ii ((gi v2 ((ge d2 v.toNat).1).toNat) - ((ge d2 v.toNat).2.2))) yaj (hS.wr 0 rfl rfl hx2) ?_))); intro w7 e1; replace hS := hS.st 0 rfl rfl hx2 (x := (gi v2 ((ge d2 v.toNat).1).toNat) - ((ge d2 v.toNat).2.2)) rfl e1; clear e1; refine zb (yb4 (ybt [0, 1, 2, 3, 4, 5, 6, 7, 8, 9] st0 yaQ (by kernel_rfl) (by kernel_rfl) ?_)); replace hS := hS.drew; refine zp (yae hE8) (zp (yam rfl underlying95 rfl yaj) (zp (zl underlying3 (Row.cell (hS.bx 2 rfl) (i := 1) rfl)) ?_)); obtain ⟨hx3, h⟩ := h; refine zp (zi underlying26 yaj (ybh (hS.rdo 0 rfl) hx3)) (zp (yaA (v := (ii (gi (v2.set ((ge d2 v.toNat).1).toNat ((gi v2 ((ge d2 v.toNat).1).toNat) - ((ge d2 v.toNat).2.2))) ((ge d2 v.toNat).2.1).toNat))) rfl underlying3 rfl (rd_1 (hS.rdo 0 rfl) hx3 (fun q => ybs q) rfl)) ?_); refine zp (yam rfl underlying95 rfl yaj) (zp (zl underlying3 (Row.cell (hS.bx 2 rfl) (i := 2) rfl)) ?_); obtain ⟨hi2, h⟩ := h; refine zp (zA hi2) (zp (zi underlying26 yaj (ybh (hS.rdo 0 rfl) hx3)) (yhC rfl rfl rfl (zt (ii ((gi (v2.set ((ge d2 v.toNat).1).toNat ((gi v2 ((ge d2 v.toNat).1).toNat) - ((ge d2 v.toNat).2.2))) ((ge d2 v.toNat).2.1).toNat) + ((ge d2 v.toNat).2.2))) yaj (hS.wr 0 rfl rfl hx3) ?_))); intro w8 e1; replace hS := hS.st 0 rfl rfl hx3 (x := (gi (v2.set ((ge d2 v.toNat).1).toNat ((gi v2 ((ge d2 v.toNat).1).toNat) - ((ge d2 v.toNat).2.2))) ((ge d2 v.toNat).2.1).toNat) + ((ge d2 v.toNat).2.2)) rfl e1; clear e1; refine zb (yb4 (yai (yai (zr ?_)))); obtain ⟨hi3, h⟩ := h; refine zq (ycv hE18 rfl hi3) (zq (zm (ii (v + 1))) (yaa ?_)); obtain ⟨mq, hlt, h⟩ := h; exact again mq _ _ _ ⟨_, _, _, _, _, h, rfl, hE2, hE8, hE16, hE17, rfl, (hS.sel [0, 1] (by decide))⟩ hlt
    · replace h := h.2 hp2; refine zd hp2 (zs (zq (zm (ii (((a / 2 ^ ((ge d2 v.toNat).2.1).toNat).toNat &&& (1 : Int).toNat : Nat) : Int))) (zq (zm (ii (((a / 2 ^ ((ge d2 v.toNat).1).toNat).toNat &&& (1 : Int).toNat : Nat) : Int))) (zq zG (zq (za (.bool (decide ((((a / 2 ^ ((ge d2 v.toNat).1).toNat).toNat &&& (1 : Int).toNat : Nat) : Int) < (((a / 2 ^ ((ge d2 v.toNat).2.1).toNat).toNat &&& (1 : Int).toNat : Nat) : Int))))) (yaa ?_)))))); by_cases hp3 : (((a / 2 ^ ((ge d2 v.toNat).1).toNat).toNat &&& (1 : Int).toNat : Nat) : Int) < (((a / 2 ^ ((ge d2 v.toNat).2.1).toNat).toNat &&& (1 : Int).toNat : Nat) : Int)
      · replace h := h.1 hp3; refine zc hp3 (yaf (ybt [0, 1, 2, 3, 4, 5, 6, 7, 8, 9] st0 yaQ (by kernel_rfl) (by kernel_rfl) ?_)); replace hS := hS.drew; refine zp (yae hE8) (zp (yam rfl underlying95 rfl yaj) (zp (zl underlying3 (Row.cell (hS.bx 2 rfl) (i := 1) rfl)) ?_)); obtain ⟨hx4, h⟩ := h; refine zp (zi underlying26 yaj (ybh (hS.rdo 0 rfl) hx4)) (zp (yaA (v := (ii (gi v2 ((ge d2 v.toNat).2.1).toNat))) rfl underlying3 rfl (rd_1 (hS.rdo 0 rfl) hx4 (fun q => ybs q) rfl)) ?_); refine zp (yam rfl underlying95 rfl yaj) (zp (zl underlying3 (Row.cell (hS.bx 2 rfl) (i := 2) rfl)) ?_); obtain ⟨hi4, h⟩ := h; refine zp (zS hi4) (zp (zi underlying26 yaj (ybh (hS.rdo 0 rfl) hx4)) (yhC rfl rfl rfl (zt (ii ((gi v2 ((ge d2 v.toNat).2.1).toNat) - ((ge d2 v.toNat).2.2))) yaj (hS.wr 0 rfl rfl hx4) ?_))); intro w9 e1; replace hS := hS.st 0 rfl rfl hx4 (x := (gi v2 ((ge d2 v.toNat).2.1).toNat) - ((ge d2 v.toNat).2.2)) rfl e1; clear e1; refine zb (yb4 (ybt [0, 1, 2, 3, 4, 5, 6, 7, 8, 9] st0 yaQ (by kernel_rfl) (by kernel_rfl) ?_)); replace hS := hS.drew; refine zp (yae hE8) (zp (yam rfl underlying95 rfl yaj) (zp (zl underlying3 (Row.cell (hS.bx 2 rfl) (i := 0) rfl)) ?_)); obtain ⟨hx5, h⟩ := h; refine zp (zi underlying26 yaj (ybh (hS.rdo 0 rfl) hx5)) (zp (yaA (v := (ii (gi (v2.set ((ge d2 v.toNat).2.1).toNat ((gi v2 ((ge d2 v.toNat).2.1).toNat) - ((ge d2 v.toNat).2.2))) ((ge d2 v.toNat).1).toNat))) rfl underlying3 rfl (rd_1 (hS.rdo 0 rfl) hx5 (fun q => ybs q) rfl)) ?_); refine zp (yam rfl underlying95 rfl yaj) (zp (zl underlying3 (Row.cell (hS.bx 2 rfl) (i := 2) rfl)) ?_); obtain ⟨hi5, h⟩ := h; refine zp (zA hi5) (zp (zi underlying26 yaj (ybh (hS.rdo 0 rfl) hx5)) (yhC rfl rfl rfl (zt (ii ((gi (v2.set ((ge d2 v.toNat).2.1).toNat ((gi v2 ((ge d2 v.toNat).2.1).toNat) - ((ge d2 v.toNat).2.2))) ((ge d2 v.toNat).1).toNat) + ((ge d2 v.toNat).2.2))) yaj (hS.wr 0 rfl rfl hx5) ?_))); intro w10 e1; replace hS := hS.st 0 rfl rfl hx5 (x := (gi (v2.set ((ge d2 v.toNat).2.1).toNat ((gi v2 ((ge d2 v.toNat).2.1).toNat) - ((ge d2 v.toNat).2.2))) ((ge d2 v.toNat).1).toNat) + ((ge d2 v.toNat).2.2)) rfl e1; clear e1; refine zb (yb4 (yai (yai (zr ?_)))); obtain ⟨hi6, h⟩ := h; refine zq (ycv hE18 rfl hi6) (zq (zm (ii (v + 1))) (yaa ?_)); obtain ⟨mq, hlt, h⟩ := h; exact again mq _ _ _ ⟨_, _, _, _, _, h, rfl, hE2, hE8, hE16, hE17, rfl, (hS.sel [0, 1] (by decide))⟩ hlt
      · replace h := h.2 hp3; refine zd hp3 (yag (yai (yai (zr ?_)))); obtain ⟨hi7, h⟩ := h; refine zq (ycv hE18 rfl hi7) (zq (zm (ii (v + 1))) (yaa ?_)); obtain ⟨mq, hlt, h⟩ := h; exact again mq _ _ _ ⟨_, _, _, _, _, h, rfl, hE2, hE8, hE16, hE17, rfl, (hS.sel [0, 1] (by decide))⟩ hlt
  · replace h := h.2 hp; refine zd hp (yaH rfl (zs (zq (yae hE8) (zq (yae hE8) (zn (yal rfl (am1 rfl) yhy ((ycp h (yaN _) (hS.rdo 0 rfl)).mono ?_))))))); rintro _ w11 ⟨r2, rfl, hC, h⟩; replace hS := hS.pur hC.pure; clear hC; refine ⟨_, rfl, ?_⟩; exact zb (zq (za (.slice Av lv cv)) (zq (za (.bool (r2))) (yaa (ybF rfl rfl rfl ⟨_, _, _, _, _, rfl, (hS.sel [0] (by decide)), h⟩))))
def ybK (d : List Int) (R : (List Int) → Prop) : Prop :=
(0 < d.length ∧
((cpy (List.replicate 12 (0 : Int)) d).length = 12 ∧
R (cpy (List.replicate 12 (0 : Int)) d)))
theorem yem {O : Nat → Prop} {w : World} {d Ad ld cd} {R : (List Int) → Prop} (h : ybK d R) (hO : ∀ k, O k → k < w.heap.size) (hA0 : (FP.sl cI Ad ld cd d).P O w) :
    Calls Tryz.prog 148 #[(.slice Ad ld cd)] w fun e w' => ∃ r, e = .returned (kE r) ∧ Sep w no O w' (rl []) ∧ R r := by
  unfold ybK at h; have hS : Sep w no O w (rl [Res.ro (FP.sl cI Ad ld cd d)]) := Sep.startl hO [(FP.sl cI Ad ld cd d)] ⟨hA0, trivial⟩; refine yan (l := [(.slice Ad ld cd)]) func148 rfl ntmps148 (Nat.le_of_ble_eq_true rfl) (zs (zn (ybJ ydj ?_))); intro g w2 hN; replace hS := hS.made (n := 12) 1 rfl cI (ii 0) (0 : Int) (fun _ _ => rfl) (hN : New _ _ _ (Array.replicate 12 (ii 0)) 151) (by decide); clear hN; refine zb (yaa (zs (zn (ybJ ydj ?_)))); intro g2 w3 hN; replace hS := hS.made (n := 12) 2 rfl cI (ii 0) (0 : Int) (fun _ _ => rfl) (hN : New _ _ _ (Array.replicate 12 (ii 0)) 151) (by decide); clear hN; refine zb (yaa (zs (zq (ykw rfl underlying151 yaj) (zq (zm (.slice Ad ld cd)) ?_)))); obtain ⟨hx, h⟩ := h; refine zn (n_cpy rfl rfl underlying25 yaj hS 2 rfl (hS.rdr 0 rfl) hx ?_); clear hS; intro w4 hS; refine zb (yaa (zs (zq (yav (vs := (cpy (List.replicate 12 (0 : Int)) d).map (.int .i64)) rfl underlying151 rfl (ygv ydj (hS.rdo 2 rfl)) (yfG (hS.rdo 2 rfl))) ?_))); obtain ⟨hx2, h⟩ := h; refine zo (n_starr rfl rfl ydj hS 1 rfl hx2 ?_); clear hS; intro w5 hS; exact zb (yaa (wt_retx1 rfl (rv_a rfl underlying151 rfl ydj hS 1 rfl) ⟨_, rfl, (hS.sel [] (by decide)), h⟩))
def yaK (d : List (List Int)) (Fi : (List Int) → (List Int) → (Bool → Prop) → Prop) (R : (List (List Int)) → Prop) : Prop :=
((((d.length : Nat) : Int) < 2 →
R d) ∧
(¬ (((d.length : Nat) : Int) < 2) →
(∃ I2 : Nat → Int → Prop, (∃ m0, I2 m0 1) ∧ ∀ m2 v, I2 m2 v → 
((v < ((d.length : Nat) : Int) →
((0 ≤ v ∧ v < ((d.length : Nat) : Int)) ∧
(In64 (v - 1) ∧
((0 ≤ (v - 1) ∧ (v - 1) < ((d.length : Nat) : Int)) ∧
Fi (gx d v.toNat) (gx d (v - 1).toNat) (fun (r : Bool) =>
((r = true →
False) ∧
(¬ (r = true) →
(In64 (v + 1) ∧
∃ m3, m3 < m2 ∧ I2 m3 (v + 1))))))))) ∧
(¬ (v < ((d.length : Nat) : Int)) →
R d)))))
theorem ycT {O : Nat → Prop} {w : World} {d : List (List Int)} {Fi : (List Int) → (List Int) → (Bool → Prop) → Prop} {Ad : Option Addr} {ld : Nat} {cd : Nat} {i : Value} {R : (List (List Int)) → Prop} (h : yaK d Fi R) (hO : ∀ k, O k → k < w.heap.size) (hA0 : (FP.sl (cL cI) Ad ld cd d).P O w) (hA1 : (FP.st fun w' => ∃ (fid : Nat) (us : Array Value), i = Value.func (.func fid) #[] us ∧ Enters Tryz.prog fid ∧ ∀ (x0 : List Int) (x1 : List Int) (Ax0 : Option Addr) (lx0 : Nat) (cx0 : Nat) (Ax1 : Option Addr) (lx1 : Nat) (cx1 : Nat) (R : Bool → Prop), Fi x0 x1 R → (FP.sl cI Ax0 lx0 cx0 x0).P no w' → (FP.sl cI Ax1 lx1 cx1 x1).P no w' → Calls Tryz.prog fid (#[(Value.slice Ax0 lx0 cx0), (Value.slice Ax1 lx1 cx1)] ++ us) w' fun e w'' => ∃ r0 : Bool, e = .returned (Value.bool (r0)) ∧ Sep w' no no w'' (rl []) ∧ R r0).P O w) :
    Calls Tryz.prog 197 #[(.slice Ad ld cd), i] w fun e w' => ∃ r2 Ar lr cr, e = .returned (.slice Ar lr cr) ∧ Sep w no O w' (rl [Res.ro (FP.sl (cL cI) Ar lr cr r2)]) ∧ R r2 := by
  unfold yaK at h; have hS : Sep w no O w (rl [Res.ro (FP.sl (cL cI) Ad ld cd d), Res.ro (FP.st fun w' => ∃ (fid : Nat) (us : Array Value), i = Value.func (.func fid) #[] us ∧ Enters Tryz.prog fid ∧ ∀ (x0 : List Int) (x1 : List Int) (Ax0 : Option Addr) (lx0 : Nat) (cx0 : Nat) (Ax1 : Option Addr) (lx1 : Nat) (cx1 : Nat) (R : Bool → Prop), Fi x0 x1 R → (FP.sl cI Ax0 lx0 cx0 x0).P no w' → (FP.sl cI Ax1 lx1 cx1 x1).P no w' → Calls Tryz.prog fid (#[(Value.slice Ax0 lx0 cx0), (Value.slice Ax1 lx1 cx1)] ++ us) w' fun e w'' => ∃ r0 : Bool, e = .returned (Value.bool (r0)) ∧ Sep w' no no w'' (rl []) ∧ R r0)]) := Sep.startl hO [(FP.sl (cL cI) Ad ld cd d), (FP.st fun w' => ∃ (fid : Nat) (us : Array Value), i = Value.func (.func fid) #[] us ∧ Enters Tryz.prog fid ∧ ∀ (x0 : List Int) (x1 : List Int) (Ax0 : Option Addr) (lx0 : Nat) (cx0 : Nat) (Ax1 : Option Addr) (lx1 : Nat) (cx1 : Nat) (R : Bool → Prop), Fi x0 x1 R → (FP.sl cI Ax0 lx0 cx0 x0).P no w' → (FP.sl cI Ax1 lx1 cx1 x1).P no w' → Calls Tryz.prog fid (#[(Value.slice Ax0 lx0 cx0), (Value.slice Ax1 lx1 cx1)] ++ us) w' fun e w'' => ∃ r0 : Bool, e = .returned (Value.bool (r0)) ∧ Sep w' no no w'' (rl []) ∧ R r0)] ⟨hA0, hA1, trivial⟩; refine yan (l := [(Value.slice Ad ld cd), i]) func197 rfl ntmps197 (Nat.le_of_ble_eq_true rfl) ?_; refine yaf ?_; refine ya5 yaQ ?_; refine rl_q rfl rfl rfl (ydi (v := (.slice none 0 0)) rfl) ?_; refine yaa ?_; refine yaf ?_; refine yaf ?_; refine ya5 yaQ ?_; refine rl_q rfl rfl rfl (yae (v := (.slice Ad ld cd)) rfl) ?_; refine rl_q rfl rfl rfl (ybc (n := d.length) rfl underlying44 (ya2 (hS.rdr 0 rfl))) ?_; refine rl_q rfl rfl rfl (yd4 rfl rfl) ?_; refine yaa ?_; by_cases hp : ((d.length : Nat) : Int) < 2
  · replace h := h.1 hp; exact zc hp (zs (zq (zm (.slice Ad ld cd)) (zq (za (.slice Ad ld cd)) (yaa (yah rfl rfl ⟨_, _, _, _, rfl, (hS.sel [0] (by decide)), h⟩)))))
  · replace h := h.2 hp; refine yax (congrArg Value.bool (decide_eq_false hp)) ?_; refine yag ?_; refine yaf ?_; refine yaf ?_; refine ya5 yaQ ?_; refine rl_q rfl rfl rfl (ydi (v := (.int .i64 1)) rfl) ?_; refine yaa ?_; refine yak ?_; obtain ⟨I2, ⟨m0, h0⟩, hr⟩ := h; refine yaO (fun m E ds w' => ∃ v : Int, I2 m v ∧ ds = [] ∧ E 0 = (Value.slice Ad ld cd) ∧ E 1 = i ∧ E 5 = (Value.int .i64 v) ∧ Sep w no O w' (rl [Res.ro (FP.sl (cL cI) Ad ld cd d), Res.ro (FP.st fun w' => ∃ (fid : Nat) (us : Array Value), i = Value.func (.func fid) #[] us ∧ Enters Tryz.prog fid ∧ ∀ (x0 : List Int) (x1 : List Int) (Ax0 : Option Addr) (lx0 : Nat) (cx0 : Nat) (Ax1 : Option Addr) (lx1 : Nat) (cx1 : Nat) (R : Bool → Prop), Fi x0 x1 R → (FP.sl cI Ax0 lx0 cx0 x0).P no w' → (FP.sl cI Ax1 lx1 cx1 x1).P no w' → Calls Tryz.prog fid (#[(Value.slice Ax0 lx0 cx0), (Value.slice Ax1 lx1 cx1)] ++ us) w' fun e w'' => ∃ r0 : Bool, e = .returned (Value.bool (r0)) ∧ Sep w' no no w'' (rl []) ∧ R r0)])) m0 ⟨_, h0, rfl, rfl, rfl, rfl, (hS.sel [0, 1] (by decide))⟩ ?_; clear h0 hS; rintro m2 E ds w2 ⟨v, h, rfl, hE0, hE1, hE5, hS⟩ again; replace h := hr m2 v h; clear hr; refine yaf ?_; refine yaf ?_; refine ya5 yaQ ?_; refine rl_q rfl rfl rfl (yae (v := (.int .i64 v)) hE5) ?_; refine rl_q rfl rfl rfl (yae (v := (.slice Ad ld cd)) hE0) ?_; refine rl_q rfl rfl rfl (ybc (n := d.length) rfl underlying44 (ya2 (hS.rdr 0 rfl))) ?_; refine rl_q rfl rfl rfl (yd4 rfl rfl) ?_; refine yaa ?_; by_cases hp2 : v < ((d.length : Nat) : Int)
    · replace h := h.1 hp2; refine zc hp2 (yag (yaf (yak (yaf (ybt [0, 1, 2, 3, 4, 5, 6, 7, 8, 9, 10] st0 yaQ (by kernel_rfl) (by kernel_rfl) ?_))))); replace hS := hS.drew; refine zp (yae hE1) (zp (yae hE0) (zp (yae hE5) ?_)); obtain ⟨hx, h⟩ := h; refine zp (zi underlying44 ya0 (ybh (hS.rdr 0 rfl) hx)) ?_; obtain ⟨A, l, c, hc, hq⟩ := hS.el 0 rfl hx 2 3 rfl rfl (by decide); replace hS := hq; clear hq; refine zp (yaA (v := (.slice A l c)) rfl underlying26 rfl (hS.clr 3 rfl)) (zp (yae hE0) (zp (yae hE5) ?_)); obtain ⟨hi, h⟩ := h; refine zp (zS hi) ?_; obtain ⟨hx2, h⟩ := h; refine zp (zi underlying44 ya0 (ybh (hS.rdr 0 rfl) hx2)) ?_; obtain ⟨A2, l2, c2, hc2, hq⟩ := hS.el 0 rfl hx2 4 5 rfl rfl (by decide); replace hS := hq; clear hq; refine zp (yaA (v := (.slice A2 l2 c2)) rfl underlying26 rfl (hS.clr 5 rfl)) ?_; obtain ⟨fid, us, hf, he, hcl⟩ := hS.ro 1 rfl _ (Keeps.refl _ _); replace h := hcl _ _ _ _ _ _ _ _ _ h (hS.rdr 2 rfl) (hS.rdr 4 rfl); clear hcl; refine rp_n rfl rfl rfl rfl (yeH (hf) (am2 rfl rfl) he (h.mono ?_)); clear hf he; rintro _ w3 ⟨r, rfl, hC, h⟩; replace hS := hS.pur hC.pure; clear hC; refine ⟨_, rfl, ?_⟩; refine zb (yb4 ?_); by_cases hp3 : r = true
      · replace h := h.1 hp3; exact yaq (congrArg Value.bool hp3) (zs (zq (yae hE0) (zq (yae hE5) h.elim)))
      · replace h := h.2 hp3; refine yax (congrArg Value.bool (Bool.eq_false_iff.2 hp3)) (yag (yai (zr (zq (yae hE5) ?_)))); obtain ⟨hi2, h⟩ := h; refine zq (zA hi2) (zq (za (ii (v + 1))) (yaa ?_)); obtain ⟨mq, hlt, h⟩ := h; exact again mq _ _ _ ⟨_, h, rfl, hE0, hE1, rfl, (hS.sel [0, 1] (by decide))⟩ hlt
    · replace h := h.2 hp2; exact zd hp2 (yaH rfl (zs (zq (yae hE0) (zq (za (.slice Ad ld cd)) (yaa (yah rfl rfl ⟨_, _, _, _, rfl, (hS.sel [0] (by decide)), h⟩))))))
def ybC (a : List Int) (b : List Int) (R : Bool → Prop) : Prop :=
yaz a b (fun r =>
R r)
theorem yfs {O : Nat → Prop} {w : World} {a b Aa la ca Ab lb cb} {R : Bool → Prop} (h : ybC a b R) (hO : ∀ k, O k → k < w.heap.size) (hA0 : (FP.sl cI Aa la ca a).P O w) (hA1 : (FP.sl cI Ab lb cb b).P O w) :
    Calls Tryz.prog 198 #[(.slice Aa la ca), (.slice Ab lb cb)] w fun e w' => ∃ r2, e = .returned (.bool (r2)) ∧ Sep w no O w' (rl []) ∧ R r2 := by
  unfold ybC at h; have hS : Sep w no O w (rl [Res.ro (FP.sl cI Aa la ca a), Res.ro (FP.sl cI Ab lb cb b)]) := Sep.startl hO [(FP.sl cI Aa la ca a), (FP.sl cI Ab lb cb b)] ⟨hA0, hA1, trivial⟩; refine yan (l := [(.slice Aa la ca), (.slice Ab lb cb)]) func198 rfl ntmps198 (Nat.le_of_ble_eq_true rfl) (zs (zq (za (.bool (false))) (yaa (zs (zq (zm (.slice Aa la ca)) (zq (zm (.slice Ab lb cb)) (zn (yal rfl (am2 rfl rfl) yeX ((yaP h (yaN _) (hS.rdr 0 rfl) (hS.rdr 1 rfl)).mono ?_))))))))); rintro _ w2 ⟨r, rfl, hC, h⟩; replace hS := hS.pur hC.pure; clear hC; refine ⟨_, rfl, ?_⟩; exact zb (zq (za (.bool (r))) (yaa (yah rfl rfl ⟨_, rfl, (hS.sel [] (by decide)), h⟩)))
def ybu (l : List (List Int)) (R : (List (List Int)) → Prop) : Prop :=
yej l (fun y =>
yaK y (fun x x2 R => ybC x x2 R) (fun r =>
R r))
theorem ydS {S O : Nat → Prop} {w : World} {l Al ll cl} {R : (List (List Int)) → Prop} (h : ybu l R) (hS : Sep w S O w (rl [Res.own (cL cI) 26 Al ll cl l])) :
    Calls Tryz.prog 145 #[(.slice Al ll cl)] w fun e w' => ∃ r2 Ar2 lr2 cr2, e = .returned (.slice Ar2 lr2 cr2) ∧ Sep w S O w' (rl [Res.ro (FP.sl (cL cI) Ar2 lr2 cr2 r2)]) ∧ R r2 := by
  unfold ybu at h; refine yan (l := [(.slice Al ll cl)]) func145 rfl ntmps145 (Nat.le_of_ble_eq_true rfl) (zs (zq (za (.slice none 0 0)) (yaa (zs (zq (zm (.slice Al ll cl)) ?_))))); have hB := hS.lend (asc [(0, 0)]) [0] (by decide) ⟨.inl (ycu rfl), trivial⟩; refine zn (yeH (vs := #[(.slice Al ll cl), (.func (Fn.func 196) #[] #[])]) (us := #[]) rfl (am2 rfl rfl) enter_121 ((ybp (by simp) (yf0 h hB)).mono ?_)); rintro _ w2 ⟨y, rfl, hC, h⟩; replace hS := hS.back (asc [(0, 0)]) (yfu (by decide)) hC; clear hC hB; refine ⟨_, rfl, ?_⟩; refine zb (yaa (zs (zq (zm (.slice Al ll cl)) ?_))); replace hS := hS.frz 0 rfl; refine zn (yal rfl (am2 rfl rfl) enter_197 ((ycT h hS.blt (hS.ro 0 rfl) (fun w' hk => ⟨198, #[], rfl, enter_198, fun x x2 Ax lx cx Ax2 lx2 cx2 R hF hz0 hz1 => ybp (by simp) (yfs hF (yaN _) hz0 hz1)⟩)).mono ?_)); rintro _ w3 ⟨r, Ar, lr, cr, rfl, hC, h⟩; replace hS := hS.call1 hC 1 0 rfl; clear hC; refine ⟨_, rfl, ?_⟩; exact zb (zq (za (.slice Ar lr cr)) (yaa (yah rfl rfl ⟨_, _, _, _, rfl, (hS.sel [1] (by decide)), h⟩)))
def ybE (x : List Int) (cap : List (List Int × Bool)) (cap2 : List (List Int)) (R : (List (List Int × Bool)) → (List (List Int)) → Prop) : Prop :=
ybK x (fun r =>
(r.length = 12 ∧
(KOk 12 cap ∧
yfx 12 r ∧
((((mget cap r).getD false) = true →
R cap cap2) ∧
(¬ (((mget cap r).getD false) = true) →
(cap2.length + 1 ≤ 1000000000 ∧
R (mput cap r true) (cap2 ++ [x])))))))
theorem yfj {S O : Nat → Prop} {w : World} {x cap cap2 Ax lx cx gc gm gc2 Acap lcap ccap} {R : (List (List Int × Bool)) → (List (List Int)) → Prop} (h : ybE x cap cap2 R) (hS : Sep w S O w (rl [Res.ro (FP.sl cI Ax lx cx x), Res.box 153 gc [(Value.map (some gm))], Res.obj gm (mapO Value.bool cap), Res.box 44 gc2 [(Value.slice Acap lcap ccap)], Res.own (cL cI) 26 Acap lcap ccap cap2])) :
    Calls Tryz.prog 149 #[(.slice Ax lx cx), (.pointer (some (⟨gc, 0, none⟩ : Addr))), (.pointer (some (⟨gc2, 0, none⟩ : Addr)))] w fun e w' => ∃ z z2 Az lz cz, e = .returned (.tuple #[]) ∧ Sep w S O w' (rl [Res.box 153 gc [(Value.map (some gm))], Res.obj gm (mapO Value.bool z), Res.box 44 gc2 [(.slice Az lz cz)], Res.own (cL cI) 26 Az lz cz z2]) ∧ R z z2 := by
  unfold ybE at h; refine yan (l := [(.slice Ax lx cx), (.pointer (some (⟨gc, 0, none⟩ : Addr))), (.pointer (some (⟨gc2, 0, none⟩ : Addr)))]) func149 rfl ntmps149 (Nat.le_of_ble_eq_true rfl) (zs (zq (zm (.slice Ax lx cx)) (zn (yal rfl (am1 rfl) enter_148 ((yem h (yaN _) (hS.rdr 0 rfl)).mono ?_))))); rintro _ w2 ⟨r, rfl, hC, h⟩; replace hS := hS.pur hC.pure; clear hC; refine ⟨_, rfl, ?_⟩; refine zb (zn (ybJ ydj ?_)); intro g w3 hN; replace hS := hS.made (n := 12) 5 rfl cI (ii 0) (0 : Int) (fun _ _ => rfl) (hN : New _ _ _ (Array.replicate 12 (ii 0)) 151) (by decide); clear hN; refine zb ?_; obtain ⟨hx, h⟩ := h; refine zo (n_starr rfl rfl ydj hS 5 rfl hx ?_); clear hS; intro w4 hS; refine zb (yaa (zs (zq (zl underlying153 (Row.cell (hS.bx 1 rfl) (i := 0) rfl)) (zq (yav (vs := r.map (.int .i64)) rfl underlying151 rfl (ygv ydj (hS.rdo 5 rfl)) (yfG (hS.rdo 5 rfl))) ?_)))); obtain ⟨hx2, h⟩ := h; obtain ⟨hx3, h⟩ := h; refine zn (n_val (v_mget1 (vE := Value.bool) (x0 := false) (keyt_151) hx2 hx3 rfl rfl underlying153 ycm (hS.mp 2 rfl)) ?_); refine zb (zq (ydn rfl) (yaa ?_)); by_cases hp : ((mget cap r).getD false) = true
  · replace h := h.1 hp; exact yax (congrArg Value.bool (congrArg Bool.not hp)) (yag (yew rfl ⟨_, _, _, _, _, rfl, (hS.sel [1, 2, 3, 4] (by decide)), h⟩))
  · replace h := h.2 hp; refine yaq (congrArg Value.bool (congrArg Bool.not (Bool.eq_false_iff.2 hp))) (zs (zq (zl underlying153 (Row.cell (hS.bx 1 rfl) (i := 0) rfl)) (zq (yav (vs := r.map (.int .i64)) rfl underlying151 rfl (ygv ydj (hS.rdo 5 rfl)) (yfG (hS.rdo 5 rfl))) (zo (n_mput (vE := Value.bool) (keyt_151) hx2 hx3 (v := true) rfl rfl rfl underlying153 (hS.mp 2 rfl) ?_))))); intro w5 e1 e2; replace hS := hS.mst 2 rfl e1 e2; clear e1 e2; refine zb (yaa (zr (zq (zl underlying44 (Row.cell (hS.bx 3 rfl) (i := 0) rfl)) (zq (zm (.slice Ax lx cx)) (zn (yaR (l := [(0, (.slice Ax lx cx))]) (cells := [(.slice Ax lx cx)]) (bp1 rfl) underlying44 ya0 rfl rfl ?_)))))); intro g2 w6 hN; replace hS := hS.lit (n := 1) (c := (cL cI)) 6 rfl hN ([x] : List (List Int)) rfl (by decide) ⟨[(.slice Ax lx cx)], _, rfl, (ro_R (hS.ro 0 rfl)), rfl⟩; clear hN; refine zb ?_; obtain ⟨hx4, h⟩ := h; refine zn (n_app (c := (cL cI)) rfl rfl underlying44 underlying44 ya0 rfl rfl (by decide) hS 4 rfl (hS.yo 6 rfl) hx4 ?_); clear hS; intro A c w7 hS; refine zb (zo (zt (.slice A (lcap + 1) c) yd7 (hS.bwr 3 rfl (j := 0) rfl) ?_)); intro w8 e1; replace hS := hS.bst 3 rfl 0 (.slice A (lcap + 1) c) e1; clear e1; exact zb (yaa (yew rfl ⟨_, _, _, _, _, rfl, (hS.sel [1, 2, 3, 4] (by decide)), h⟩))
def yca (g : Int) (g2 : List E3) (d : List Int) (each : List (List Int × Bool)) (each2 : List (List Int)) (R : (List (List Int × Bool)) → (List (List Int)) → Prop) : Prop :=
(∃ I2 : Nat → Int → (List (List Int × Bool)) → (List (List Int)) → Prop, (∃ m0, I2 m0 1 each each2) ∧ ∀ m2 set2 each3 each4, I2 m2 set2 each3 each4 → 
((0 ≤ g ∧ g < 64) ∧
In64 (1 * 2 ^ g.toNat) ∧
(In64 ((1 * 2 ^ g.toNat) - 1) ∧
((set2 < ((1 * 2 ^ g.toNat) - 1) →
ybM g g2 d set2 (fun r r2 =>
((r2 = true →
ybE r each3 each4 (fun y y2 =>
(In64 (set2 + 1) ∧
∃ m3, m3 < m2 ∧ I2 m3 (set2 + 1) y y2))) ∧
(¬ (r2 = true) →
(In64 (set2 + 1) ∧
∃ m4, m4 < m2 ∧ I2 m4 (set2 + 1) each3 each4))))) ∧
(¬ (set2 < ((1 * 2 ^ g.toNat) - 1)) →
R each3 each4)))))
theorem ygl {S O : Nat → Prop} {w : World} {g g2 d each each2 Ag lg cg Ad ld cd gc gm gc2 Aeach leach ceach} {R : (List (List Int × Bool)) → (List (List Int)) → Prop} (h : yca g g2 d each each2 R) (hS : Sep w S O w (rl [Res.ro (FP.sl c3 Ag lg cg g2), Res.ro (FP.sl cI Ad ld cd d), Res.box 153 gc [(Value.map (some gm))], Res.obj gm (mapO Value.bool each), Res.box 44 gc2 [(Value.slice Aeach leach ceach)], Res.own (cL cI) 26 Aeach leach ceach each2])) :
    Calls Tryz.prog 143 #[(.agg #[(ii g), (.slice Ag lg cg)]), (.slice Ad ld cd), (.func (Fn.func 149) #[] #[(.pointer (some (⟨gc, 0, none⟩ : Addr))), (.pointer (some (⟨gc2, 0, none⟩ : Addr)))])] w fun e w' => ∃ z z2 Az lz cz, e = .returned (.tuple #[]) ∧ Sep w S O w' (rl [Res.box 153 gc [(Value.map (some gm))], Res.obj gm (mapO Value.bool z), Res.box 44 gc2 [(.slice Az lz cz)], Res.own (cL cI) 26 Az lz cz z2]) ∧ R z z2 := by
  unfold yca at h; refine yan (l := [(.agg #[(ii g), (.slice Ag lg cg)]), (.slice Ad ld cd), (.func (Fn.func 149) #[] #[(.pointer (some (⟨gc, 0, none⟩ : Addr))), (.pointer (some (⟨gc2, 0, none⟩ : Addr)))])]) func143 rfl ntmps143 (Nat.le_of_ble_eq_true rfl) (zs (zn (yb6 (v := (.agg #[(ii g), (.slice Ag lg cg)])) rfl ?_))); intro g3 w2 hN; replace hS : Sep w S O w2 (stl _ 6 (Res.box 24 g3 [(ii g), (.slice Ag lg cg)])) := hS.new 6 rfl hN; clear hN; refine zb (yaa (zs (zq (za (ii 1)) (yaa (yak ?_))))); obtain ⟨I2, ⟨m0, h0⟩, hr⟩ := h; refine yaO (fun m E ds w' => ∃ set2 each3 each4 Aeach2 leach2 ceach2, I2 m set2 each3 each4 ∧ ds = [] ∧ E 1 = (Value.slice Ad ld cd) ∧ E 2 = (Value.func (Fn.func 149) #[] #[(.pointer (some (⟨gc, 0, none⟩ : Addr))), (.pointer (some (⟨gc2, 0, none⟩ : Addr)))]) ∧ E 3 = (Value.pointer (some (⟨g3, 0, none⟩ : Addr))) ∧ E 6 = (ii set2) ∧ Sep w S O w' (rl [Res.ro (FP.sl cI Ad ld cd d), Res.box 153 gc [(Value.map (some gm))], Res.obj gm (mapO Value.bool each3), Res.box 44 gc2 [(.slice Aeach2 leach2 ceach2)], Res.own (cL cI) 26 Aeach2 leach2 ceach2 each4, Res.box 24 g3 [(ii g), (.slice Ag lg cg)], Res.ro (FP.sl c3 Ag lg cg g2)])) m0 ⟨_, _, _, _, _, _, h0, rfl, rfl, rfl, rfl, rfl, (hS.sel [1, 2, 3, 4, 5, 6, 0] (by decide))⟩ ?_; clear h0 hS; rintro m2 E ds w3 ⟨set2, each3, each4, Aeach2, leach2, ceach2, h, rfl, hE1, hE2, hE3, hE6, hS⟩ again; replace h := hr m2 set2 each3 each4 h; clear hr; refine yaf (zs (zq (yae hE6) (zq (yam hE3 underlying24 rfl yaj) (zq (zl underlying3 (Row.cell (hS.bx 5 rfl) (i := 0) rfl)) ?_)))); obtain ⟨hz, h⟩ := h; obtain ⟨hi, h⟩ := h; refine zq (v_shl rfl rfl hz hi) ?_; obtain ⟨hi2, h⟩ := h; refine zq (zS hi2) (zq zL (yaa ?_)); by_cases hp : set2 < ((1 * 2 ^ g.toNat) - 1)
  · replace h := h.1 hp; refine zc hp (yag (yaf (yak (zs (zq (yav (vs := [(ii g), (.slice Ag lg cg)]) hE3 underlying24 rfl yas ⟨Row.cell (hS.bx 5 rfl) (i := 0) rfl, Row.cell (hS.bx 5 rfl) (i := 1) rfl, trivial⟩) (zq (yae hE1) (zq (yae hE6) (zn (yal rfl (am3 rfl rfl rfl) enter_195 ((yei h (yaN _) (hS.rdr 6 rfl) (hS.rdr 0 rfl)).mono ?_)))))))))); rintro _ w4 ⟨r, r2, Ar, lr, cr, rfl, hC, h⟩; replace hS := hS.call1 (hC.widen (yea (ybl (fI .i64) _ _ _ _ _) ye0) hS.blt) 7 0 rfl; clear hC; refine ⟨_, rfl, ?_⟩; refine zb (zq (zm (.tuple #[(.slice Ar lr cr), (.bool (r2))])) (zq (zx (.slice Ar lr cr)) (zq (zx (.bool (r2))) (zq (za (.slice Ar lr cr)) (zq (za (.bool (r2))) (yaa (zs (zq (zm (.bool (r2))) (yaa ?_))))))))); by_cases hp2 : r2 = true
    · replace h := h.1 hp2; refine yaq (congrArg Value.bool hp2) (zr (zq (yae (v := (Value.func (Fn.func 149) #[] #[(.pointer (some (⟨gc, 0, none⟩ : Addr))), (.pointer (some (⟨gc2, 0, none⟩ : Addr)))])) hE2) (zq (zm (.slice Ar lr cr)) ?_))); replace hS := hS.frz 7 rfl; have hB := hS.lend (asc [(1, 0), (2, 1), (3, 2), (4, 3)]) [7, 1, 2, 3, 4] (by decide) ⟨.inr rfl, .inl (ycu rfl), .inl (ycu rfl), .inl (ycu rfl), .inl (ycu rfl), trivial⟩; refine zn (yeH (vs := #[(.slice Ar lr cr)]) (us := #[(.pointer (some (⟨gc, 0, none⟩ : Addr))), (.pointer (some (⟨gc2, 0, none⟩ : Addr)))]) rfl (am1 rfl) enter_149 ((ybp (by simp) (yfj h hB)).mono ?_)); rintro _ w5 ⟨y, y2, A, l, c, rfl, hC, h⟩; replace hS := hS.back (asc [(1, 0), (2, 1), (3, 2), (4, 3)]) (yfu (by decide)) hC; clear hC hB; refine ⟨_, rfl, ?_⟩; refine zb (yaa (yai (zr (zq (yae hE6) ?_)))); obtain ⟨hi3, h⟩ := h; refine zq (zA hi3) (zq (za (ii (set2 + 1))) (yaa ?_)); obtain ⟨mq, hlt, h⟩ := h; exact again mq _ _ _ ⟨_, _, _, _, _, _, h, rfl, hE1, hE2, hE3, rfl, (hS.sel [0, 1, 2, 3, 4, 5, 6] (by decide))⟩ hlt
    · replace h := h.2 hp2; refine yax (congrArg Value.bool (Bool.eq_false_iff.2 hp2)) (yag (yai (zr (zq (yae hE6) ?_)))); obtain ⟨hi4, h⟩ := h; refine zq (zA hi4) (zq (za (ii (set2 + 1))) (yaa ?_)); obtain ⟨mq, hlt, h⟩ := h; exact again mq _ _ _ ⟨_, _, _, _, _, _, h, rfl, hE1, hE2, hE3, rfl, (hS.sel [0, 1, 2, 3, 4, 5, 6] (by decide))⟩ hlt
  · replace h := h.2 hp; exact zd hp (yaH rfl (yew rfl ⟨_, _, _, _, _, rfl, (hS.sel [1, 2, 3, 4] (by decide)), h⟩))
def ycH (g : Int) (g2 : List E3) (d : List Int) (R : (List (List Int)) → Int → Prop) : Prop :=
ycV g g2 0 d (fun r r2 r3 =>
((r3 = 0 →
yaV r (fun r4 =>
((r4 = true →
ybK r (fun r5 =>
(KOk 12 ([] : List (List Int × Bool)) ∧
yfx 12 r5 ∧
(∃ I2 : Nat → Int → (List (List Int)) → (List (List Int × Bool)) → Prop, (∃ m0, I2 m0 0 ([r]) (mput ([] : List (List Int × Bool)) r5 true)) ∧ ∀ m2 i queue add, I2 m2 i queue add → 
((i < ((queue.length : Nat) : Int) →
((16384 < ((queue.length : Nat) : Int) →
R ([]) 12) ∧
(¬ (16384 < ((queue.length : Nat) : Int)) →
((0 ≤ i ∧ i < ((queue.length : Nat) : Int)) ∧
yca g g2 (gx queue i.toNat) add queue (fun y y2 =>
(In64 (i + 1) ∧
∃ m3, m3 < m2 ∧ I2 m3 (i + 1) y2 y)))))) ∧
(¬ (i < ((queue.length : Nat) : Int)) →
ybu queue (fun r6 =>
R r6 0))))))) ∧
(¬ (r4 = true) →
R ([]) 0)))) ∧
(¬ (r3 = 0) →
R ([]) r3)))
theorem yhl {O : Nat → Prop} {w : World} {g g2 d Ag lg cg Ad ld cd} {R : (List (List Int)) → Int → Prop} (h : ycH g g2 d R) (hO : ∀ k, O k → k < w.heap.size) (hA0 : (FP.sl c3 Ag lg cg g2).P O w) (hA1 : (FP.sl cI Ad ld cd d).P O w) :
    Calls Tryz.prog 81 #[(.agg #[(ii g), (.slice Ag lg cg)]), (.slice Ad ld cd)] w fun e w' => ∃ r7 r8 Ar4 lr4 cr4, e = .returned (.tuple #[(.slice Ar4 lr4 cr4), (ii r8)]) ∧ Sep w no O w' (rl [Res.ro (FP.sl (cL cI) Ar4 lr4 cr4 r7)]) ∧ R r7 r8 := by
  unfold ycH at h; have hS : Sep w no O w (rl [Res.ro (FP.sl c3 Ag lg cg g2), Res.ro (FP.sl cI Ad ld cd d)]) := Sep.startl hO [(FP.sl c3 Ag lg cg g2), (FP.sl cI Ad ld cd d)] ⟨hA0, hA1, trivial⟩; refine yan (l := [(.agg #[(ii g), (.slice Ag lg cg)]), (.slice Ad ld cd)]) func81 rfl ntmps81 (Nat.le_of_ble_eq_true rfl) (zs (zn (yb6 (v := (.agg #[(ii g), (.slice Ag lg cg)])) rfl ?_))); intro g3 w2 hN; replace hS : Sep w no O w2 (stl _ 2 (Res.box 24 g3 [(ii g), (.slice Ag lg cg)])) := hS.new 2 rfl hN; clear hN; refine zb (zq (za (.slice none 0 0)) (zq (za (ii 0)) (yaa (zs (zq (yav (vs := [(ii g), (.slice Ag lg cg)]) rfl underlying24 rfl yas ⟨Row.cell (hS.bx 2 rfl) (i := 0) rfl, Row.cell (hS.bx 2 rfl) (i := 1) rfl, trivial⟩) (zq (zm (.slice Ad ld cd)) (zn (yal rfl (am3 rfl rfl rfl) yiQ ((ydC h (yaN _) (hS.rdr 0 rfl) (hS.rdr 1 rfl)).mono ?_))))))))); rintro _ w3 ⟨r, r2, r3, Ar, lr, cr, Ar2, lr2, cr2, rfl, hC, h⟩; replace hS := hS.call2 (hC.widen (yea (ybl (fI .i64) _ _ _ _ _) (yea (ybl (fI .i64) _ _ _ _ _) ye0)) hS.blt) 3 0 4 1 rfl rfl (by decide) (by decide); clear hC; refine ⟨_, rfl, ?_⟩; refine zb (zq (zm (.tuple #[(.slice Ar lr cr), (.slice Ar2 lr2 cr2), (ii r3)])) (zq (zx (.slice Ar lr cr)) (zq (zx (.slice Ar2 lr2 cr2)) (zq (zx (ii r3)) (zq (za (.slice Ar lr cr)) (zq (za (.slice Ar2 lr2 cr2)) (zq (za (ii r3)) (yaa (yaf (zs (zq (zm (ii r3)) (zq zN (yaa ?_))))))))))))); by_cases hp : r3 = 0
  · replace h := h.1 hp; refine ze hp (yag (yaf (zs (zq (zm (.slice Ar lr cr)) (zn (yal rfl (am1 rfl) yhy ((ycp h (yaN _) (hS.rdo 3 rfl)).mono ?_))))))); rintro _ w4 ⟨r4, rfl, hC, h⟩; replace hS := hS.pur hC.pure; clear hC; refine ⟨_, rfl, ?_⟩; refine zb (zq (ydn rfl) (yaa ?_)); by_cases hp2 : r4 = true
    · replace h := h.1 hp2; refine yax (congrArg Value.bool (congrArg Bool.not hp2)) (yag (zs (zn (n_mkmap (vE := Value.bool) rfl ?_)))); intro g4 w5 e1 e2; replace hS : Sep w no O w5 (stl _ 5 (Res.obj g4 (mapO Value.bool ([] : List (List Int × Bool))))) := hS.newm 5 rfl e1 e2; clear e1 e2; refine zb (zq (zm (.slice Ar lr cr)) (zn (yal rfl (am1 rfl) enter_148 ((yem h (yaN _) (hS.rdo 3 rfl)).mono ?_)))); rintro _ w6 ⟨r5, rfl, hC, h⟩; replace hS := hS.pur hC.pure; clear hC; refine ⟨_, rfl, ?_⟩; refine zb ?_; obtain ⟨hx, h⟩ := h; obtain ⟨hx2, h⟩ := h; refine zo (n_minsert (vE := Value.bool) (keyt_151) hx hx2 (v := true) rfl rfl rfl underlying153 (hS.mp 5 rfl) ?_); intro w7 e1 e2; replace hS := hS.mst 5 rfl e1 e2; clear e1 e2; refine zb (zq (zm (Value.map (some g4))) (zn (ybJ info_153 ?_))); intro g5 w8 hN; replace hS : Sep w no O w8 (stl _ 6 (Res.box 153 g5 [(Value.map none)])) := hS.new 6 rfl hN; clear hN; refine zb (zo (zt (Value.map (some g4)) info_153 (hS.bwr 6 rfl (j := 0) rfl) ?_)); intro w9 e1; replace hS := hS.bst 6 rfl 0 (Value.map (some g4)) e1; clear e1; refine zb (yaa (zs (zq (zm (.slice Ar lr cr)) ?_))); replace hS := hS.frz 3 rfl; refine zn (yaR (l := [(0, (.slice Ar lr cr))]) (cells := [(.slice Ar lr cr)]) (bp1 rfl) underlying44 ya0 rfl rfl ?_); intro g6 w10 hN; replace hS := hS.lit (n := 1) (c := (cL cI)) 7 rfl hN ([r] : List (List Int)) rfl (by decide) ⟨[(.slice Ar lr cr)], _, rfl, (ro_R (hS.ro 3 rfl)), rfl⟩; clear hN; refine zb (zn (ybJ yd7 ?_)); intro g7 w11 hN; replace hS : Sep w no O w11 (stl _ 8 (Res.box 44 g7 [(.slice none 0 0)])) := hS.new 8 rfl hN; clear hN; refine zb (zo (zt (.slice (some ⟨g6, 0, none⟩) 1 1) yd7 (hS.bwr 8 rfl (j := 0) rfl) ?_)); intro w12 e1; replace hS := hS.bst 8 rfl 0 (.slice (some ⟨g6, 0, none⟩) 1 1) e1; clear e1; refine zb (yaa (zs (zq (yfd (am0) (am2 rfl rfl)) (zq (za (.func (Fn.func 149) #[] #[(.pointer (some (⟨g5, 0, none⟩ : Addr))), (.pointer (some (⟨g7, 0, none⟩ : Addr)))])) (yaa (yaf (zs (zq (za (ii 0)) (yaa (yak ?_)))))))))); obtain ⟨I2, ⟨m0, h0⟩, hr⟩ := h; refine yaO (fun m E ds w' => ∃ i queue add Aqueue lqueue cqueue, I2 m i queue add ∧ ds = [] ∧ E 2 = (Value.pointer (some (⟨g3, 0, none⟩ : Addr))) ∧ E 10 = (Value.pointer (some (⟨g7, 0, none⟩ : Addr))) ∧ E 11 = (Value.func (Fn.func 149) #[] #[(.pointer (some (⟨g5, 0, none⟩ : Addr))), (.pointer (some (⟨g7, 0, none⟩ : Addr)))]) ∧ E 12 = (ii i) ∧ Sep w no O w' (rl [Res.box 24 g3 [(ii g), (.slice Ag lg cg)], Res.ro (FP.sl c3 Ag lg cg g2), Res.box 44 g7 [(.slice Aqueue lqueue cqueue)], Res.own (cL cI) 26 Aqueue lqueue cqueue queue, Res.box 153 g5 [(Value.map (some g4))], Res.obj g4 (mapO Value.bool add)])) m0 ⟨_, _, _, _, _, _, h0, rfl, rfl, rfl, rfl, rfl, (hS.sel [2, 0, 8, 7, 6, 5] (by decide))⟩ ?_; clear h0 hS; rintro m2 E ds w13 ⟨i, queue, add, Aqueue, lqueue, cqueue, h, rfl, hE2, hE10, hE11, hE12, hS⟩ again; replace h := hr m2 i queue add h; clear hr; refine yaf (zs (zq (yae hE12) (zq (yaA hE10 underlying44 rfl (Row.cell (hS.bx 2 rfl) (i := 0) rfl)) (zq (ybc (n := queue.length) rfl underlying44 (ya2 (hS.rdo 3 rfl))) (zq zL (yaa ?_)))))); by_cases hp3 : i < ((queue.length : Nat) : Int)
      · replace h := h.1 hp3; refine zc hp3 (yag (yaf (yak (yaf (zs (zq (yaA hE10 underlying44 rfl (Row.cell (hS.bx 2 rfl) (i := 0) rfl)) (zq (ybc (n := queue.length) rfl underlying44 (ya2 (hS.rdo 3 rfl))) (zq zG (yaa ?_))))))))); by_cases hp4 : 16384 < ((queue.length : Nat) : Int)
        · replace h := h.1 hp4; refine zc hp4 (zs (zq (za (.slice none 0 0)) (zq (za (ii 12)) (yaa ?_)))); replace hS := hS.addro 6 rfl _ (yhk (cL cI) _ _); exact ybF rfl rfl rfl ⟨_, _, _, _, _, rfl, (hS.sel [6] (by decide)), h⟩
        · replace h := h.2 hp4; refine zd hp4 (yag (ybt [0, 1, 2, 3, 4, 5, 6] st0 yaQ (by kernel_rfl) (by kernel_rfl) ?_)); replace hS := hS.drew; refine zp (yav (vs := [(ii g), (.slice Ag lg cg)]) hE2 underlying24 rfl yas ⟨Row.cell (hS.bx 0 rfl) (i := 0) rfl, Row.cell (hS.bx 0 rfl) (i := 1) rfl, trivial⟩) (zp (yaA hE10 underlying44 rfl (Row.cell (hS.bx 2 rfl) (i := 0) rfl)) (zp (yae hE12) ?_)); obtain ⟨hx3, h⟩ := h; refine zp (zi underlying44 ya0 (ybh (hS.rdo 3 rfl) hx3)) ?_; obtain ⟨A, l, c, hc, hq⟩ := hS.elo 3 rfl hx3 6 rfl; replace hS := hq; clear hq; refine zp (yaA (v := (.slice A l c)) rfl underlying26 rfl hc) (zp (yae (v := (Value.func (Fn.func 149) #[] #[(.pointer (some (⟨g5, 0, none⟩ : Addr))), (.pointer (some (⟨g7, 0, none⟩ : Addr)))])) hE11) ?_); have hB := hS.lend (asc [(4, 0), (5, 1), (2, 2), (3, 3)]) [1, 6, 4, 5, 2, 3] (by decide) ⟨.inr rfl, .inr rfl, .inl (ycu rfl), .inl (ycu rfl), .inl (ycu rfl), .inl (ycu rfl), trivial⟩; refine rp_n rfl rfl rfl rfl (yeH (vs := #[(.agg #[(ii g), (.slice Ag lg cg)]), (.slice A l c), (.func (Fn.func 149) #[] #[(.pointer (some (⟨g5, 0, none⟩ : Addr))), (.pointer (some (⟨g7, 0, none⟩ : Addr)))])]) (us := #[]) rfl (am3 rfl rfl rfl) enter_143 ((ybp (by simp) (ygl h hB)).mono ?_)); rintro _ w14 ⟨y, y2, A2, l2, c2, rfl, hC, h⟩; replace hS := hS.back (asc [(4, 0), (5, 1), (2, 2), (3, 3)]) (yfu (by decide)) hC; clear hC hB; refine ⟨_, rfl, ?_⟩; refine zb (yb4 (yai (zr (zq (yae hE12) ?_)))); obtain ⟨hi, h⟩ := h; refine zq (zA hi) (zq (za (ii (i + 1))) (yaa ?_)); obtain ⟨mq, hlt, h⟩ := h; exact again mq _ _ _ ⟨_, _, _, _, _, _, h, rfl, hE2, hE10, hE11, rfl, (hS.sel [0, 1, 2, 3, 4, 5] (by decide))⟩ hlt
      · replace h := h.2 hp3; refine zd hp3 (yaH rfl (zs (zq (yaA hE10 underlying44 rfl (Row.cell (hS.bx 2 rfl) (i := 0) rfl)) ?_))); have hB := hS.lend (asc [(6, 0), (3, 20)]) [3] (by decide) ⟨.inl (ycu rfl), trivial⟩; refine zn (yeH (vs := #[(.slice Aqueue lqueue cqueue)]) (us := #[]) rfl (am1 rfl) enter_145 ((ybp (by simp) (ydS h hB)).mono ?_)); rintro _ w15 ⟨r6, Ar3, lr3, cr3, rfl, hC, h⟩; replace hS := hS.back (asc [(6, 0), (3, 20)]) (yfu (by decide)) hC; clear hC hB; refine ⟨_, rfl, ?_⟩; exact zb (zq (za (.slice Ar3 lr3 cr3)) (zq (za (ii 0)) (yaa (ybF rfl rfl rfl ⟨_, _, _, _, _, rfl, (hS.sel [6] (by decide)), h⟩))))
    · replace h := h.2 hp2; refine yaq (congrArg Value.bool (congrArg Bool.not (Bool.eq_false_iff.2 hp2))) (zs (zq (za (.slice none 0 0)) (zq (za (ii 0)) (yaa ?_)))); replace hS := hS.addro 5 rfl _ (yhk (cL cI) _ _); exact ybF rfl rfl rfl ⟨_, _, _, _, _, rfl, (hS.sel [5] (by decide)), h⟩
  · replace h := h.2 hp; refine zf hp (zs (zq (zm (ii r3)) (zq (za (.slice none 0 0)) (zq (za (ii r3)) (yaa ?_))))); replace hS := hS.addro 5 rfl _ (yhk (cL cI) _ _); exact ybF rfl rfl rfl ⟨_, _, _, _, _, rfl, (hS.sel [5] (by decide)), h⟩
def ybk (g : Int) (g2 : List E3) (d : List Int) (R : (List (List Int)) → Int → Prop) : Prop :=
ycc g g2 ([d]) (fun r =>
((r = 0 →
ycH g g2 d (fun r2 r3 =>
R r2 r3)) ∧
(¬ (r = 0) →
R ([]) r)))
theorem ycX {O : Nat → Prop} {w : World} {g g2 d Ag lg cg Ad ld cd} {R : (List (List Int)) → Int → Prop} (h : ybk g g2 d R) (hO : ∀ k, O k → k < w.heap.size) (hA0 : (FP.sl c3 Ag lg cg g2).P O w) (hA1 : (FP.sl cI Ad ld cd d).P O w) :
    Calls Tryz.prog 23 #[(.agg #[(ii g), (.slice Ag lg cg)]), (.slice Ad ld cd)] w fun e w' => ∃ r4 r5 Ar2 lr2 cr2, e = .returned (.tuple #[(.slice Ar2 lr2 cr2), (ii r5)]) ∧ Sep w no O w' (rl [Res.ro (FP.sl (cL cI) Ar2 lr2 cr2 r4)]) ∧ R r4 r5 := by
  unfold ybk at h; have hS : Sep w no O w (rl [Res.ro (FP.sl c3 Ag lg cg g2), Res.ro (FP.sl cI Ad ld cd d)]) := Sep.startl hO [(FP.sl c3 Ag lg cg g2), (FP.sl cI Ad ld cd d)] ⟨hA0, hA1, trivial⟩; refine yan (l := [(.agg #[(ii g), (.slice Ag lg cg)]), (.slice Ad ld cd)]) func23 rfl ntmps23 (Nat.le_of_ble_eq_true rfl) (zs (zn (yb6 (v := (.agg #[(ii g), (.slice Ag lg cg)])) rfl ?_))); intro g3 w2 hN; replace hS : Sep w no O w2 (stl _ 2 (Res.box 24 g3 [(ii g), (.slice Ag lg cg)])) := hS.new 2 rfl hN; clear hN; refine zb (zq (za (.slice none 0 0)) (zq (za (ii 0)) (yaa (yaf (zs (zq (yav (vs := [(ii g), (.slice Ag lg cg)]) rfl underlying24 rfl yas ⟨Row.cell (hS.bx 2 rfl) (i := 0) rfl, Row.cell (hS.bx 2 rfl) (i := 1) rfl, trivial⟩) (zq (zm (.slice Ad ld cd)) (zn (yaR (l := [(0, (.slice Ad ld cd))]) (cells := [(.slice Ad ld cd)]) (bp1 rfl) underlying44 ya0 rfl rfl ?_))))))))); intro g4 w3 hN; replace hS := hS.lit (n := 1) (c := (cL cI)) 3 rfl hN ([d] : List (List Int)) rfl (by decide) ⟨[(.slice Ad ld cd)], _, rfl, (ro_R (hS.ro 1 rfl)), rfl⟩; clear hN; refine zb (zn (yal rfl (am2 rfl rfl) enter_80 ((yel h (yaN _) (hS.rdr 0 rfl) (hS.rdo 3 rfl)).mono ?_))); rintro _ w4 ⟨r, rfl, hC, h⟩; replace hS := hS.pur hC.pure; clear hC; refine ⟨_, rfl, ?_⟩; refine zb (zq (za (ii r)) (yaa (zs (zq (zm (ii r)) (zq zN (yaa ?_)))))); by_cases hp : r = 0
  · replace h := h.1 hp; refine ze hp (yag (zs (zq (yav (vs := [(ii g), (.slice Ag lg cg)]) rfl underlying24 rfl yas ⟨Row.cell (hS.bx 2 rfl) (i := 0) rfl, Row.cell (hS.bx 2 rfl) (i := 1) rfl, trivial⟩) (zq (zm (.slice Ad ld cd)) (zn (yal rfl (am2 rfl rfl) enter_81 ((yhl h hS.blt (hS.ro 0 rfl) (hS.ro 1 rfl)).mono ?_))))))); rintro _ w5 ⟨r2, r3, Ar, lr, cr, rfl, hC, h⟩; replace hS := hS.call1 hC 4 0 rfl; clear hC; refine ⟨_, rfl, ?_⟩; exact zb (zq (zx (.slice Ar lr cr)) (zq (zx (ii r3)) (zq (za (.slice Ar lr cr)) (zq (za (ii r3)) (yaa (ybF rfl rfl rfl ⟨_, _, _, _, _, rfl, (hS.sel [4] (by decide)), h⟩))))))
  · replace h := h.2 hp; refine zf hp (zs (zq (zm (ii r)) (zq (za (.slice none 0 0)) (zq (za (ii r)) (yaa ?_))))); replace hS := hS.addro 4 rfl _ (yhk (cL cI) _ _); exact ybF rfl rfl rfl ⟨_, _, _, _, _, rfl, (hS.sel [4] (by decide)), h⟩
def ya9 (g : Int) (g2 : List E3) (d : List Int) (R : Int → Int → Prop) : Prop :=
ybk g g2 d (fun r r2 =>
R ((r.length : Nat) : Int) r2)
theorem ydv {O : Nat → Prop} {w : World} {g g2 d Ag lg cg Ad ld cd} {R : Int → Int → Prop} (h : ya9 g g2 d R) (hO : ∀ k, O k → k < w.heap.size) (hA0 : (FP.sl c3 Ag lg cg g2).P O w) (hA1 : (FP.sl cI Ad ld cd d).P O w) :
    Calls Tryz.prog 15 #[(.agg #[(ii g), (.slice Ag lg cg)]), (.slice Ad ld cd)] w fun e w' => ∃ r3 r4, e = .returned (.tuple #[(ii r3), (ii r4)]) ∧ Sep w no O w' (rl []) ∧ R r3 r4 := by
  unfold ya9 at h; have hS : Sep w no O w (rl [Res.ro (FP.sl c3 Ag lg cg g2), Res.ro (FP.sl cI Ad ld cd d)]) := Sep.startl hO [(FP.sl c3 Ag lg cg g2), (FP.sl cI Ad ld cd d)] ⟨hA0, hA1, trivial⟩; refine yan (l := [(.agg #[(ii g), (.slice Ag lg cg)]), (.slice Ad ld cd)]) func15 rfl ntmps15 (Nat.le_of_ble_eq_true rfl) (zs (zn (yb6 (v := (.agg #[(ii g), (.slice Ag lg cg)])) rfl ?_))); intro g3 w2 hN; replace hS : Sep w no O w2 (stl _ 2 (Res.box 24 g3 [(ii g), (.slice Ag lg cg)])) := hS.new 2 rfl hN; clear hN; refine zb (zq (za (ii 0)) (zq (za (ii 0)) (yaa (zs (zq (yav (vs := [(ii g), (.slice Ag lg cg)]) rfl underlying24 rfl yas ⟨Row.cell (hS.bx 2 rfl) (i := 0) rfl, Row.cell (hS.bx 2 rfl) (i := 1) rfl, trivial⟩) (zq (zm (.slice Ad ld cd)) (zn (yal rfl (am2 rfl rfl) ygz ((ycX h hS.blt (hS.ro 0 rfl) (hS.ro 1 rfl)).mono ?_))))))))); rintro _ w3 ⟨r, r2, Ar, lr, cr, rfl, hC, h⟩; replace hS := hS.call1 hC 3 0 rfl; clear hC; refine ⟨_, rfl, ?_⟩; exact zb (zq (zm (.tuple #[(.slice Ar lr cr), (ii r2)])) (zq (zx (.slice Ar lr cr)) (zq (zx (ii r2)) (zq (za (.slice Ar lr cr)) (zq (za (ii r2)) (yaa (zs (zq (zm (.slice Ar lr cr)) (zq (ybc (n := r.length) rfl underlying44 (ya2 (hS.rdr 3 rfl))) (zq (zm (ii r2)) (zq (za (ii ((r.length : Nat) : Int))) (zq (za (ii r2)) (yaa (ybF rfl rfl rfl ⟨_, _, rfl, (hS.sel [] (by decide)), h⟩))))))))))))))
end Go.Proofs.YtncilechkclmbaaGreat

/- What package system comes to: steps, the search, the system in order. -/
namespace Go.Proofs.YtncilechkclmbaaGreat
open Go Go.Proofs.Tryz
set_option linter.unusedVariables false
set_option linter.unusedSimpArgs false
theorem W_snocE (x : E3) (v u : Nat) : ∀ es : List E3, W (es ++ [x]) v u = W es v u + w1 x v u
  | [] => by rw [List.nil_append, yfb, W_nil]; omega
  | y :: es => by rw [List.cons_append, yfb, yfb, W_snocE x v u es]; omega
theorem Lp_snocE {n : Nat} (x : E3) (s : Nat → Int) (v : Nat) (es : List E3) : Lp n (es ++ [x]) s v = Lp n es s v + sm n (fun u => w1 x v u * (s v - s u)) := by
  unfold Lp
  rw [← ycF]
  exact yau fun u _ => by rw [W_snocE, Int.add_mul]
theorem edge_same {n : Nat} {a b : Nat} {k : Int} {s : Nat → Int} (h : s a = s b) (v : Nat) : sm n (fun u => w1 ((a : Int), (b : Int), k) v u * (s v - s u)) = 0 := by
  rw [yau (g := fun _ => 0) fun u _ => ?_, ycf]
  unfold w1
  split
  · rename_i q
    have : s v = s u := by
      rcases q.2 with ⟨h1, h2⟩ | ⟨h1, h2⟩
      · rw [← Int.ofNat.inj h1, ← Int.ofNat.inj h2]; exact h
      · rw [← Int.ofNat.inj h1, ← Int.ofNat.inj h2]; exact h.symm
    rw [this, Int.sub_self, Int.mul_zero]
  · rw [Int.zero_mul]
theorem edge_diff {n : Nat} {a b : Nat} {k : Int} {s : Nat → Int} (ha : a < n) (hb : b < n) (h : a ≠ b) (v : Nat) : sm n (fun u => w1 ((a : Int), (b : Int), k) v u * (s v - s u)) = if v = a then k * (s a - s b) else if v = b then k * (s b - s a) else 0 := by
  by_cases e1 : v = a
  · subst e1
    rw [if_pos rfl, ← yeI (k * (s v - s b)) hb]
    refine yau fun u _ => ?_
    by_cases e : u = b
    · subst e
      rw [if_pos rfl]
      unfold w1
      rw [if_pos ⟨by show (v : Int) ≠ u; omega, .inl ⟨rfl, rfl⟩⟩]
    · rw [if_neg e]
      unfold w1
      rw [if_neg, Int.zero_mul]
      rintro ⟨_, ⟨_, q⟩ | ⟨q1, q2⟩⟩
      · exact e (Int.ofNat.inj q).symm
      · exact h (Int.ofNat.inj q2).symm
  · rw [if_neg e1]
    by_cases e2 : v = b
    · subst e2
      rw [if_pos rfl, ← yeI (k * (s v - s a)) ha]
      refine yau fun u _ => ?_
      by_cases e : u = a
      · subst e
        rw [if_pos rfl]
        unfold w1
        rw [if_pos ⟨by show (u : Int) ≠ v; omega, .inr ⟨rfl, rfl⟩⟩]
      · rw [if_neg e]
        unfold w1
        rw [if_neg, Int.zero_mul]
        rintro ⟨_, ⟨q1, q2⟩ | ⟨q, _⟩⟩
        · exact h (Int.ofNat.inj q1)
        · exact e (Int.ofNat.inj q).symm
    · rw [if_neg e2, yau (g := fun _ => 0) fun u _ => ?_, ycf]
      unfold w1
      rw [if_neg, Int.zero_mul]
      rintro ⟨_, ⟨q1, q2⟩ | ⟨q1, q2⟩⟩
      · exact e1 (Int.ofNat.inj q1).symm
      · exact e2 (Int.ofNat.inj q2).symm
def posB (d : List Int) : Bool := decide (∀ v, v < d.length → 0 ≤ gi d v)
theorem ydF {n : Nat} {d : List Int} (h : d.length = n) : posB d = true ↔ Pos n d := by
  unfold posB; rw [decide_eq_true_iff]; exact ⟨fun q => ⟨h, fun v hv => q v (by omega)⟩, fun q v hv => q.pos v (by omega)⟩
theorem ycL {d : List Int} {R : Bool → Prop} (hl : d.length ≤ 1000000000) (h0 : 0 < d.length) (h : R (posB d)) : yaV d R := by
  unfold yaV
  refine ykh hl h0 fun m ⟨k, hk, e⟩ hall => ?_
  have : decide (0 ≤ m) = posB d := by
    unfold posB
    rw [decide_eq_decide]
    exact ⟨fun q v hv => by have := hall v hv; omega, fun q => by have := q k hk; omega⟩
  rw [this]; exact h
theorem ye7 {n m : Nat} {es : List E3} {d : List Int} {R : List Int → Bool → Prop} (hE : EOk n es) (hn : 1 ≤ n ∧ n ≤ 12) (hl : es.length ≤ 1000) (hm : m < 4096) (hd : d.length = n) (hb : ∀ v, v < n → -1000000 ≤ gi d v ∧ gi d v ≤ 1000000) (h : R (firM n es d m) (posB (firM n es d m))) : ybM (n : Int) es d (m : Int) R := by
  unfold ybM
  obtain ⟨s, hs⟩ : ∃ s : Nat → Int, s = fun u => if m.testBit u = true then 1 else 0 := ⟨_, rfl⟩
  have hsv : ∀ u, s u = 0 ∨ s u = 1 := fun u => by rw [hs]; show (if m.testBit u = true then (1 : Int) else 0) = 0 ∨ (if m.testBit u = true then (1 : Int) else 0) = 1; split <;> omega
  have hfv : ∀ (es : List E3) (v : Nat), v < n → gi (firM n es d m) v = gi d v - Lp n es s v := fun es v hv => by rw [yfY hv, hs]
  have hbit : ∀ u : Nat, ((((m : Int) / 2 ^ (u : Int).toNat).toNat &&& (1 : Int).toNat : Nat) : Int) = s u := fun u => by rw [bit_and, hs]
  refine ycN (by omega) ?_
  refine ⟨fun q v o => Cnt es.length (fun k => o = firM n (es.take k) d m ∧ ∀ v, v < n → -1000000 - 50 * (k : Int) ≤ gi o v ∧ gi o v ≤ 1000000 + 50 * (k : Int)) q v, Cnt.start ⟨?_, fun v hv => by have := hb v hv; omega⟩, ?_⟩
  · rw [List.take_zero]
    exact ygM hd (ya7 _ _ _ _) fun v hv => by rw [hfv _ v hv]; unfold Lp; rw [yau (g := fun _ => 0) (fun u _ => by rw [W_nil, Int.zero_mul]), ycf]; omega
  rintro q _ o ⟨k, rfl, rfl, hk, hinv⟩
  rw [Int.toNat_natCast]
  refine ⟨fun hlt => ?_, fun hge => ?_⟩
  · have hkl : k < es.length := by omega
    have hx := hE _ (yiJ hkl)
    have htake : es.take (k + 1) = es.take k ++ [ge es k] := by rw [List.take_add_one, List.getElem?_eq_getElem hkl, ydL hkl]; rfl
    generalize ge es k = x at hx htake ⊢
    obtain ⟨a, b, c⟩ := x
    simp only at hx ⊢
    obtain ⟨a, rfl⟩ : ∃ a' : Nat, a = (a' : Int) := ⟨a.toNat, by omega⟩
    obtain ⟨b, rfl⟩ : ∃ b' : Nat, b = (b' : Int) := ⟨b.toNat, by omega⟩
    obtain ⟨ho, hbo⟩ := hinv
    have hol : o.length = n := by rw [ho]; exact ya7 _ _ _ _
    have ha : a < n := by omega
    have hbn : b < n := by omega
    have hstep : ∀ v, v < n → gi (firM n (es.take (k + 1)) d m) v = gi o v - sm n (fun u => w1 ((a : Int), (b : Int), c) v u * (s v - s u)) := fun v hv => by
      rw [hfv _ v hv, htake, Lp_snocE, ho, hfv _ v hv]; omega
    have sa := hsv a
    have sb := hsv b
    rw [hbit, hbit, Int.toNat_natCast, Int.toNat_natCast]
    refine ⟨by omega, by omega, bit_fit m a (by omega), by omega, bit_fit m b (by omega), fun hab => ?_, fun hab => ⟨fun hba => ?_, fun hba => ?_⟩⟩
    · have hma : s a = 1 := by omega
      have hmb : s b = 0 := by omega
      have hne : a ≠ b := fun e => by subst e; omega
      have hf : ∀ v, v < n → gi (firM n (es.take (k + 1)) d m) v = gi ((o.set a (gi o a - c)).set b (gi (o.set a (gi o a - c)) b + c)) v := fun v hv => by
        rw [hstep v hv, edge_diff ha hbn hne, ybV (by rw [List.length_set]; omega), ybV (by omega), ybV (by omega), hma, hmb]
        by_cases e1 : v = b
        · subst e1
          rw [if_neg (by omega), if_pos rfl, if_pos rfl, if_neg (by omega)]; omega
        · rw [if_neg e1]
          by_cases e2 : v = a
          · subst e2; rw [if_pos rfl, if_pos rfl]; omega
          · rw [if_neg e2, if_neg e2, if_neg e1]; omega
      have h1 := hbo a ha
      have h2 := hbo b hbn
      have hs2 : gi (o.set a (gi o a - c)) b = gi o b := by rw [ybV (by omega), if_neg (by omega)]
      refine ⟨by omega, i64 (by omega), by rw [List.length_set]; omega, by rw [hs2]; exact i64 (by omega), Cnt.next hkl (by omega) ⟨(ygM (ya7 _ _ _ _) (by simp [hol]) hf).symm, fun v hv => ?_⟩⟩
      rw [ybV (by rw [List.length_set]; omega), hs2]
      have h3 := hbo v hv
      by_cases e1 : v = b
      · rw [if_pos e1]; omega
      · rw [if_neg e1, ybV (by omega)]
        by_cases e2 : v = a
        · rw [if_pos e2]; omega
        · rw [if_neg e2]; omega
    · have hma : s a = 0 := by omega
      have hmb : s b = 1 := by omega
      have hne : a ≠ b := fun e => by subst e; omega
      have hf : ∀ v, v < n → gi (firM n (es.take (k + 1)) d m) v = gi ((o.set b (gi o b - c)).set a (gi (o.set b (gi o b - c)) a + c)) v := fun v hv => by
        rw [hstep v hv, edge_diff ha hbn hne, ybV (by rw [List.length_set]; omega), ybV (by omega), ybV (by omega), hma, hmb]
        by_cases e1 : v = a
        · subst e1
          rw [if_pos rfl, if_pos rfl, if_neg (by omega)]; omega
        · rw [if_neg e1, if_neg e1]
          by_cases e2 : v = b
          · subst e2; rw [if_pos rfl, if_pos rfl]; omega
          · rw [if_neg e2, if_neg e2]; omega
      have h1 := hbo a ha
      have h2 := hbo b hbn
      have hs2 : gi (o.set b (gi o b - c)) a = gi o a := by rw [ybV (by omega), if_neg (by omega)]
      refine ⟨by omega, i64 (by omega), by rw [List.length_set]; omega, by rw [hs2]; exact i64 (by omega), Cnt.next hkl (by omega) ⟨(ygM (ya7 _ _ _ _) (by simp [hol]) hf).symm, fun v hv => ?_⟩⟩
      rw [ybV (by rw [List.length_set]; omega), hs2]
      have h3 := hbo v hv
      by_cases e1 : v = a
      · rw [if_pos e1]; omega
      · rw [if_neg e1, ybV (by omega)]
        by_cases e2 : v = b
        · rw [if_pos e2]; omega
        · rw [if_neg e2]; omega
    · refine Cnt.next hkl (by omega) ⟨(ygM (ya7 _ _ _ _) hol fun v hv => ?_).symm, fun v hv => by have := hbo v hv; omega⟩
      rw [hstep v hv, edge_same (show s a = s b by omega)]; omega
  · have e : k = es.length := by omega
    rw [e, List.take_length] at hinv
    rw [hinv.1]
    refine ycL (by rw [ya7]; omega) (by rw [ya7]; omega) h
theorem lex_lt {a b : List Int} (h : ¬ lexC b a < 0) (hne : a ≠ b) : lexC a b < 0 := by
  rw [yeV] at h
  have h2 : lexC a b ≠ 0 := fun q => hne (lexC_eq _ _ q)
  omega
theorem p_compact {l : List (List Int)} {R : List (List Int) → Prop} (hl : l.length ≤ 1000000) (hx : ∀ x ∈ l, x.length ≤ 1000000000) (ha : Asc l) (h : R l) : yaK l (fun x x2 R => ybC x x2 R) R := by
  unfold yaK ybC
  refine ⟨fun _ => h, fun h2 => ⟨fun q v => ∃ k : Nat, q = l.length - k ∧ v = (k : Int) ∧ 1 ≤ k ∧ k ≤ l.length, ⟨l.length - 1, 1, rfl, rfl, by omega, by omega⟩, ?_⟩⟩
  rintro q _ ⟨k, rfl, rfl, h1, hk⟩
  refine ⟨fun hlt => ⟨by omega, i64 (by omega), by omega, ?_⟩, fun _ => h⟩
  have e1 : ((k : Int) - 1).toNat = k - 1 := by omega
  rw [e1, Int.toNat_natCast]
  have hk2 : k < l.length := by omega
  refine yaS (hx _ (List.mem_of_getElem? (yfn hk2))) ⟨fun e => ?_, fun _ => ⟨i64 (by omega), l.length - (k + 1), by omega, k + 1, rfl, by omega, by omega, by omega⟩⟩
  have e := of_decide_eq_true e
  have := List.pairwise_iff_getElem.1 ha (k - 1) k (by omega) hk2 (by omega)
  rw [← yfv, ← yfv hk2, e, yd0] at this
  omega
theorem yex {l : List (List Int)} {R : List (List Int) → Prop} (hl : l.length ≤ 1000000) (hx : ∀ x ∈ l, x.length ≤ 1000000000) (hn : l.Nodup) (h : ∀ z, Asc z → (∀ y, y ∈ z ↔ y ∈ l) → R z) : ybu l R := by
  unfold ybu
  refine ⟨by omega, hx, fun z hp hs => ?_⟩
  have ha : Asc z := ((hp.nodup_iff.2 hn).and hs).imp fun {a b} q => lex_lt q.2 q.1
  have hm : ∀ y, y ∈ z ↔ y ∈ l := fun y => hp.mem_iff
  exact p_compact (by rw [hp.length_eq]; exact hl) (fun x q => hx x ((hm x).1 q)) ha (h z ha hm)
structure Inv (n : Nat) (es : List E3) (d : List Int) (M : List (List Int × Bool)) (Q : List (List Int)) : Prop where
  keys : KOk 12 M
  seen : ∀ x, x.length = n → ((mget M (keyF x)).getD false = true ↔ x ∈ Q)
  nd : Q.Nodup
  mem : ∀ x ∈ Q, Pos n x ∧ Eqv n es d x
theorem yfT {n : Nat} {x : List Int} (h : Pos n x) : Eff n x (dg x) := ⟨h.len, h.pos, rfl⟩
theorem sys_len {n : Nat} {es : List E3} {d : List Int} (h1 : 1 ≤ n) (hn : n ≤ 5) (h5 : dg d ≤ 5) : (sysF n es d).length ≤ 2401 := by
  unfold sysF
  split
  · simp
  · refine Nat.le_trans (List.length_filter_le _ _) ?_
    obtain ⟨N, rfl⟩ : ∃ N, n = N + 1 := ⟨n - 1, by omega⟩
    exact yks (by omega) (by omega)
theorem Inv.len {n : Nat} {es : List E3} {d : List Int} {M : List (List Int × Bool)} {Q : List (List Int)} (I : Inv n es d M Q) (h1 : 1 ≤ n) (hn : n ≤ 5) (hd : d.length = n) (h5 : dg d ≤ 5) : Q.length ≤ 2401 :=
  Nat.le_trans (nodup_le I.nd fun x hx => (yc0 h1 hd).2 (I.mem x hx)) (sys_len (es := es) h1 hn h5)
section
variable {n : Nat} {es : List E3} {d : List Int}
theorem Inv.start (hn : n ≤ 5) (hd : d.length = n) (h5 : dg d ≤ 5) {r : List Int} (hr : Pos n r) (he : Eqv n es d r) : Inv n es d (mput [] (keyF r) true) [r] := by
  have hdr : dg r = dg d := he.dg hd hr.len
  refine ⟨(KOk.nil 12).put (ygP (yfT hr) (by omega)) true, fun x hx => ?_, by simp, fun x hx => by rw [List.mem_singleton.1 hx]; exact ⟨hr, he⟩⟩
  rw [mget_put]
  by_cases e : keyF r = keyF x
  · rw [if_pos e]
    simp
    exact (keyF_inj (by omega) hr.len hx e).symm
  · rw [if_neg e]
    simp [mget]
    exact fun q => e (by rw [q])
theorem p_add (hn : 1 ≤ n ∧ n ≤ 5) (hd : d.length = n) (h5 : dg d ≤ 5) {M : List (List Int × Bool)} {Q : List (List Int)} {x : List Int} {R : List (List Int × Bool) → List (List Int) → Prop} (I : Inv n es d M Q) (hx : Pos n x) (he : Eqv n es d x)
    (h : ∀ M' Q', Inv n es d M' Q' → Q <+: Q' → x ∈ Q' → R M' Q') : ybE x M Q R := by
  have hdx : dg x = dg d := he.dg hd hx.len
  have hlen := I.len hn.1 hn.2 hd h5
  have hl := hx.len
  unfold ybE ybK
  refine ⟨by omega, ycU x, ycU x, I.keys, ygP (yfT hx) (by omega), fun q => ?_, fun q => ⟨by omega, ?_⟩⟩
  · exact h _ _ I (List.prefix_refl _) ((I.seen x hl).1 q)
  · have hnx : x ∉ Q := fun z => q ((I.seen x hl).2 z)
    refine h _ _ ⟨I.keys.put (ygP (yfT hx) (by omega)) true, fun y hy => ?_, ?_, fun y hy => ?_⟩ (List.prefix_append _ _) (by simp)
    · show (mget (mput M (keyF x) true) (keyF y)).getD false = true ↔ _
      rw [mget_put]
      by_cases e : keyF x = keyF y
      · rw [if_pos e, keyF_inj (by omega) hl hy e]; simp
      · rw [if_neg e, I.seen y hy, List.mem_append, List.mem_singleton]
        exact ⟨.inl, fun z => z.resolve_right fun z => e (by rw [z])⟩
    · rw [List.nodup_append]
      exact ⟨I.nd, by simp, fun a ha b hb e => hnx (by rw [List.mem_singleton] at hb; rw [← hb, ← e]; exact ha)⟩
    · rcases List.mem_append.1 hy with z | z
      · exact I.mem y z
      · rw [List.mem_singleton.1 z]; exact ⟨hx, he⟩
theorem p_system_steps (hE : EOk n es) (hel : es.length ≤ 1000) (hn : 1 ≤ n ∧ n ≤ 5) (hd : d.length = n) (h5 : dg d ≤ 5) {M : List (List Int × Bool)} {Q : List (List Int)} {x : List Int} {R : List (List Int × Bool) → List (List Int) → Prop} (I : Inv n es d M Q) (hx : x ∈ Q)
    (h : ∀ M' Q', Inv n es d M' Q' → Q <+: Q' → (∀ m, 1 ≤ m → m < 2 ^ n - 1 → Pos n (firM n es x m) → firM n es x m ∈ Q') → R M' Q') : yca (n : Int) es x M Q R := by
  unfold yca
  obtain ⟨hp, he⟩ := I.mem x hx
  have h12 : 2 ^ n ≤ 4096 := yfH (by omega)
  have h2 : 2 ≤ 2 ^ n := by have := Nat.pow_le_pow_right (n := 2) (by omega) hn.1; omega
  have hb : ∀ v, v < n → -1000000 ≤ gi x v ∧ gi x v ≤ 1000000 := fun v hv => by
    have h1 := (yfT hp).le hv
    have h3 := hp.pos v hv
    have := he.dg hd hp.len
    omega
  refine ⟨fun q v M' Q' => ∃ k : Nat, q = 2 ^ n - k ∧ v = (k : Int) ∧ 1 ≤ k ∧ k ≤ 2 ^ n - 1 ∧ Inv n es d M' Q' ∧ Q <+: Q' ∧ ∀ m, 1 ≤ m → m < k → Pos n (firM n es x m) → firM n es x m ∈ Q', ⟨2 ^ n - 1, 1, rfl, rfl, by omega, by omega, I, List.prefix_refl _, fun m h1 h2 => absurd h1 (by omega)⟩, ?_⟩
  rintro q _ M' Q' ⟨k, rfl, rfl, hk1, hk, I', hpre, hall⟩
  rw [pow_cast]
  refine ⟨by omega, i64 (by omega), i64 (by omega), fun hlt => ?_, fun hge => ?_⟩
  · refine ye7 hE (by omega) hel (by omega) hp.len hb ⟨fun q => ?_, fun q => ?_⟩
    · have hq := (ydF (ya7 n es x k)).1 q
      refine p_add hn hd h5 I' hq (he.trans (Eqv.firM n es x k)) fun M2 Q2 I2 hp2 hm2 => ⟨i64 (by omega), 2 ^ n - (k + 1), by omega, k + 1, rfl, by omega, by omega, by omega, I2, hpre.trans hp2, fun m h1 h3 h4 => ?_⟩
      by_cases e : m = k
      · subst e; exact hm2
      · exact hp2.subset (hall m h1 (by omega) h4)
    · refine ⟨i64 (by omega), 2 ^ n - (k + 1), by omega, k + 1, rfl, by omega, by omega, by omega, I', hpre, fun m h1 h3 h4 => ?_⟩
      by_cases e : m = k
      · subst e; exact absurd ((ydF (ya7 n es x m)).2 h4) q
      · exact hall m h1 (by omega) h4
  · exact h M' Q' I' hpre fun m h1 h2 h3 => hall m h1 (by omega) h3
theorem yht {R : List (List Int) → Int → Prop} (hD : DOk n es d) (hd : d.length = n) (h : R (sysF n es d) 0) : ycH (n : Int) es d R := by
  have G := hD.G
  have hE := G.E
  have hn : 1 ≤ n ∧ n ≤ 5 := ⟨G.n1, G.n5⟩
  have hel := G.el
  have h5 := hD.d5
  have hgiv := G.giv hd fun v hv => by have := hD.b v hv; omega
  unfold ycH
  refine ⟨.inl (G.small fun v hv => by have := hD.b v hv; omega), by omega, fun q => absurd hgiv q, fun _ r s hr hrl hsl => ?_⟩
  have e0 : (0 : Int).toNat = 0 := rfl
  simp only [Int.toNat_natCast, e0] at hr hrl hsl ⊢
  have heq : Eqv n es d r := ⟨gi s, hr.lp⟩
  refine ⟨fun _ => ycL (by omega) (by omega) ⟨fun hp => ?_, fun hp => ?_⟩, fun q => absurd trivial q⟩
  · have hP := (ydF hrl).1 hp
    have hdr : dg r = dg d := heq.dg hd hP.len
    unfold ybK
    refine ⟨by omega, ycU r, KOk.nil 12, ygP (yfT hP) (by omega), ?_⟩
    refine ⟨fun q v Q M => ∃ k : Nat, q = 3000 - k ∧ v = (k : Int) ∧ k ≤ Q.length ∧ Inv n es d M Q ∧ r ∈ Q ∧ ∀ j, j < k → ∀ m, 1 ≤ m → m < 2 ^ n - 1 → Pos n (firM n es (gx Q j) m) → firM n es (gx Q j) m ∈ Q, ⟨3000, 0, rfl, rfl, by omega, Inv.start hn.2 hd h5 hP heq, by simp, fun j hj => absurd hj (by omega)⟩, ?_⟩
    rintro q _ Q M ⟨k, rfl, rfl, hk, I, hrQ, hall⟩
    have hlen := I.len hn.1 hn.2 hd h5
    refine ⟨fun hlt => ⟨fun _ => by omega, fun _ => ⟨by omega, ?_⟩⟩, fun hge => ?_⟩
    · rw [Int.toNat_natCast]
      have hkl : k < Q.length := by omega
      refine p_system_steps hE (by omega) hn hd h5 I (List.mem_of_getElem? (yfn hkl)) fun M' Q' I' hp2 hm2 => ⟨i64 (by omega), 3000 - (k + 1), by omega, k + 1, rfl, by omega, ?_, I', hp2.subset hrQ, fun j hj m h1 h2 h3 => ?_⟩
      · have := hp2.length_le; omega
      · have hgj : gx Q' j = gx Q j := by
          obtain ⟨t, rfl⟩ := hp2
          have hj2 : j < Q.length := by omega
          rw [yfv (by rw [List.length_append]; omega), yfv hj2, List.getElem_append_left hj2]
        rw [hgj] at h3 ⊢
        by_cases e : j = k
        · subst e; exact hm2 m h1 h2 h3
        · exact hp2.subset (hall j (by omega) m h1 h2 h3)
    · refine yex (by omega) (fun x hx => by have := (I.mem x hx).1.len; omega) I.nd fun z hz hzm => ?_
      have e := sysF_eq hE hn.1 hd hrQ hP heq I.mem (fun y m hy h1 h2 h3 => by
        obtain ⟨j, hj⟩ := List.mem_iff_getElem?.1 hy
        have hjl := (List.getElem?_eq_some_iff.1 hj).1
        rw [yfn hjl] at hj
        cases hj
        exact hall j (by omega) m h1 h2 h3) hz hzm
      rw [e]; exact h
  · have : sysF n es d = [] := by
      rw [List.eq_nil_iff_forall_not_mem]
      intro x hx
      obtain ⟨h1, s', h2⟩ := (yc0 hn.1 hd).1 hx
      have hw : Win n es d := ⟨s', fun v hv => by rw [← h2 v hv]; exact h1.pos v hv⟩
      have h0 := (yll hE (by omega) hr.red hr.lp).1 hw
      refine hp ((ydF hrl).2 ⟨hrl, fun v hv => ?_⟩)
      by_cases e : v = 0
      · subst e; exact h0
      · exact hr.pos v hv e
    rw [this] at h; exact h
end
end Go.Proofs.YtncilechkclmbaaGreat

/- What the functions of package system and their references come to. -/
namespace Go.Proofs.YtncilechkclmbaaGreat
open Go Go.Proofs.Tryz
set_option linter.unusedVariables false
set_option linter.unusedSimpArgs false
theorem ye9 {n : Int} {es : List E3} {l : List (List Int)} {R : Int → Prop} (hl : es.length ≤ 1000) (hll : l.length ≤ 1000) (h : R (givL n es l)) : ycc n es l R := yjH hl hll h
theorem ydK {n : Int} {es : List E3} {d : List Int} {R : List (List Int) → Int → Prop} (hl : es.length ≤ 1000) (h0 : yaD n es 0 d ≠ 0 → R [] (yaD n es 0 d)) (h1 : yaD n es 0 d = 0 → DOk n.toNat es d ∧ R (sysF n.toNat es d) 0) : ybk n es d R := by
  unfold ybk
  refine ye9 hl (by simp) ?_
  rw [givL_one]
  refine ⟨fun hg => ?_, fun hg => h0 hg⟩
  obtain ⟨hD, hR⟩ := h1 hg
  obtain ⟨N, rfl, hd⟩ := ygO hg hD
  exact yht hD hd hR
theorem p_system_Size {n : Int} {es : List E3} {d : List Int} {R : Int → Int → Prop} (hl : es.length ≤ 1000) (h0 : yaD n es 0 d ≠ 0 → R 0 (yaD n es 0 d)) (h1 : yaD n es 0 d = 0 → DOk n.toNat es d ∧ R (((sysF n.toNat es d).length : Nat) : Int) 0) : ya9 n es d R := by
  unfold ya9
  exact ydK hl h0 h1
theorem yhi {n : Nat} {es : List E3} {d : List Int} (hD : DOk n es d) : (sysF n es d).length ≤ 2401 := sys_len hD.G.n1 hD.G.n5 hD.d5
theorem yho {n : Nat} {es : List E3} {d x : List Int} (hD : DOk n es d) (hd : d.length = n) (hx : x ∈ sysF n es d) : Pos n x ∧ Eqv n es d x := (yc0 hD.G.n1 hd).1 hx
end Go.Proofs.YtncilechkclmbaaGreat

/- yju, and what the references of package system come to. -/
namespace Go.Proofs.YtncilechkclmbaaGreat
open Go Go.Proofs.Tryz
set_option linter.unusedVariables false
set_option linter.unusedSimpArgs false
def StepTo (n : Nat) (es : List E3) (d y : List Int) (k : Nat) : Prop := ∃ m, 1 ≤ m ∧ m < k ∧ Pos n (firM n es d m) ∧ y = firM n es d m
section
variable {n : Nat} {es : List E3} {d : List Int}
end
def StepsL (n : Nat) (es : List E3) (d : List Int) (z : List (List Int)) : Prop := Asc z ∧ ∀ y, y ∈ z ↔ StepTo n es d y (2 ^ n - 1)
theorem StepsL.eq {n : Nat} {es : List E3} {d : List Int} {z z' : List (List Int)} (h : StepsL n es d z) (h' : StepsL n es d z') : z = z' := Asc.eq h.1 h'.1 fun y => by rw [h.2, h'.2]
end Go.Proofs.YtncilechkclmbaaGreat

/- The references of package system: the system, what is above, the steps. -/
namespace Go.Proofs.YtncilechkclmbaaGreat
open Go Go.Proofs.Tryz
set_option linter.unusedVariables false
set_option linter.unusedSimpArgs false
section
variable {N : Nat} {es : List E3} {d : List Int}
open Classical in
end
end Go.Proofs.YtncilechkclmbaaGreat

/- Pure forms of functions, made by program (pf.py), each with the proof that the code does so. -/
namespace Go.Proofs.YtncilechkclmbaaGreat
open Go Go.RowKit Go.Shelf Go.Proofs.Tryz
set_option linter.unusedVariables false
set_option maxRecDepth 100000
set_option maxHeartbeats 1000000
def yhG (s1 : List (List Int)) (s2 : List (List Int)) (Feq : (List Int) → (List Int) → (Bool → Prop) → Prop) (R : Bool → Prop) : Prop :=
((((s1.length : Nat) : Int) = ((s2.length : Nat) : Int) →
(∃ I2 : Nat → Int → Prop, (∃ m0, I2 m0 0) ∧ ∀ m2 v, I2 m2 v → 
((v < ((s1.length : Nat) : Int) →
((0 ≤ v ∧ v < ((s1.length : Nat) : Int)) ∧
((0 ≤ v ∧ v < ((s2.length : Nat) : Int)) ∧
Feq (gx s1 v.toNat) (gx s2 v.toNat) (fun (r : Bool) =>
((r = true →
(In64 (v + 1) ∧
∃ m3, m3 < m2 ∧ I2 m3 (v + 1))) ∧
(¬ (r = true) →
R false)))))) ∧
(¬ (v < ((s1.length : Nat) : Int)) →
R true)))) ∧
(¬ (((s1.length : Nat) : Int) = ((s2.length : Nat) : Int)) →
R false))
theorem yic {O : Nat → Prop} {w : World} {s1 : List (List Int)} {s2 : List (List Int)} {Feq : (List Int) → (List Int) → (Bool → Prop) → Prop} {As1 : Option Addr} {ls1 : Nat} {cs1 : Nat} {As2 : Option Addr} {ls2 : Nat} {cs2 : Nat} {eq : Value} {R : Bool → Prop} (h : yhG s1 s2 Feq R) (hO : ∀ k, O k → k < w.heap.size) (hA0 : (FP.sl (cL cI) As1 ls1 cs1 s1).P O w) (hA1 : (FP.sl (cL cI) As2 ls2 cs2 s2).P O w) (hA2 : (FP.st fun w' => ∃ (fid : Nat) (us : Array Value), eq = Value.func (.func fid) #[] us ∧ Enters Tryz.prog fid ∧ ∀ (x0 : List Int) (x1 : List Int) (Ax0 : Option Addr) (lx0 : Nat) (cx0 : Nat) (Ax1 : Option Addr) (lx1 : Nat) (cx1 : Nat) (R : Bool → Prop), Feq x0 x1 R → (FP.sl cI Ax0 lx0 cx0 x0).P no w' → (FP.sl cI Ax1 lx1 cx1 x1).P no w' → Calls Tryz.prog fid (#[(Value.slice Ax0 lx0 cx0), (Value.slice Ax1 lx1 cx1)] ++ us) w' fun e w'' => ∃ r0 : Bool, e = .returned (Value.bool (r0)) ∧ Sep w' no no w'' (rl []) ∧ R r0).P O w) :
    Calls Tryz.prog 31 #[(.slice As1 ls1 cs1), (.slice As2 ls2 cs2), eq] w fun e w' => ∃ r2, e = .returned (.bool (r2)) ∧ Sep w no O w' (rl []) ∧ R r2 := by
  unfold yhG at h; have hS : Sep w no O w (rl [Res.ro (FP.sl (cL cI) As1 ls1 cs1 s1), Res.ro (FP.sl (cL cI) As2 ls2 cs2 s2), Res.ro (FP.st fun w' => ∃ (fid : Nat) (us : Array Value), eq = Value.func (.func fid) #[] us ∧ Enters Tryz.prog fid ∧ ∀ (x0 : List Int) (x1 : List Int) (Ax0 : Option Addr) (lx0 : Nat) (cx0 : Nat) (Ax1 : Option Addr) (lx1 : Nat) (cx1 : Nat) (R : Bool → Prop), Feq x0 x1 R → (FP.sl cI Ax0 lx0 cx0 x0).P no w' → (FP.sl cI Ax1 lx1 cx1 x1).P no w' → Calls Tryz.prog fid (#[(Value.slice Ax0 lx0 cx0), (Value.slice Ax1 lx1 cx1)] ++ us) w' fun e w'' => ∃ r0 : Bool, e = .returned (Value.bool (r0)) ∧ Sep w' no no w'' (rl []) ∧ R r0)]) := Sep.startl hO [(FP.sl (cL cI) As1 ls1 cs1 s1), (FP.sl (cL cI) As2 ls2 cs2 s2), (FP.st fun w' => ∃ (fid : Nat) (us : Array Value), eq = Value.func (.func fid) #[] us ∧ Enters Tryz.prog fid ∧ ∀ (x0 : List Int) (x1 : List Int) (Ax0 : Option Addr) (lx0 : Nat) (cx0 : Nat) (Ax1 : Option Addr) (lx1 : Nat) (cx1 : Nat) (R : Bool → Prop), Feq x0 x1 R → (FP.sl cI Ax0 lx0 cx0 x0).P no w' → (FP.sl cI Ax1 lx1 cx1 x1).P no w' → Calls Tryz.prog fid (#[(Value.slice Ax0 lx0 cx0), (Value.slice Ax1 lx1 cx1)] ++ us) w' fun e w'' => ∃ r0 : Bool, e = .returned (Value.bool (r0)) ∧ Sep w' no no w'' (rl []) ∧ R r0)] ⟨hA0, hA1, hA2, trivial⟩; refine yan (l := [(Value.slice As1 ls1 cs1), (Value.slice As2 ls2 cs2), eq]) func31 rfl ntmps31 (Nat.le_of_ble_eq_true rfl) ?_; refine yaf ?_; refine ya5 yaQ ?_; refine rl_q rfl rfl rfl (ydi (v := (.bool (false))) rfl) ?_; refine yaa ?_; refine yaf ?_; refine yaf ?_; refine ya5 yaQ ?_; refine rl_q rfl rfl rfl (yae (v := (.slice As1 ls1 cs1)) rfl) ?_; refine rl_q rfl rfl rfl (ybc (n := s1.length) rfl underlying44 (ya2 (hS.rdr 0 rfl))) ?_; refine rl_q rfl rfl rfl (yae (v := (.slice As2 ls2 cs2)) rfl) ?_; refine rl_q rfl rfl rfl (ybc (n := s2.length) rfl underlying44 (ya2 (hS.rdr 1 rfl))) ?_; refine rl_q rfl rfl rfl (v_neq rfl rfl) ?_; refine yaa ?_; by_cases hp : ((s1.length : Nat) : Int) = ((s2.length : Nat) : Int)
  · replace h := h.1 hp; refine yax (congrArg Value.bool (congrArg Bool.not (decide_eq_true hp))) ?_; refine yag ?_; refine yaf ?_; refine yaf ?_; refine ya5 yaQ ?_; refine rl_q rfl rfl rfl (yae (v := (.slice As1 ls1 cs1)) rfl) ?_; refine rl_q rfl rfl rfl (ybc (n := s1.length) rfl underlying44 (ya2 (hS.rdr 0 rfl))) ?_; refine rl_q rfl rfl rfl (yae (v := (.int .i64 0)) rfl) ?_; refine yaa ?_; refine yak ?_; obtain ⟨I2, ⟨m0, h0⟩, hr⟩ := h; refine yaO (fun m E ds w' => ∃ v : Int, I2 m v ∧ ds = [] ∧ E 1 = (Value.slice As2 ls2 cs2) ∧ E 2 = eq ∧ E 15 = (Value.slice As1 ls1 cs1) ∧ E 16 = (Value.int .i64 ((s1.length : Nat) : Int)) ∧ E 17 = (Value.int .i64 v) ∧ Sep w no O w' (rl [Res.ro (FP.sl (cL cI) As2 ls2 cs2 s2), Res.ro (FP.st fun w' => ∃ (fid : Nat) (us : Array Value), eq = Value.func (.func fid) #[] us ∧ Enters Tryz.prog fid ∧ ∀ (x0 : List Int) (x1 : List Int) (Ax0 : Option Addr) (lx0 : Nat) (cx0 : Nat) (Ax1 : Option Addr) (lx1 : Nat) (cx1 : Nat) (R : Bool → Prop), Feq x0 x1 R → (FP.sl cI Ax0 lx0 cx0 x0).P no w' → (FP.sl cI Ax1 lx1 cx1 x1).P no w' → Calls Tryz.prog fid (#[(Value.slice Ax0 lx0 cx0), (Value.slice Ax1 lx1 cx1)] ++ us) w' fun e w'' => ∃ r0 : Bool, e = .returned (Value.bool (r0)) ∧ Sep w' no no w'' (rl []) ∧ R r0), Res.ro (FP.sl (cL cI) As1 ls1 cs1 s1)])) m0 ⟨_, h0, rfl, rfl, rfl, rfl, rfl, rfl, (hS.sel [1, 2, 0] (by decide))⟩ ?_; clear h0 hS; rintro m2 E ds w2 ⟨v, h, rfl, hE1, hE2, hE15, hE16, hE17, hS⟩ again; replace h := hr m2 v h; clear hr; refine yaf ?_; refine ya5 yaQ ?_; refine rl_q rfl rfl rfl (yd4 hE17 hE16) ?_; refine yaa ?_; refine yaf ?_; by_cases hp2 : v < ((s1.length : Nat) : Int)
    · replace h := h.1 hp2; refine zc hp2 (yag (yaf (yak (zs (zq (yae hE17) ?_))))); obtain ⟨hx, h⟩ := h; refine zq (yeK hE15 hE17 underlying44 ya0 (ybh (hS.rdr 2 rfl) hx)) ?_; obtain ⟨A, l, c, hc, hq⟩ := hS.el 2 rfl hx 3 4 rfl rfl (by decide); replace hS := hq; clear hq; refine zq (yaA (v := (.slice A l c)) rfl underlying26 rfl (hS.clr 4 rfl)) (zq (za (ii v)) (zq (za (.slice A l c)) (yaa (zs (zq (yae hE1) (zq (zm (ii v)) ?_)))))); obtain ⟨hx2, h⟩ := h; refine zq (zi underlying44 ya0 (ybh (hS.rdr 0 rfl) hx2)) ?_; obtain ⟨A2, l2, c2, hc2, hq⟩ := hS.el 0 rfl hx2 5 6 rfl rfl (by decide); replace hS := hq; clear hq; refine zq (yaA (v := (.slice A2 l2 c2)) rfl underlying26 rfl (hS.clr 6 rfl)) (zq (za (.slice A2 l2 c2)) (yaa (zs (zq (yae hE2) (zq (zm (.slice A l c)) (zq (zm (.slice A2 l2 c2)) ?_)))))); obtain ⟨fid, us, hf, he, hcl⟩ := hS.ro 1 rfl _ (Keeps.refl _ _); replace h := hcl _ _ _ _ _ _ _ _ _ h (hS.rdr 3 rfl) (hS.rdr 5 rfl); clear hcl; refine zn (yeH (hf) (am2 rfl rfl) he (h.mono ?_)); clear hf he; rintro _ w3 ⟨r, rfl, hC, h⟩; replace hS := hS.pur hC.pure; clear hC; refine ⟨_, rfl, ?_⟩; refine zb (zq (ydn rfl) (yaa ?_)); by_cases hp3 : r = true
      · replace h := h.1 hp3; refine yax (congrArg Value.bool (congrArg Bool.not hp3)) (yag (yai (zr ?_))); obtain ⟨hi, h⟩ := h; refine zq (ycv hE17 rfl hi) (zq (zm (ii (v + 1))) (yaa ?_)); obtain ⟨mq, hlt, h⟩ := h; exact again mq _ _ _ ⟨_, h, rfl, hE1, hE2, hE15, hE16, rfl, (hS.sel [0, 1, 2] (by decide))⟩ hlt
      · replace h := h.2 hp3; exact yaq (congrArg Value.bool (congrArg Bool.not (Bool.eq_false_iff.2 hp3))) (zs (zq (za (.bool (false))) (yaa (yah rfl rfl ⟨_, rfl, (hS.sel [] (by decide)), h⟩))))
    · replace h := h.2 hp2; exact zd hp2 (yaH rfl (zs (zq (za (.bool (true))) (yaa (yah rfl rfl ⟨_, rfl, (hS.sel [] (by decide)), h⟩)))))
  · replace h := h.2 hp; exact zf hp (zs (zq (za (.bool (false))) (yaa (yah rfl rfl ⟨_, rfl, (hS.sel [] (by decide)), h⟩))))
end Go.Proofs.YtncilechkclmbaaGreat

/- Laws of layer 37: the examples, what is right, and the four laws against the reference. -/
namespace Go.Proofs.YtncilechkclmbaaGreat
open Go Go.Proofs.Tryz
set_option linter.unusedVariables false
set_option linter.unusedSimpArgs false
theorem tri_lp (s : Nat → Int) : Lp 3 tri s 0 = 2 * s 0 - s 1 - s 2 ∧ Lp 3 tri s 1 = 2 * s 1 - s 0 - s 2 ∧ Lp 3 tri s 2 = 2 * s 2 - s 0 - s 1 := by
  have h : ∀ v, Lp 3 tri s v = W tri v 0 * (s v - s 0) + W tri v 1 * (s v - s 1) + W tri v 2 * (s v - s 2) := fun v => by
    show sm 3 _ = _
    simp [sm]
  refine ⟨?_, ?_, ?_⟩
  · rw [h, show W tri 0 0 = 0 by decide, show W tri 0 1 = 1 by decide, show W tri 0 2 = 1 by decide]; omega
  · rw [h, show W tri 1 0 = 1 by decide, show W tri 1 1 = 0 by decide, show W tri 1 2 = 1 by decide]; omega
  · rw [h, show W tri 2 0 = 1 by decide, show W tri 2 1 = 1 by decide, show W tri 2 2 = 0 by decide]; omega
theorem tri_eqv {x y : List Int} (h : Eqv 3 tri x y) : ∃ k : Int, (gi y 1 + 2 * gi y 2) - (gi x 1 + 2 * gi x 2) = 3 * k := by
  obtain ⟨s, hs⟩ := h
  obtain ⟨h0, h1, h2⟩ := tri_lp s
  have k1 := hs 1 (by omega)
  have k2 := hs 2 (by omega)
  exact ⟨s 0 - s 2, by omega⟩
theorem yfU {n : Nat} {es : List E3} {x y : List Int} (s : List Int) (h : ∀ v, v < n → gi y v = gi x v - Lp n es (gi s) v) : Eqv n es x y := ⟨gi s, h⟩
theorem sys_of {n : Nat} {es : List E3} {d : List Int} {l : List (List Int)} (hn : 1 ≤ n) (hd : d.length = n) (ha : Asc l) (h : ∀ y, y ∈ l ↔ Pos n y ∧ Eqv n es d y) : sysF n es d = l := Asc.eq (ygq _ _ _) ha fun y => by rw [yc0 hn hd, h]
theorem asc_dec {l : List (List Int)} (h : l.Pairwise fun a b => lexC a b < 0) : Asc l := h
theorem pos_in {N k : Nat} {y d : List Int} {es : List E3} (hd : d.length = N + 1) (hk : dg d = k) (hp : Pos (N + 1) y) (he : Eqv (N + 1) es d y) : y ∈ ydb (N + 1) k := ykr ⟨hp.len, hp.pos, by rw [he.dg hd hp.len, hk]⟩
theorem ys1 : sysF 3 tri [1, 1, 0] = [[0, 0, 2], [1, 1, 0]] := by
  refine sys_of (by decide) rfl (asc_dec (by decide)) fun y => ⟨fun h => ?_, fun ⟨hp, he⟩ => ?_⟩
  · rcases List.mem_cons.1 h with rfl | h
    · exact ⟨⟨rfl, by decide⟩, yfU [1, 1, 0] (by decide)⟩
    · rw [List.mem_singleton.1 h]
      exact ⟨⟨rfl, by decide⟩, Eqv.refl _ _ _⟩
  · have h := pos_in (N := 2) (k := 2) rfl (by decide) hp he
    obtain ⟨k, hk⟩ := tri_eqv he
    have hl : ydb 3 2 = [[0, 0, 2], [0, 1, 1], [0, 2, 0], [1, 0, 1], [1, 1, 0], [2, 0, 0]] := by decide
    rw [hl] at h
    simp only [List.mem_cons, List.not_mem_nil, or_false] at h
    rcases h with rfl | rfl | rfl | rfl | rfl | rfl <;> simp [gi] at hk ⊢ <;> omega
theorem ex_dok {n : Nat} {es : List E3} {d : List Int} (G : GOk n es) (hd : d.length = n) (hb : ∀ v, v < n → -150 ≤ gi d v ∧ gi d v ≤ 150) (h5 : dg d ≤ 5) : DOk n es d ∧ yaD n es 0 d = 0 := ⟨⟨G, hb, h5⟩, G.giv hd fun v hv => by have := hb v hv; omega⟩
theorem ex_all {n : Nat} {es : List E3} {d : List Int} {R : List (List Int) → Int → Prop} (hD : DOk n es d ∧ yaD n es 0 d = 0) (h : R (sysF n es d) 0) : ybk n es d R :=
  ydK (by have := hD.1.G.el; omega) (fun q => absurd hD.2 q) fun _ => ⟨by rw [Int.toNat_natCast]; exact hD.1, by rw [Int.toNat_natCast]; exact h⟩
theorem ex_size {n : Nat} {es : List E3} {d : List Int} {R : Int → Int → Prop} (hD : DOk n es d ∧ yaD n es 0 d = 0) (h : R (((sysF n es d).length : Nat) : Int) 0) : ya9 n es d R :=
  p_system_Size (by have := hD.1.G.el; omega) (fun q => absurd hD.2 q) fun _ => ⟨by rw [Int.toNat_natCast]; exact hD.1, by rw [Int.toNat_natCast]; exact h⟩
end Go.Proofs.YtncilechkclmbaaGreat

/- Laws of layer 37: Lists, Points, yju, Covers. -/
namespace Go.Proofs.YtncilechkclmbaaGreat
open Go Go.Proofs.Tryz
set_option linter.unusedVariables false
set_option linter.unusedSimpArgs false
structure RtOk (n : Int) (es : List E3) (most : Int) (d : List Int) : Prop where
  j : yb2 n es = 0
  c : yaJ d n = 0
  f : FewOk n es d most
theorem RtOk.giv {n most : Int} {es : List E3} {d : List Int} (h : RtOk n es most d) : yaD n es 0 d = 0 := by rw [given0, if_pos h.j, h.c]
theorem bool_ofL (p : List Int → Prop) : ∃ f : List Int → Bool, ∀ d, f d = true ↔ p d := ⟨fun v => @decide (p v) (Classical.propDecidable _), fun v => by simp⟩
theorem RtOk.nat {n : Nat} {most : Int} {es : List E3} {d : List Int} (h : RtOk n es most d) (hm : most ≤ 5) : DOk n es d ∧ yaD n es 0 d = 0 ∧ d.length = n ∧ dg d ≤ most ∧ ∀ v, v < n → -100 ≤ gi d v ∧ gi d v ≤ 100 := by
  have hg := h.giv
  have hD := h.f.dok hm hg
  rw [Int.toNat_natCast] at hD
  have h4 := ydT (q := 0) hg
  have hlo := (yeZ.1 (h.f.g hg).1).2 h.c
  exact ⟨hD, hg, h4.2.2.2.2.2.2.1, (h.f.g hg).2, fun v hv => hlo v (by have := h4.2.2.2.2.2.2.1; omega)⟩
theorem RtOk.int {n most : Int} {es : List E3} {d : List Int} (h : RtOk n es most d) : ∃ n' : Nat, n = (n' : Int) := ⟨n.toNat, by have := yb7 h.giv; omega⟩
theorem sysF_lens {n : Nat} {es : List E3} {d : List Int} (hD : DOk n es d) (hd : d.length = n) : ∀ x ∈ sysF n es d, x.length ≤ 1000000000 := fun x hx => by rw [(yho hD hd hx).1.len]; have := hD.G.n5; omega
end Go.Proofs.YtncilechkclmbaaGreat

/- Laws of layer 37: Connects, Reaches, Adds, Agrees. -/
namespace Go.Proofs.YtncilechkclmbaaGreat
open Go Go.Proofs.Tryz
set_option linter.unusedVariables false
set_option linter.unusedSimpArgs false
theorem sysF_eqv {n : Nat} {es : List E3} {d d' : List Int} (hn : 1 ≤ n) (hd : d.length = n) (hd' : d'.length = n) (h : Eqv n es d d') : sysF n es d' = sysF n es d := Asc.eq (ygq _ _ _) (ygq _ _ _) fun y => by
  rw [yc0 hn hd, yc0 hn hd']
  exact ⟨fun ⟨h1, h2⟩ => ⟨h1, h.trans h2⟩, fun ⟨h1, h2⟩ => ⟨h1, h.symm.trans h2⟩⟩
end Go.Proofs.YtncilechkclmbaaGreat

/- Pure forms of functions, made by program (pf.py), each with the proof that the code does so. -/
namespace Go.Proofs.YtncilechkclmbaaGreat
open Go Go.RowKit Go.Shelf Go.Proofs.Tryz
set_option linter.unusedVariables false
set_option maxRecDepth 100000
set_option maxHeartbeats 1000000
end Go.Proofs.YtncilechkclmbaaGreat

/- Pure forms of functions, made by program (pf.py), each with the proof that the code does so. -/
namespace Go.Proofs.YtncilechkclmbaaGreat
open Go Go.RowKit Go.Shelf Go.Proofs.Tryz
set_option linter.unusedVariables false
set_option maxRecDepth 100000
set_option maxHeartbeats 1000000
def ylq (g : Int) (g2 : List E3) (a : List Int) (b : List Int) (s : List Int) (R : Int → Prop) : Prop :=
yhO g g2 ([a, b, s]) (fun r =>
((r = 0 →
yh1 g g2 a s (fun r2 r3 =>
((r3 = 0 →
yaz r2 b (fun r4 =>
((r4 = true →
R 0) ∧
(¬ (r4 = true) →
R 16)))) ∧
(¬ (r3 = 0) →
R 16)))) ∧
(¬ (r = 0) →
R r)))
theorem ylt {O : Nat → Prop} {w : World} {g g2 a b s Ag lg cg Aa la ca Ab lb cb As ls cs} {R : Int → Prop} (h : ylq g g2 a b s R) (hO : ∀ k, O k → k < w.heap.size) (hA0 : (FP.sl c3 Ag lg cg g2).P O w) (hA1 : (FP.sl cI Aa la ca a).P O w) (hA2 : (FP.sl cI Ab lb cb b).P O w) (hA3 : (FP.sl cI As ls cs s).P O w) :
    Calls Tryz.prog 49 #[(.agg #[(ii g), (.slice Ag lg cg)]), (.slice Aa la ca), (.slice Ab lb cb), (.slice As ls cs)] w fun e w' => ∃ r5, e = .returned (ii r5) ∧ Sep w no O w' (rl []) ∧ R r5 := by
  unfold ylq at h; have hS : Sep w no O w (rl [Res.ro (FP.sl c3 Ag lg cg g2), Res.ro (FP.sl cI Aa la ca a), Res.ro (FP.sl cI Ab lb cb b), Res.ro (FP.sl cI As ls cs s)]) := Sep.startl hO [(FP.sl c3 Ag lg cg g2), (FP.sl cI Aa la ca a), (FP.sl cI Ab lb cb b), (FP.sl cI As ls cs s)] ⟨hA0, hA1, hA2, hA3, trivial⟩; refine yan (l := [(.agg #[(ii g), (.slice Ag lg cg)]), (.slice Aa la ca), (.slice Ab lb cb), (.slice As ls cs)]) func49 rfl ntmps49 (Nat.le_of_ble_eq_true rfl) (zs (zn (yb6 (v := (.agg #[(ii g), (.slice Ag lg cg)])) rfl ?_))); intro g3 w2 hN; replace hS : Sep w no O w2 (stl _ 4 (Res.box 24 g3 [(ii g), (.slice Ag lg cg)])) := hS.new 4 rfl hN; clear hN; refine zb (zq (za (ii 0)) (yaa (yaf (zs (zq (yav (vs := [(ii g), (.slice Ag lg cg)]) rfl underlying24 rfl yas ⟨Row.cell (hS.bx 4 rfl) (i := 0) rfl, Row.cell (hS.bx 4 rfl) (i := 1) rfl, trivial⟩) (zq (zm (.slice Aa la ca)) (zq (zm (.slice Ab lb cb)) (zq (zm (.slice As ls cs)) (zn (yaR (l := [(0, (.slice Aa la ca)), (1, (.slice Ab lb cb)), (2, (.slice As ls cs))]) (cells := [(.slice Aa la ca), (.slice Ab lb cb), (.slice As ls cs)]) (bp3 rfl rfl rfl) underlying44 ya0 rfl rfl ?_)))))))))); intro g4 w3 hN; replace hS := hS.lit (n := 3) (c := (cL cI)) 5 rfl hN ([a, b, s] : List (List Int)) rfl (by decide) ⟨[(.slice Aa la ca)], _, rfl, (ro_R (hS.ro 1 rfl)), ⟨[(.slice Ab lb cb)], _, rfl, (ro_R (hS.ro 2 rfl)), ⟨[(.slice As ls cs)], _, rfl, (ro_R (hS.ro 3 rfl)), rfl⟩⟩⟩; clear hN; refine zb (zn (yal rfl (am2 rfl rfl) enter_90 ((yiz h (yaN _) (hS.rdr 0 rfl) (hS.rdo 5 rfl)).mono ?_))); rintro _ w4 ⟨r, rfl, hC, h⟩; replace hS := hS.pur hC.pure; clear hC; refine ⟨_, rfl, ?_⟩; refine zb (zq (za (ii r)) (yaa (zs (zq (zm (ii r)) (zq zN (yaa ?_)))))); by_cases hp : r = 0
  · replace h := h.1 hp; refine ze hp (yag (zs (zq (yav (vs := [(ii g), (.slice Ag lg cg)]) rfl underlying24 rfl yas ⟨Row.cell (hS.bx 4 rfl) (i := 0) rfl, Row.cell (hS.bx 4 rfl) (i := 1) rfl, trivial⟩) (zq (zm (.slice Aa la ca)) (zq (zm (.slice As ls cs)) (zn (yal rfl (am3 rfl rfl rfl) enter_30 ((yiK h hS.blt (hS.ro 0 rfl) (hS.ro 1 rfl) (hS.ro 3 rfl)).mono ?_)))))))); rintro _ w5 ⟨r2, r3, Ar, lr, cr, rfl, hC, h⟩; replace hS := hS.call1 hC 6 0 rfl; clear hC; refine ⟨_, rfl, ?_⟩; refine zb (zq (zm (.tuple #[(.slice Ar lr cr), (ii r3)])) (zq (zx (.slice Ar lr cr)) (zq (zx (ii r3)) (zq (za (.slice Ar lr cr)) (zq (za (ii r3)) (yaa (yaf (zs (zq (zm (ii r3)) (zq zN (zq (zm (.bool (!(decide (r3 = 0))))) ?_))))))))))); by_cases hp2 : r3 = 0
    · replace h := h.1 hp2; refine rl_q (yad rfl (yac rfl (congrArg Value.bool (congrArg Bool.not (decide_eq_true hp2))))) rfl rfl (zm (.slice Ar lr cr)) (rl_q (yad rfl (yac rfl (congrArg Value.bool (congrArg Bool.not (decide_eq_true hp2))))) rfl rfl (zm (.slice Ab lb cb)) (rl_n (yad rfl (yac rfl (congrArg Value.bool (congrArg Bool.not (decide_eq_true hp2))))) rfl rfl rfl (yal rfl (am2 rfl rfl) yeX ((yaP h (yaN _) (hS.rdr 6 rfl) (hS.rdr 2 rfl)).mono ?_)))); rintro _ w6 ⟨r4, rfl, hC, h⟩; replace hS := hS.pur hC.pure; clear hC; refine ⟨_, rfl, ?_⟩; refine zb (rl_q (yad rfl (yac rfl (congrArg Value.bool (congrArg Bool.not (decide_eq_true hp2))))) rfl rfl (ydn rfl) (zq (yap (v := (.bool (!(r4)))) (congrArg Value.bool (congrArg Bool.not (decide_eq_true hp2))) rfl) (yaa ?_))); by_cases hp3 : r4 = true
      · replace h := h.1 hp3; exact yax (congrArg Value.bool (congrArg Bool.not hp3)) (yag (zs (zq (za (ii 0)) (yaa (yah rfl rfl ⟨_, rfl, (hS.sel [] (by decide)), h⟩)))))
      · replace h := h.2 hp3; exact yaq (congrArg Value.bool (congrArg Bool.not (Bool.eq_false_iff.2 hp3))) (zs (zq (za (ii 16)) (yaa (yah rfl rfl ⟨_, rfl, (hS.sel [] (by decide)), h⟩))))
    · replace h := h.2 hp2; exact rl_p (yab rfl (yac rfl (congrArg Value.bool (congrArg Bool.not (decide_eq_false hp2)))) rfl) rfl (rl_p (yab rfl (yac rfl (congrArg Value.bool (congrArg Bool.not (decide_eq_false hp2)))) rfl) rfl (rl_p (yab rfl (yac rfl (congrArg Value.bool (congrArg Bool.not (decide_eq_false hp2)))) rfl) rfl (rl_p (yab rfl (yac rfl (congrArg Value.bool (congrArg Bool.not (decide_eq_false hp2)))) rfl) rfl (zq (yao (v := (.bool (true))) (congrArg Value.bool (congrArg Bool.not (decide_eq_false hp2))) rfl) (yaa (yaq rfl (zs (zq (za (ii 16)) (yaa (yah rfl rfl ⟨_, rfl, (hS.sel [] (by decide)), h⟩))))))))))
  · replace h := h.2 hp; exact zf hp (zs (zq (zm (ii r)) (zq (za (ii r)) (yaa (yah rfl rfl ⟨_, rfl, (hS.sel [] (by decide)), h⟩)))))
def ylp (s : List Int) (R : (List Int) → Int → Prop) : Prop :=
((12 < ((s.length : Nat) : Int) →
R ([]) 5) ∧
(¬ (12 < ((s.length : Nat) : Int)) →
(∃ I2 : Nat → Int → Prop, (∃ m0, I2 m0 0) ∧ ∀ m2 v, I2 m2 v → 
((v < ((s.length : Nat) : Int) →
((0 ≤ v ∧ v < ((s.length : Nat) : Int)) ∧
(((gi s v.toNat) < (-1048576) →
R ([]) 2) ∧
(¬ ((gi s v.toNat) < (-1048576)) →
((1048576 < (gi s v.toNat) →
R ([]) 2) ∧
(¬ (1048576 < (gi s v.toNat)) →
(In64 (v + 1) ∧
∃ m3, m3 < m2 ∧ I2 m3 (v + 1)))))))) ∧
(¬ (v < ((s.length : Nat) : Int)) →
yhN s (fun r =>
R r 0))))))
theorem ylu {O : Nat → Prop} {w : World} {s As ls cs} {R : (List Int) → Int → Prop} (h : ylp s R) (hO : ∀ k, O k → k < w.heap.size) (hA0 : (FP.sl cI As ls cs s).P O w) :
    Calls Tryz.prog 47 #[(.slice As ls cs)] w fun e w' => ∃ r2 r3 Ar2 lr2 cr2, e = .returned (.tuple #[(.slice Ar2 lr2 cr2), (ii r3)]) ∧ Sep w no O w' (rl [Res.own cI 3 Ar2 lr2 cr2 r2]) ∧ R r2 r3 := by
  unfold ylp at h; have hS : Sep w no O w (rl [Res.ro (FP.sl cI As ls cs s)]) := Sep.startl hO [(FP.sl cI As ls cs s)] ⟨hA0, trivial⟩; refine yan (l := [(.slice As ls cs)]) func47 rfl ntmps47 (Nat.le_of_ble_eq_true rfl) (zs (zq (za (.slice none 0 0)) (zq (za (ii 0)) (yaa (yaf (zs (zq (zm (.slice As ls cs)) (zq (ybc (n := s.length) rfl underlying36 (ya2 (hS.rdr 0 rfl))) (zq zG (yaa ?_)))))))))); by_cases hp : 12 < ((s.length : Nat) : Int)
  · replace h := h.1 hp; refine zc hp (zs (zq (za (.slice none 0 0)) (zq (za (ii 5)) (yaa ?_)))); replace hS := hS.nil 1 rfl cI 3; exact ybF rfl rfl rfl ⟨_, _, _, _, _, rfl, (hS.sel [1] (by decide)), h⟩
  · replace h := h.2 hp; refine zd hp (yag (yaf (zs (zq (zm (.slice As ls cs)) (zq (ybc (n := s.length) rfl underlying36 (ya2 (hS.rdr 0 rfl))) (zq (zm (ii 0)) (yaa (yak ?_)))))))); obtain ⟨I2, ⟨m0, h0⟩, hr⟩ := h; refine yaO (fun m E ds w' => ∃ v, I2 m v ∧ ds = [] ∧ E 0 = (Value.slice As ls cs) ∧ E 9 = (Value.slice As ls cs) ∧ E 10 = (ii ((s.length : Nat) : Int)) ∧ E 11 = (ii v) ∧ Sep w no O w' (rl [Res.ro (FP.sl cI As ls cs s)])) m0 ⟨_, h0, rfl, rfl, rfl, rfl, rfl, (hS.sel [0] (by decide))⟩ ?_; clear h0 hS; rintro m2 E ds w2 ⟨v, h, rfl, hE0, hE9, hE10, hE11, hS⟩ again; replace h := hr m2 v h; clear hr; refine zs (zq (yd4 hE11 hE10) (yaa (yaf ?_))); by_cases hp2 : v < ((s.length : Nat) : Int)
    · replace h := h.1 hp2; refine zc hp2 (yag (yaf (yak (zs ?_)))); obtain ⟨hx, h⟩ := h; refine zq (yeK hE9 hE11 underlying36 yaj (ybh (hS.rdr 0 rfl) hx)) (zq (yaA (v := (ii (gi s v.toNat))) rfl underlying3 rfl (rd_1 (hS.rdr 0 rfl) hx (fun q => ybs q) rfl)) ?_); refine zq (za (ii (gi s v.toNat))) (yaa (zs (zq (zm (ii (gi s v.toNat))) (zq zL (zq (zm (.bool (decide ((gi s v.toNat) < (-1048576))))) ?_))))); by_cases hp3 : (gi s v.toNat) < (-1048576)
      · replace h := h.1 hp3; refine rl_p (yab rfl (yac rfl (congrArg Value.bool (decide_eq_true hp3))) rfl) rfl (rl_p (yab rfl (yac rfl (congrArg Value.bool (decide_eq_true hp3))) rfl) rfl (zq (yao (v := (.bool (true))) (congrArg Value.bool (decide_eq_true hp3)) rfl) (yaa (yaq rfl (zs (zq (za (.slice none 0 0)) (zq (za (ii 2)) (yaa ?_)))))))); replace hS := hS.nil 1 rfl cI 3; exact ybF rfl rfl rfl ⟨_, _, _, _, _, rfl, (hS.sel [1] (by decide)), h⟩
      · replace h := h.2 hp3; refine rl_q (yad rfl (yac rfl (congrArg Value.bool (decide_eq_false hp3)))) rfl rfl (zm (ii (gi s v.toNat))) (rl_q (yad rfl (yac rfl (congrArg Value.bool (decide_eq_false hp3)))) rfl rfl zG (zq (yap (v := (.bool (decide (1048576 < (gi s v.toNat))))) (congrArg Value.bool (decide_eq_false hp3)) rfl) (yaa ?_))); by_cases hp4 : 1048576 < (gi s v.toNat)
        · replace h := h.1 hp4; refine zc hp4 (zs (zq (za (.slice none 0 0)) (zq (za (ii 2)) (yaa ?_)))); replace hS := hS.nil 1 rfl cI 3; exact ybF rfl rfl rfl ⟨_, _, _, _, _, rfl, (hS.sel [1] (by decide)), h⟩
        · replace h := h.2 hp4; refine zd hp4 (yag (yai (zr ?_))); obtain ⟨hi, h⟩ := h; refine zq (ycv hE11 rfl hi) (zq (zm (ii (v + 1))) (yaa ?_)); obtain ⟨mq, hlt, h⟩ := h; exact again mq _ _ _ ⟨_, h, rfl, hE0, hE9, hE10, rfl, (hS.sel [0] (by decide))⟩ hlt
    · replace h := h.2 hp2; refine zd hp2 (yaH rfl (zs (zq (yae hE0) (zn (yal rfl (am1 rfl) enter_91 ((yiy h (yaN _) (hS.rdr 0 rfl)).mono ?_)))))); rintro _ w3 ⟨r, Ar, lr, cr, rfl, hC, h⟩; replace hS := hS.call1 (hC.widen (yea (ybl (fI .i64) _ _ _ _ _) ye0) hS.blt) 1 0 rfl; clear hC; refine ⟨_, rfl, ?_⟩; exact zb (zq (za (.slice Ar lr cr)) (zq (za (ii 0)) (yaa (ybF rfl rfl rfl ⟨_, _, _, _, _, rfl, (hS.sel [1] (by decide)), h⟩))))
def ykG (R : Bool → Prop) : Prop :=
ycV 3 ([(0, 1, 1), (0, 2, 1), (1, 2, 1)]) 0 ([1, -1, 0]) (fun r r2 r3 =>
ykP 3 ([(0, 1, 1), (0, 2, 1), (1, 2, 1)]) ([1, -1, 0]) 2 (fun r4 r5 =>
ya9 3 ([(0, 1, 1), (0, 2, 1), (1, 2, 1)]) ([1, 1, 0]) (fun r6 r7 =>
(In64 (r3 + r5) ∧
(In64 ((r3 + r5) + r7) ∧
((((r3 + r5) + r7) = 0 →
yaz r ([-1, 0, 1]) (fun r8 =>
((r8 = true →
((r4 = 1 →
R (decide (r6 = 2))) ∧
(¬ (r4 = 1) →
R false))) ∧
(¬ (r8 = true) →
R false)))) ∧
(¬ (((r3 + r5) + r7) = 0) →
R false)))))))
theorem ykV {O : Nat → Prop} {w : World} {R : Bool → Prop} (h : ykG R) (hO : ∀ k, O k → k < w.heap.size) :
    Calls Tryz.prog 41 #[] w fun e w' => ∃ r9, e = .returned (.bool (r9)) ∧ Sep w no O w' (rl []) ∧ R r9 := by
  unfold ykG at h; have hS : Sep w no O w (rl []) := Sep.start w hO; refine yan (l := []) func41 rfl ntmps41 (Nat.le_of_ble_eq_true rfl) (zs (zq (za (.bool (false))) (yaa (zs (zn (yfr (l := [(0, (ii 0)), (1, (ii 1)), (2, (ii 1))]) (cells := [(ii 0), (ii 1), (ii 1)]) (places := [(0, 1), (1, 1), (2, 1)]) (bp3 rfl rfl rfl) underlying95 ybf (by kernel_rfl) rfl ?_)))))); refine zb (zn (yfr (l := [(0, (ii 0)), (1, (ii 2)), (2, (ii 1))]) (cells := [(ii 0), (ii 2), (ii 1)]) (places := [(0, 1), (1, 1), (2, 1)]) (bp3 rfl rfl rfl) underlying95 ybf (by kernel_rfl) rfl ?_)); refine zb (zn (yfr (l := [(0, (ii 1)), (1, (ii 2)), (2, (ii 1))]) (cells := [(ii 1), (ii 2), (ii 1)]) (places := [(0, 1), (1, 1), (2, 1)]) (bp3 rfl rfl rfl) underlying95 ybf (by kernel_rfl) rfl ?_)); refine zb (zn (yaR (l := [(0, (.agg #[(ii 0), (ii 1), (ii 1)])), (1, (.agg #[(ii 0), (ii 2), (ii 1)])), (2, (.agg #[(ii 1), (ii 2), (ii 1)]))]) (cells := [(ii 0), (ii 1), (ii 1), (ii 0), (ii 2), (ii 1), (ii 1), (ii 2), (ii 1)]) (bp3 rfl rfl rfl) underlying22 ybf rfl rfl ?_)); intro g w2 hN; replace hS := hS.litf (n := 3) 0 rfl (fP (fI .i64) (fP (fI .i64) (fI .i64))) hN ([(0, 1, 1), (0, 2, 1), (1, 2, 1)] : List E3) rfl (by decide) rfl; clear hN; refine zb (zn (yfr (l := [(0, (ii 3)), (1, (.slice (some ⟨g, 0, none⟩) 3 3))]) (cells := [(ii 3), (.slice (some ⟨g, 0, none⟩) 3 3)]) (places := [(0, 1), (1, 1)]) (bp2 rfl rfl) underlying24 yas (by kernel_rfl) rfl ?_)); refine zb (zn (ybJ yas ?_)); intro g2 w3 hN; replace hS : Sep w no O w3 (stl _ 1 (Res.box 24 g2 [(ii 0), (.slice none 0 0)])) := hS.new 1 rfl hN; clear hN; refine zb (zo (yeb (b := g2) (o := 0) (cells := #[(ii 3), (.slice (some ⟨g, 0, none⟩) 3 3)]) rfl rfl yas rfl rfl (yc7 (hS.bx 1 rfl) (Nat.le_of_ble_eq_true rfl)) ?_)); intro w4 e1; replace hS := hS.bstn 1 rfl 0 [(ii 3), (.slice (some ⟨g, 0, none⟩) 3 3)] e1; clear e1; refine zb (yaa (zs (zq (yav (vs := [(ii 3), (.slice (some ⟨g, 0, none⟩) 3 3)]) rfl underlying24 rfl yas ⟨Row.cell (hS.bx 1 rfl) (i := 0) rfl, Row.cell (hS.bx 1 rfl) (i := 1) rfl, trivial⟩) (zn (yaR (l := [(0, (ii 1)), (1, (ii (-1))), (2, (ii 0))]) (cells := [(ii 1), (ii (-1)), (ii 0)]) (bp3 rfl rfl rfl) underlying26 yaj rfl rfl ?_))))); intro g3 w5 hN; replace hS := hS.litf (n := 3) 2 rfl (fI .i64) hN ([1, -1, 0] : List Int) rfl (by decide) rfl; clear hN; refine zb (zn (yal rfl (am3 rfl rfl rfl) yiQ ((ydC h (yaN _) (hS.rdo 0 rfl) (hS.rdo 2 rfl)).mono ?_))); rintro _ w6 ⟨r, r2, r3, Ar, lr, cr, Ar2, lr2, cr2, rfl, hC, h⟩; replace hS := hS.call2 (hC.widen (yea (ybl (fI .i64) _ _ _ _ _) (yea (ybl (fI .i64) _ _ _ _ _) ye0)) hS.blt) 3 0 4 1 rfl rfl (by decide) (by decide); clear hC; refine ⟨_, rfl, ?_⟩; refine zb (zq (zm (.tuple #[(.slice Ar lr cr), (.slice Ar2 lr2 cr2), (ii r3)])) (zq (zx (.slice Ar lr cr)) (zq (zx (.slice Ar2 lr2 cr2)) (zq (zx (ii r3)) (zq (za (.slice Ar lr cr)) (zq (za (.slice Ar2 lr2 cr2)) (zq (za (ii r3)) (yaa (zs (zq (yav (vs := [(ii 3), (.slice (some ⟨g, 0, none⟩) 3 3)]) rfl underlying24 rfl yas ⟨Row.cell (hS.bx 1 rfl) (i := 0) rfl, Row.cell (hS.bx 1 rfl) (i := 1) rfl, trivial⟩) (zn (yaR (l := [(0, (ii 1)), (1, (ii (-1))), (2, (ii 0))]) (cells := [(ii 1), (ii (-1)), (ii 0)]) (bp3 rfl rfl rfl) underlying26 yaj rfl rfl ?_)))))))))))); intro g4 w7 hN; replace hS := hS.litf (n := 3) 5 rfl (fI .i64) hN ([1, -1, 0] : List Int) rfl (by decide) rfl; clear hN; refine zb (zn (yal rfl (am3 rfl rfl rfl) enter_43 ((yk1 h (yaN _) (hS.rdo 0 rfl) (hS.rdo 5 rfl)).mono ?_))); rintro _ w8 ⟨r4, r5, rfl, hC, h⟩; replace hS := hS.pur hC.pure; clear hC; refine ⟨_, rfl, ?_⟩; refine zb (zq (zm (.tuple #[(ii r4), (ii r5)])) (zq (zx (ii r4)) (zq (zx (ii r5)) (zq (za (ii r4)) (zq (za (ii r5)) (yaa (zs (zq (yav (vs := [(ii 3), (.slice (some ⟨g, 0, none⟩) 3 3)]) rfl underlying24 rfl yas ⟨Row.cell (hS.bx 1 rfl) (i := 0) rfl, Row.cell (hS.bx 1 rfl) (i := 1) rfl, trivial⟩) (zn (yaR (l := [(0, (ii 1)), (1, (ii 1)), (2, (ii 0))]) (cells := [(ii 1), (ii 1), (ii 0)]) (bp3 rfl rfl rfl) underlying26 yaj rfl rfl ?_)))))))))); intro g5 w9 hN; replace hS := hS.litf (n := 3) 6 rfl (fI .i64) hN ([1, 1, 0] : List Int) rfl (by decide) rfl; clear hN; refine zb (zn (yal rfl (am2 rfl rfl) enter_15 ((ydv h (yaN _) (hS.rdo 0 rfl) (hS.rdo 6 rfl)).mono ?_))); rintro _ w10 ⟨r6, r7, rfl, hC, h⟩; replace hS := hS.pur hC.pure; clear hC; refine ⟨_, rfl, ?_⟩; refine zb (zq (zm (.tuple #[(ii r6), (ii r7)])) (zq (zx (ii r6)) (zq (zx (ii r7)) (zq (za (ii r6)) (zq (za (ii r7)) (yaa (zs (zq (zm (ii r3)) (zq (zm (ii r5)) ?_))))))))); obtain ⟨hi, h⟩ := h; refine zq (zA hi) (zq (zm (ii r7)) ?_); obtain ⟨hi2, h⟩ := h; refine zq (zA hi2) (zq zE (zq (zm (.bool (decide (((r3 + r5) + r7) = 0)))) ?_)); by_cases hp : ((r3 + r5) + r7) = 0
  · replace h := h.1 hp; refine rl_q (yad rfl (yac rfl (congrArg Value.bool (decide_eq_true hp)))) rfl rfl (zm (.slice Ar lr cr)) (rl_n (yad rfl (yac rfl (congrArg Value.bool (decide_eq_true hp)))) rfl rfl rfl (yaR (l := [(0, (ii (-1))), (1, (ii 0)), (2, (ii 1))]) (cells := [(ii (-1)), (ii 0), (ii 1)]) (bp3 rfl rfl rfl) underlying26 yaj rfl rfl ?_)); intro g6 w11 hN; replace hS := hS.litf (n := 3) 7 rfl (fI .i64) hN ([-1, 0, 1] : List Int) rfl (by decide) rfl; clear hN; refine zb (rl_n (yad rfl (yac rfl (congrArg Value.bool (decide_eq_true hp)))) rfl rfl rfl (yal rfl (am2 rfl rfl) yeX ((yaP h (yaN _) (hS.rdo 3 rfl) (hS.rdo 7 rfl)).mono ?_))); rintro _ w12 ⟨r8, rfl, hC, h⟩; replace hS := hS.pur hC.pure; clear hC; refine ⟨_, rfl, ?_⟩; refine zb (zq (yao (v := (.bool (r8))) (congrArg Value.bool (decide_eq_true hp)) rfl) (zq (zm (.bool (r8))) ?_)); by_cases hp2 : r8 = true
    · replace h := h.1 hp2; refine rl_q (yad rfl (yac rfl (congrArg Value.bool hp2))) rfl rfl (zm (ii r4)) (rl_q (yad rfl (yac rfl (congrArg Value.bool hp2))) rfl rfl zE (zq (yao (v := (.bool (decide (r4 = 1)))) (congrArg Value.bool hp2) rfl) (zq (zm (.bool (decide (r4 = 1)))) ?_))); by_cases hp3 : r4 = 1
      · replace h := h.1 hp3; exact rl_q (yad rfl (yac rfl (congrArg Value.bool (decide_eq_true hp3)))) rfl rfl (zm (ii r6)) (rl_q (yad rfl (yac rfl (congrArg Value.bool (decide_eq_true hp3)))) rfl rfl zE (zq (yao (v := (.bool (decide (r6 = 2)))) (congrArg Value.bool (decide_eq_true hp3)) rfl) (zq (za (.bool (decide (r6 = 2)))) (yaa (yah rfl rfl ⟨_, rfl, (hS.sel [] (by decide)), h⟩)))))
      · replace h := h.2 hp3; exact rl_p (yab rfl (yac rfl (congrArg Value.bool (decide_eq_false hp3))) rfl) rfl (rl_p (yab rfl (yac rfl (congrArg Value.bool (decide_eq_false hp3))) rfl) rfl (zq (yap (v := (.bool (false))) (congrArg Value.bool (decide_eq_false hp3)) rfl) (zq (za (.bool (false))) (yaa (yah rfl rfl ⟨_, rfl, (hS.sel [] (by decide)), h⟩)))))
    · replace h := h.2 hp2; exact rl_p (yab rfl (yac rfl (congrArg Value.bool (Bool.eq_false_iff.2 hp2))) rfl) rfl (rl_p (yab rfl (yac rfl (congrArg Value.bool (Bool.eq_false_iff.2 hp2))) rfl) rfl (zq (yap (v := (.bool (false))) (congrArg Value.bool (Bool.eq_false_iff.2 hp2)) rfl) (zq (zm (.bool (false))) (rl_p (yab rfl (yac rfl rfl) rfl) rfl (rl_p (yab rfl (yac rfl rfl) rfl) rfl (zq (yap (v := (.bool (false))) rfl rfl) (zq (za (.bool (false))) (yaa (yah rfl rfl ⟨_, rfl, (hS.sel [] (by decide)), h⟩)))))))))
  · replace h := h.2 hp; exact rl_p (yab rfl (yac rfl (congrArg Value.bool (decide_eq_false hp))) rfl) rfl (rl_p (yab rfl (yac rfl (congrArg Value.bool (decide_eq_false hp))) rfl) rfl (rl_p (yab rfl (yac rfl (congrArg Value.bool (decide_eq_false hp))) rfl) rfl (zq (yap (v := (.bool (false))) (congrArg Value.bool (decide_eq_false hp)) rfl) (zq (zm (.bool (false))) (rl_p (yab rfl (yac rfl rfl) rfl) rfl (rl_p (yab rfl (yac rfl rfl) rfl) rfl (zq (yap (v := (.bool (false))) rfl rfl) (zq (zm (.bool (false))) (rl_p (yab rfl (yac rfl rfl) rfl) rfl (rl_p (yab rfl (yac rfl rfl) rfl) rfl (zq (yap (v := (.bool (false))) rfl rfl) (zq (za (.bool (false))) (yaa (yah rfl rfl ⟨_, rfl, (hS.sel [] (by decide)), h⟩))))))))))))))
def ykK (d : List Int) (cap : Int) (cap2 : List E3) (cap3 : Int) (R : Bool → Prop) : Prop :=
ycb d cap (fun r =>
((r = 0 →
yjx cap cap2 d cap3 (fun r2 =>
R (!(r2)))) ∧
(¬ (r = 0) →
R true)))
theorem ykW {O : Nat → Prop} {w : World} {d cap cap2 cap3 Ad ld cd gc Acap lcap ccap gc2} {R : Bool → Prop} (h : ykK d cap cap2 cap3 R) (hO : ∀ k, O k → k < w.heap.size) (hA0 : (FP.sl cI Ad ld cd d).P O w) (hA1 : (FP.bx 24 gc [(Value.int .i64 cap), (Value.slice Acap lcap ccap)]).P O w) (hA2 : (FP.sl c3 Acap lcap ccap cap2).P O w) (hA3 : (FP.bx 3 gc2 [(Value.int .i64 cap3)]).P O w) :
    Calls Tryz.prog 103 #[(.slice Ad ld cd), (.pointer (some (⟨gc, 0, none⟩ : Addr))), (.pointer (some (⟨gc2, 0, none⟩ : Addr)))] w fun e w' => ∃ r3, e = .returned (.bool (r3)) ∧ Sep w no O w' (rl []) ∧ R r3 := by
  unfold ykK at h; have hS : Sep w no O w (rl [Res.ro (FP.sl cI Ad ld cd d), Res.ro (FP.bx 24 gc [(ii cap), (.slice Acap lcap ccap)]), Res.ro (FP.sl c3 Acap lcap ccap cap2), Res.ro (FP.bx 3 gc2 [(ii cap3)])]) := Sep.startl hO [(FP.sl cI Ad ld cd d), (FP.bx 24 gc [(ii cap), (.slice Acap lcap ccap)]), (FP.sl c3 Acap lcap ccap cap2), (FP.bx 3 gc2 [(ii cap3)])] ⟨hA0, hA1, hA2, hA3, trivial⟩; refine yan (l := [(.slice Ad ld cd), (.pointer (some (⟨gc, 0, none⟩ : Addr))), (.pointer (some (⟨gc2, 0, none⟩ : Addr)))]) func103 rfl ntmps103 (Nat.le_of_ble_eq_true rfl) (zs (zq (za (.bool (false))) (yaa (zs (zq (zm (.slice Ad ld cd)) (zq (yam rfl underlying24 rfl yaj) (zq (zl underlying3 (Row.cell (hS.bxr 1 rfl) (i := 0) rfl)) (zn (yal rfl (am2 rfl rfl) enter_59 ((yeh h (yaN _) (hS.rdr 0 rfl)).mono ?_)))))))))); rintro _ w2 ⟨r, rfl, hC, h⟩; replace hS := hS.pur hC.pure; clear hC; refine ⟨_, rfl, ?_⟩; refine zb (zq zN (zq (zm (.bool (!(decide (r = 0))))) ?_)); by_cases hp : r = 0
  · replace h := h.1 hp; refine rl_q (yad rfl (yac rfl (congrArg Value.bool (congrArg Bool.not (decide_eq_true hp))))) rfl rfl (yav (vs := [(ii cap), (.slice Acap lcap ccap)]) rfl underlying24 rfl yas ⟨Row.cell (hS.bxr 1 rfl) (i := 0) rfl, Row.cell (hS.bxr 1 rfl) (i := 1) rfl, trivial⟩) (rl_q (yad rfl (yac rfl (congrArg Value.bool (congrArg Bool.not (decide_eq_true hp))))) rfl rfl (zm (.slice Ad ld cd)) (rl_q (yad rfl (yac rfl (congrArg Value.bool (congrArg Bool.not (decide_eq_true hp))))) rfl rfl (zl underlying3 (Row.cell (hS.bxr 3 rfl) (i := 0) rfl)) (rl_n (yad rfl (yac rfl (congrArg Value.bool (congrArg Bool.not (decide_eq_true hp))))) rfl rfl rfl (yal rfl (am3 rfl rfl rfl) enter_96 ((pok_r38_Few h (yaN _) (hS.rdr 2 rfl) (hS.rdr 0 rfl)).mono ?_))))); rintro _ w3 ⟨r2, rfl, hC, h⟩; replace hS := hS.pur hC.pure; clear hC; refine ⟨_, rfl, ?_⟩; exact zb (rl_q (yad rfl (yac rfl (congrArg Value.bool (congrArg Bool.not (decide_eq_true hp))))) rfl rfl (ydn rfl) (zq (yap (v := (.bool (!(r2)))) (congrArg Value.bool (congrArg Bool.not (decide_eq_true hp))) rfl) (zq (za (.bool (!(r2)))) (yaa (yah rfl rfl ⟨_, rfl, (hS.sel [] (by decide)), h⟩)))))
  · replace h := h.2 hp; exact rl_p (yab rfl (yac rfl (congrArg Value.bool (congrArg Bool.not (decide_eq_false hp)))) rfl) rfl (rl_p (yab rfl (yac rfl (congrArg Value.bool (congrArg Bool.not (decide_eq_false hp)))) rfl) rfl (rl_p (yab rfl (yac rfl (congrArg Value.bool (congrArg Bool.not (decide_eq_false hp)))) rfl) rfl (rl_p (yab rfl (yac rfl (congrArg Value.bool (congrArg Bool.not (decide_eq_false hp)))) rfl) rfl (rl_p (yab rfl (yac rfl (congrArg Value.bool (congrArg Bool.not (decide_eq_false hp)))) rfl) rfl (zq (yao (v := (.bool (true))) (congrArg Value.bool (congrArg Bool.not (decide_eq_false hp))) rfl) (zq (za (.bool (true))) (yaa (yah rfl rfl ⟨_, rfl, (hS.sel [] (by decide)), h⟩))))))))
def ykI (g : Int) (g2 : List E3) (most : Int) (l : List (List Int)) (R : Bool → Prop) : Prop :=
ybD g g2 (fun r =>
((r = 0 →
yaw l (fun x R => ykK x g g2 most R) (fun r2 =>
R (!(r2)))) ∧
(¬ (r = 0) →
R false)))
theorem ykZ {O : Nat → Prop} {w : World} {g g2 most l Ag lg cg Al ll cl} {R : Bool → Prop} (h : ykI g g2 most l R) (hO : ∀ k, O k → k < w.heap.size) (hA0 : (FP.sl c3 Ag lg cg g2).P O w) (hA1 : (FP.sl (cL cI) Al ll cl l).P O w) :
    Calls Tryz.prog 40 #[(.agg #[(ii g), (.slice Ag lg cg)]), (ii most), (.slice Al ll cl)] w fun e w' => ∃ r3, e = .returned (.bool (r3)) ∧ Sep w no O w' (rl []) ∧ R r3 := by
  unfold ykI at h; have hS : Sep w no O w (rl [Res.ro (FP.sl c3 Ag lg cg g2), Res.ro (FP.sl (cL cI) Al ll cl l)]) := Sep.startl hO [(FP.sl c3 Ag lg cg g2), (FP.sl (cL cI) Al ll cl l)] ⟨hA0, hA1, trivial⟩; refine yan (l := [(.agg #[(ii g), (.slice Ag lg cg)]), (ii most), (.slice Al ll cl)]) func40 rfl ntmps40 (Nat.le_of_ble_eq_true rfl) (zs (zn (yb6 (v := (.agg #[(ii g), (.slice Ag lg cg)])) rfl ?_))); intro g3 w2 hN; replace hS : Sep w no O w2 (stl _ 2 (Res.box 24 g3 [(ii g), (.slice Ag lg cg)])) := hS.new 2 rfl hN; clear hN; refine zb (zn (yb6 (v := (ii most)) rfl ?_)); intro g4 w3 hN; replace hS : Sep w no O w3 (stl _ 3 (Res.box 3 g4 [(ii most)])) := hS.new 3 rfl hN; clear hN; refine zb (zq (za (.bool (false))) (yaa (zs (zq (yav (vs := [(ii g), (.slice Ag lg cg)]) rfl underlying24 rfl yas ⟨Row.cell (hS.bx 2 rfl) (i := 0) rfl, Row.cell (hS.bx 2 rfl) (i := 1) rfl, trivial⟩) (zn (yal rfl (am1 rfl) enter_50 ((yfc h (yaN _) (hS.rdr 0 rfl)).mono ?_))))))); rintro _ w4 ⟨r, rfl, hC, h⟩; replace hS := hS.pur hC.pure; clear hC; refine ⟨_, rfl, ?_⟩; refine zb (zq zE (zq (zm (.bool (decide (r = 0)))) ?_)); by_cases hp : r = 0
  · replace h := h.1 hp; refine rl_q (yad rfl (yac rfl (congrArg Value.bool (decide_eq_true hp)))) rfl rfl (zm (.slice Al ll cl)) (rl_q (yad rfl (yac rfl (congrArg Value.bool (decide_eq_true hp)))) rfl rfl (yfd (am0) (am2 rfl rfl)) ?_); replace hS := hS.frzb 2 rfl; replace hS := hS.frzb 3 rfl; refine rl_n (yad rfl (yac rfl (congrArg Value.bool (decide_eq_true hp)))) rfl rfl rfl (yal rfl (am2 rfl rfl) yhv ((ya4 h (yaN _) (hS.rdr 1 rfl) (fun w' hk => ⟨103, #[(.pointer (some (⟨g3, 0, none⟩ : Addr))), (.pointer (some (⟨g4, 0, none⟩ : Addr)))], rfl, enter_103, fun x Ax lx cx R hF hz0 => ybp (by simp) (ykW hF (yaN _) hz0 (FP.sub _ (FP.keep _ (FP.sub _ (hS.ro 2 rfl) (fun _ _ h => h.elim) : FP.P _ no _) hk) fun _ _ h => h.elim) (FP.sub _ (FP.keep _ (FP.sub _ (hS.ro 0 rfl) (fun _ _ h => h.elim) : FP.P _ no _) hk) fun _ _ h => h.elim) (FP.sub _ (FP.keep _ (FP.sub _ (hS.ro 3 rfl) (fun _ _ h => h.elim) : FP.P _ no _) hk) fun _ _ h => h.elim))⟩)).mono ?_)); rintro _ w5 ⟨r2, rfl, hC, h⟩; replace hS := hS.pur hC.pure; clear hC; refine ⟨_, rfl, ?_⟩; exact zb (rl_q (yad rfl (yac rfl (congrArg Value.bool (decide_eq_true hp)))) rfl rfl (ydn rfl) (zq (yao (v := (.bool (!(r2)))) (congrArg Value.bool (decide_eq_true hp)) rfl) (zq (za (.bool (!(r2)))) (yaa (yah rfl rfl ⟨_, rfl, (hS.sel [] (by decide)), h⟩)))))
  · replace h := h.2 hp; exact rl_p (yab rfl (yac rfl (congrArg Value.bool (decide_eq_false hp))) rfl) rfl (rl_p (yab rfl (yac rfl (congrArg Value.bool (decide_eq_false hp))) rfl) rfl (rl_p (yab rfl (yac rfl (congrArg Value.bool (decide_eq_false hp))) rfl) rfl (rl_p (yab rfl (yac rfl (congrArg Value.bool (decide_eq_false hp))) rfl) rfl (zq (yap (v := (.bool (false))) (congrArg Value.bool (decide_eq_false hp)) rfl) (zq (za (.bool (false))) (yaa (yah rfl rfl ⟨_, rfl, (hS.sel [] (by decide)), h⟩)))))))
def ylm (x : List Int) (y : List Int) (R : Bool → Prop) : Prop :=
yaz x y (fun r =>
R r)
theorem ylr {O : Nat → Prop} {w : World} {x y Ax lx cx Ay ly cy} {R : Bool → Prop} (h : ylm x y R) (hO : ∀ k, O k → k < w.heap.size) (hA0 : (FP.sl cI Ax lx cx x).P O w) (hA1 : (FP.sl cI Ay ly cy y).P O w) :
    Calls Tryz.prog 46 #[(.slice Ax lx cx), (.slice Ay ly cy)] w fun e w' => ∃ r2, e = .returned (.bool (r2)) ∧ Sep w no O w' (rl []) ∧ R r2 := by
  unfold ylm at h; have hS : Sep w no O w (rl [Res.ro (FP.sl cI Ax lx cx x), Res.ro (FP.sl cI Ay ly cy y)]) := Sep.startl hO [(FP.sl cI Ax lx cx x), (FP.sl cI Ay ly cy y)] ⟨hA0, hA1, trivial⟩; refine yan (l := [(.slice Ax lx cx), (.slice Ay ly cy)]) func46 rfl ntmps46 (Nat.le_of_ble_eq_true rfl) (zs (zq (za (.bool (false))) (yaa (zs (zq (zm (.slice Ax lx cx)) (zq (zm (.slice Ay ly cy)) (zn (yal rfl (am2 rfl rfl) yeX ((yaP h (yaN _) (hS.rdr 0 rfl) (hS.rdr 1 rfl)).mono ?_))))))))); rintro _ w2 ⟨r, rfl, hC, h⟩; replace hS := hS.pur hC.pure; clear hC; refine ⟨_, rfl, ?_⟩; exact zb (zq (za (.bool (r))) (yaa (yah rfl rfl ⟨_, rfl, (hS.sel [] (by decide)), h⟩)))
def yln (d : Int) (d2 : List E3) (i : List Int) (i2 : List Int) (a : Int) (R : Bool → Prop) : Prop :=
((0 ≤ (0 : Int) ∧ (0 : Int) < 2) ∧
((0 ≤ (1 : Int) ∧ (1 : Int) < 2) ∧
ykI d d2 4 ([i, i2]) (fun r =>
((r = true →
(In64 a ∧
(d ≠ 0 ∧
ycV d d2 (a.tmod d) i (fun r2 r3 r4 =>
ycV d d2 (a.tmod d) i2 (fun r5 r6 r7 =>
yhK d d2 i i2 (fun r8 r9 r10 =>
ybk d d2 i (fun r11 r12 =>
ybk d d2 i2 (fun r13 r14 =>
(∃ J2 : Prop, (J2 → yhG r11 r13 (fun x x2 R => ylm x x2 R) (fun r15 =>
((r8 = true →
(∃ J3 : Prop, (J3 → ((0 ≤ d ∧ d ≤ 1000000) ∧
(∃ I2 : Nat → Int → (List Int) → Prop, (∃ m0, I2 m0 0 (List.replicate d.toNat (0 : Int))) ∧ ∀ m2 v v2, I2 m2 v v2 → 
((v < (((List.replicate d.toNat (0 : Int)).length : Nat) : Int) →
((0 ≤ v ∧ v < ((r3.length : Nat) : Int)) ∧
((0 ≤ v ∧ v < ((r6.length : Nat) : Int)) ∧
(In64 ((gi r3 v.toNat) - (gi r6 v.toNat)) ∧
((0 ≤ v ∧ v < ((v2.length : Nat) : Int)) ∧
(In64 (v + 1) ∧
∃ m3, m3 < m2 ∧ I2 m3 (v + 1) (v2.set v.toNat ((gi r3 v.toNat) - (gi r6 v.toNat))))))))) ∧
(¬ (v < (((List.replicate d.toNat (0 : Int)).length : Nat) : Int)) →
ylp v2 (fun r16 r17 =>
((r17 = 0 →
ylo r16 r9 (fun r18 =>
((r18 = true →
ylq d d2 i i2 v2 (fun r19 =>
((r19 = 0 →
ykG (fun r20 =>
R r20)) ∧
(¬ (r19 = 0) →
R false)))) ∧
(¬ (r18 = true) →
R false)))) ∧
(¬ (r17 = 0) →
R false)))))))) ∧
((r15 = true →
((((r3.length : Nat) : Int) = d →
((((r6.length : Nat) : Int) = d →
J3) ∧
(¬ (((r6.length : Nat) : Int) = d) →
R false))) ∧
(¬ (((r3.length : Nat) : Int) = d) →
R false))) ∧
(¬ (r15 = true) →
R false)))) ∧
(¬ (r8 = true) →
((r15 = true →
((((r11.length : Nat) : Int) = 0 →
ykG (fun r21 =>
R r21)) ∧
(¬ (((r11.length : Nat) : Int) = 0) →
R false))) ∧
(¬ (r15 = true) →
ykG (fun r22 =>
R r22))))))) ∧
(In64 (r4 + r7) ∧
(In64 ((r4 + r7) + r10) ∧
(In64 (((r4 + r7) + r10) + r12) ∧
(In64 ((((r4 + r7) + r10) + r12) + r14) ∧
((((((r4 + r7) + r10) + r12) + r14) = 0 →
yaz r2 r5 (fun r23 =>
(((r8 == r23) = true →
J2) ∧
(¬ ((r8 == r23) = true) →
R false)))) ∧
(¬ (((((r4 + r7) + r10) + r12) + r14) = 0) →
R false))))))))))))))) ∧
(¬ (r = true) →
ykG (fun r24 =>
R r24))))))
theorem yly {O : Nat → Prop} {w : World} {d d2 i i2 a Ad ld cd Ai li ci Ai2 li2 ci2} {R : Bool → Prop} (h : yln d d2 i i2 a R) (hO : ∀ k, O k → k < w.heap.size) (hA0 : (FP.sl c3 Ad ld cd d2).P O w) (hA1 : (FP.sl cI Ai li ci i).P O w) (hA2 : (FP.sl cI Ai2 li2 ci2 i2).P O w) :
    Calls Tryz.prog 8 #[(.agg #[(ii d), (.slice Ad ld cd)]), (.agg #[(.slice Ai li ci), (.slice Ai2 li2 ci2)]), (.int .u8 a)] w fun e w' => ∃ r25, e = .returned (.bool (r25)) ∧ Sep w no O w' (rl []) ∧ R r25 := by
  unfold yln at h; have hS : Sep w no O w (rl [Res.ro (FP.sl c3 Ad ld cd d2), Res.ro (FP.sl cI Ai li ci i), Res.ro (FP.sl cI Ai2 li2 ci2 i2)]) := Sep.startl hO [(FP.sl c3 Ad ld cd d2), (FP.sl cI Ai li ci i), (FP.sl cI Ai2 li2 ci2 i2)] ⟨hA0, hA1, hA2, trivial⟩; refine yan (l := [(.agg #[(ii d), (.slice Ad ld cd)]), (.agg #[(.slice Ai li ci), (.slice Ai2 li2 ci2)]), (.int .u8 a)]) func8 rfl ntmps8 (Nat.le_of_ble_eq_true rfl) (zs (zn (yb6 (v := (.agg #[(ii d), (.slice Ad ld cd)])) rfl ?_))); intro g w2 hN; replace hS : Sep w no O w2 (stl _ 3 (Res.box 24 g [(ii d), (.slice Ad ld cd)])) := hS.new 3 rfl hN; clear hN; refine zb (zn (yb6 (v := (.agg #[(.slice Ai li ci), (.slice Ai2 li2 ci2)])) rfl ?_)); intro g2 w3 hN; replace hS : Sep w no O w3 (stl _ 4 (Res.box 71 g2 [(.slice Ai li ci), (.slice Ai2 li2 ci2)])) := hS.new 4 rfl hN; clear hN; refine zb (zq (za (.bool (false))) (yaa (yaf (ybt [0, 1, 2, 3, 4, 5] st0 yaQ (by kernel_rfl) (by kernel_rfl) ?_)))); replace hS := hS.drew; obtain ⟨hx, h⟩ := h; refine zp (v_iaddra rfl rfl underlying71 ya0 hx) (zp (zl underlying26 (Row.cell (hS.bx 4 rfl) (i := 0) rfl)) ?_); obtain ⟨hx2, h⟩ := h; refine zp (v_iaddra rfl rfl underlying71 ya0 hx2) (zp (zl underlying26 (Row.cell (hS.bx 4 rfl) (i := 1) rfl)) (zp (za (.slice Ai li ci)) (zp (za (.slice Ai2 li2 ci2)) (yb4 (yaf (zs (zq (yav (vs := [(ii d), (.slice Ad ld cd)]) rfl underlying24 rfl yas ⟨Row.cell (hS.bx 3 rfl) (i := 0) rfl, Row.cell (hS.bx 3 rfl) (i := 1) rfl, trivial⟩) (zq (zm (.slice Ai li ci)) (zq (zm (.slice Ai2 li2 ci2)) (zn (yaR (l := [(0, (.slice Ai li ci)), (1, (.slice Ai2 li2 ci2))]) (cells := [(.slice Ai li ci), (.slice Ai2 li2 ci2)]) (bp2 rfl rfl) underlying44 ya0 rfl rfl ?_))))))))))); intro g3 w4 hN; replace hS := hS.lit (n := 2) (c := (cL cI)) 5 rfl hN ([i, i2] : List (List Int)) rfl (by decide) ⟨[(.slice Ai li ci)], _, rfl, (ro_R (hS.ro 1 rfl)), ⟨[(.slice Ai2 li2 ci2)], _, rfl, (ro_R (hS.ro 2 rfl)), rfl⟩⟩; clear hN; refine zb (zn (yal rfl (am3 rfl rfl rfl) enter_40 ((ykZ h (yaN _) (hS.rdr 0 rfl) (hS.rdo 5 rfl)).mono ?_))); rintro _ w5 ⟨r, rfl, hC, h⟩; replace hS := hS.pur hC.pure; clear hC; refine ⟨_, rfl, ?_⟩; refine zb (zq (ydn rfl) (yaa ?_)); by_cases hp : r = true
  · replace h := h.1 hp; refine yax (congrArg Value.bool (congrArg Bool.not hp)) (yag (zs (zq (zm (.int .u8 a)) ?_))); obtain ⟨hi, h⟩ := h; refine zq (v_conv rfl underlying5 underlying3 hi) (zq (yam rfl underlying24 rfl yaj) (zq (zl underlying3 (Row.cell (hS.bx 3 rfl) (i := 0) rfl)) ?_)); obtain ⟨hz, h⟩ := h; refine zq (v_rem rfl rfl hz) (zq (za (ii (a.tmod d))) (yaa (zs (zq (yav (vs := [(ii d), (.slice Ad ld cd)]) rfl underlying24 rfl yas ⟨Row.cell (hS.bx 3 rfl) (i := 0) rfl, Row.cell (hS.bx 3 rfl) (i := 1) rfl, trivial⟩) (zq (zm (ii (a.tmod d))) (zq (zm (.slice Ai li ci)) (zn (yal rfl (am3 rfl rfl rfl) yiQ ((ydC h (yaN _) (hS.rdr 0 rfl) (hS.rdr 1 rfl)).mono ?_))))))))); rintro _ w6 ⟨r2, r3, r4, Ar, lr, cr, Ar2, lr2, cr2, rfl, hC, h⟩; replace hS := hS.call2 (hC.widen (yea (ybl (fI .i64) _ _ _ _ _) (yea (ybl (fI .i64) _ _ _ _ _) ye0)) hS.blt) 6 0 7 1 rfl rfl (by decide) (by decide); clear hC; refine ⟨_, rfl, ?_⟩; refine zb (zq (zm (.tuple #[(.slice Ar lr cr), (.slice Ar2 lr2 cr2), (ii r4)])) (zq (zx (.slice Ar lr cr)) (zq (zx (.slice Ar2 lr2 cr2)) (zq (zx (ii r4)) (zq (za (.slice Ar lr cr)) (zq (za (.slice Ar2 lr2 cr2)) (zq (za (ii r4)) (yaa (zs (zq (yav (vs := [(ii d), (.slice Ad ld cd)]) rfl underlying24 rfl yas ⟨Row.cell (hS.bx 3 rfl) (i := 0) rfl, Row.cell (hS.bx 3 rfl) (i := 1) rfl, trivial⟩) (zq (zm (ii (a.tmod d))) (zq (zm (.slice Ai2 li2 ci2)) (zn (yal rfl (am3 rfl rfl rfl) yiQ ((ydC h (yaN _) (hS.rdr 0 rfl) (hS.rdr 2 rfl)).mono ?_))))))))))))))); rintro _ w7 ⟨r5, r6, r7, Ar3, lr3, cr3, Ar4, lr4, cr4, rfl, hC, h⟩; replace hS := hS.call2 (hC.widen (yea (ybl (fI .i64) _ _ _ _ _) (yea (ybl (fI .i64) _ _ _ _ _) ye0)) hS.blt) 8 0 9 1 rfl rfl (by decide) (by decide); clear hC; refine ⟨_, rfl, ?_⟩; refine zb (zq (zm (.tuple #[(.slice Ar3 lr3 cr3), (.slice Ar4 lr4 cr4), (ii r7)])) (zq (zx (.slice Ar3 lr3 cr3)) (zq (zx (.slice Ar4 lr4 cr4)) (zq (zx (ii r7)) (zq (za (.slice Ar3 lr3 cr3)) (zq (za (.slice Ar4 lr4 cr4)) (zq (za (ii r7)) (yaa (zs (zq (yav (vs := [(ii d), (.slice Ad ld cd)]) rfl underlying24 rfl yas ⟨Row.cell (hS.bx 3 rfl) (i := 0) rfl, Row.cell (hS.bx 3 rfl) (i := 1) rfl, trivial⟩) (zq (zm (.slice Ai li ci)) (zq (zm (.slice Ai2 li2 ci2)) (zn (yal rfl (am3 rfl rfl rfl) enter_33 ((yik h (yaN _) (hS.rdr 0 rfl) (hS.rdr 1 rfl) (hS.rdr 2 rfl)).mono ?_))))))))))))))); rintro _ w8 ⟨r8, r9, r10, Ar5, lr5, cr5, rfl, hC, h⟩; replace hS := hS.call1 (hC.widen (yea (ybl (fI .i64) _ _ _ _ _) ye0) hS.blt) 10 0 rfl; clear hC; refine ⟨_, rfl, ?_⟩; refine zb (zq (zm (.tuple #[(.bool (r8)), (.slice Ar5 lr5 cr5), (ii r10)])) (zq (zx (.bool (r8))) (zq (zx (.slice Ar5 lr5 cr5)) (zq (zx (ii r10)) (zq (za (.bool (r8))) (zq (za (.slice Ar5 lr5 cr5)) (zq (za (ii r10)) (yaa (zs (zq (yav (vs := [(ii d), (.slice Ad ld cd)]) rfl underlying24 rfl yas ⟨Row.cell (hS.bx 3 rfl) (i := 0) rfl, Row.cell (hS.bx 3 rfl) (i := 1) rfl, trivial⟩) (zq (zm (.slice Ai li ci)) (zn (yal rfl (am2 rfl rfl) ygz ((ycX h hS.blt (hS.ro 0 rfl) (hS.ro 1 rfl)).mono ?_)))))))))))))); rintro _ w9 ⟨r11, r12, Ar6, lr6, cr6, rfl, hC, h⟩; replace hS := hS.call1 hC 11 0 rfl; clear hC; refine ⟨_, rfl, ?_⟩; refine zb (zq (zm (.tuple #[(.slice Ar6 lr6 cr6), (ii r12)])) (zq (zx (.slice Ar6 lr6 cr6)) (zq (zx (ii r12)) (zq (za (.slice Ar6 lr6 cr6)) (zq (za (ii r12)) (yaa (zs (zq (yav (vs := [(ii d), (.slice Ad ld cd)]) rfl underlying24 rfl yas ⟨Row.cell (hS.bx 3 rfl) (i := 0) rfl, Row.cell (hS.bx 3 rfl) (i := 1) rfl, trivial⟩) (zq (zm (.slice Ai2 li2 ci2)) (zn (yal rfl (am2 rfl rfl) ygz ((ycX h hS.blt (hS.ro 0 rfl) (hS.ro 2 rfl)).mono ?_)))))))))))); rintro _ w10 ⟨r13, r14, Ar7, lr7, cr7, rfl, hC, h⟩; replace hS := hS.call1 hC 12 0 rfl; clear hC; refine ⟨_, rfl, ?_⟩; refine zb (zq (zm (.tuple #[(.slice Ar7 lr7 cr7), (ii r14)])) (zq (zx (.slice Ar7 lr7 cr7)) (zq (zx (ii r14)) (zq (za (.slice Ar7 lr7 cr7)) (zq (za (ii r14)) (yaa (yaf (yaf ?_)))))))); obtain ⟨J2, hJ, h⟩ := h; refine ycZ (fun E ds w' => J2 ∧ ds = [] ∧ E 3 = (Value.pointer (some (⟨g, 0, none⟩ : Addr))) ∧ E 7 = (Value.slice Ai li ci) ∧ E 8 = (Value.slice Ai2 li2 ci2) ∧ E 11 = (Value.slice Ar2 lr2 cr2) ∧ E 14 = (Value.slice Ar4 lr4 cr4) ∧ E 16 = (Value.bool (r8)) ∧ E 17 = (Value.slice Ar5 lr5 cr5) ∧ E 19 = (Value.slice Ar6 lr6 cr6) ∧ E 21 = (Value.slice Ar7 lr7 cr7) ∧ Sep w no O w' (rl [Res.box 24 g [(ii d), (.slice Ad ld cd)], Res.ro (FP.sl c3 Ad ld cd d2), Res.ro (FP.sl cI Ai li ci i), Res.ro (FP.sl cI Ai2 li2 ci2 i2), Res.own cI 3 Ar2 lr2 cr2 r3, Res.own cI 3 Ar4 lr4 cr4 r6, Res.own cI 3 Ar5 lr5 cr5 r9, Res.ro (FP.sl (cL cI) Ar6 lr6 cr6 r11), Res.ro (FP.sl (cL cI) Ar7 lr7 cr7 r13)])) ?_ ?_
    · clear h hS; rintro E ds w11 ⟨h, rfl, hE3, hE7, hE8, hE11, hE14, hE16, hE17, hE19, hE21, hS⟩; replace h := hJ h; refine zs (zq (yae hE19) (zq (yae hE21) (zn (yal rfl (am3 rfl rfl rfl) enter_31 ((yic h (yaN _) (hS.rdr 7 rfl) (hS.rdr 8 rfl) (fun w' hk => ⟨46, #[], rfl, enter_46, fun x x2 Ax lx cx Ax2 lx2 cx2 R hF hz0 hz1 => ybp (by simp) (ylr hF (yaN _) hz0 hz1)⟩)).mono ?_))))); rintro _ w12 ⟨r15, rfl, hC, h⟩; replace hS := hS.pur hC.pure; clear hC; refine ⟨_, rfl, ?_⟩; refine zb (zq (za (.bool (r15))) (yaa (yaf (zs (zq (yae hE16) (zq (ydn rfl) (yaa ?_))))))); by_cases hp2 : r8 = true
      · replace h := h.1 hp2; refine yax (congrArg Value.bool (congrArg Bool.not hp2)) (yag (yaf (yaf ?_))); obtain ⟨J3, hJ, h⟩ := h; refine ycZ (fun E ds w' => J3 ∧ ds = [] ∧ E 3 = (Value.pointer (some (⟨g, 0, none⟩ : Addr))) ∧ E 7 = (Value.slice Ai li ci) ∧ E 8 = (Value.slice Ai2 li2 ci2) ∧ E 11 = (Value.slice Ar2 lr2 cr2) ∧ E 14 = (Value.slice Ar4 lr4 cr4) ∧ E 17 = (Value.slice Ar5 lr5 cr5) ∧ Sep w no O w' (rl [Res.box 24 g [(ii d), (.slice Ad ld cd)], Res.ro (FP.sl c3 Ad ld cd d2), Res.ro (FP.sl cI Ai li ci i), Res.ro (FP.sl cI Ai2 li2 ci2 i2), Res.own cI 3 Ar2 lr2 cr2 r3, Res.own cI 3 Ar4 lr4 cr4 r6, Res.own cI 3 Ar5 lr5 cr5 r9])) ?_ ?_
        · clear h hS; rintro E ds w13 ⟨h, rfl, hE3, hE7, hE8, hE11, hE14, hE17, hS⟩; replace h := hJ h; refine zs (zq (yam hE3 underlying24 rfl yaj) (zq (zl underlying3 (Row.cell (hS.bx 0 rfl) (i := 0) rfl)) ?_)); obtain ⟨hx3, h⟩ := h; refine zn (yky rfl rfl underlying36 yaj (by decide) rfl hx3 ?_); intro g4 w14 hN; replace hS := hS.made 7 rfl cI (ii 0) (0 : Int) (fun _ _ => rfl) hN (by omega); clear hN; refine zb (zq (za (.slice (some ⟨g4, 0, none⟩) d.toNat d.toNat)) (yaa (yaf (zs (zq (zm (.slice (some ⟨g4, 0, none⟩) d.toNat d.toNat)) (zq (ybc (n := (List.replicate d.toNat (0 : Int)).length) rfl underlying36 (ya2 (hS.rdo 7 rfl))) (zq (zm (ii 0)) (yaa (yak ?_))))))))); obtain ⟨I2, ⟨m0, h0⟩, hr⟩ := h; refine yaO (fun m E ds w' => ∃ v v2 Av lv cv, I2 m v v2 ∧ ds = [] ∧ E 3 = (Value.pointer (some (⟨g, 0, none⟩ : Addr))) ∧ E 7 = (Value.slice Ai li ci) ∧ E 8 = (Value.slice Ai2 li2 ci2) ∧ E 11 = (Value.slice Ar2 lr2 cr2) ∧ E 14 = (Value.slice Ar4 lr4 cr4) ∧ E 17 = (Value.slice Ar5 lr5 cr5) ∧ E 24 = (Value.slice Av lv cv) ∧ E 131 = (ii (((List.replicate d.toNat (0 : Int)).length : Nat) : Int)) ∧ E 132 = (ii v) ∧ Sep w no O w' (rl [Res.box 24 g [(ii d), (.slice Ad ld cd)], Res.ro (FP.sl c3 Ad ld cd d2), Res.ro (FP.sl cI Ai li ci i), Res.ro (FP.sl cI Ai2 li2 ci2 i2), Res.own cI 3 Ar2 lr2 cr2 r3, Res.own cI 3 Ar4 lr4 cr4 r6, Res.own cI 3 Ar5 lr5 cr5 r9, Res.own cI 3 Av lv cv v2])) m0 ⟨_, _, _, _, _, h0, rfl, hE3, hE7, hE8, hE11, hE14, hE17, rfl, rfl, rfl, (hS.sel [0, 1, 2, 3, 4, 5, 6, 7] (by decide))⟩ ?_; clear h0 hS; rintro m2 E ds w15 ⟨v, v2, Av, lv, cv, h, rfl, hE3, hE7, hE8, hE11, hE14, hE17, hE24, hE131, hE132, hS⟩ again; replace h := hr m2 v v2 h; clear hr; refine zs (zq (yd4 hE132 hE131) (yaa (yaf ?_))); by_cases hp3 : v < (((List.replicate d.toNat (0 : Int)).length : Nat) : Int)
          · replace h := h.1 hp3; refine zc hp3 (yag (yaf (yak (zs (zq (yae hE132) (zq (za (ii v)) (yaa (ybt [0, 1, 2, 3, 4, 5, 6, 7, 8, 9, 10, 11, 12] st0 yaQ (by kernel_rfl) (by kernel_rfl) ?_)))))))); replace hS := hS.drew; refine zp (yae hE24) (zp (zm (ii v)) (zp (yae hE11) (zp (zm (ii v)) ?_))); obtain ⟨hx4, h⟩ := h; refine zp (zi underlying36 yaj (ybh (hS.rdo 4 rfl) hx4)) (zp (yaA (v := (ii (gi r3 v.toNat))) rfl underlying3 rfl (rd_1 (hS.rdo 4 rfl) hx4 (fun q => ybs q) rfl)) ?_); refine zp (yae hE14) (zp (zm (ii v)) ?_); obtain ⟨hx5, h⟩ := h; refine zp (zi underlying36 yaj (ybh (hS.rdo 5 rfl) hx5)) (zp (yaA (v := (ii (gi r6 v.toNat))) rfl underlying3 rfl (rd_1 (hS.rdo 5 rfl) hx5 (fun q => ybs q) rfl)) ?_); obtain ⟨hi2, h⟩ := h; refine zp (zS hi2) ?_; obtain ⟨hx6, h⟩ := h; refine zp (zi underlying36 yaj (ybh (hS.rdo 7 rfl) hx6)) (yhC rfl rfl rfl (zt (ii ((gi r3 v.toNat) - (gi r6 v.toNat))) yaj (hS.wr 7 rfl rfl hx6) ?_)); intro w16 e1; replace hS := hS.st 7 rfl rfl hx6 (x := (gi r3 v.toNat) - (gi r6 v.toNat)) rfl e1; clear e1; refine zb (yb4 (yai (zr ?_))); obtain ⟨hi3, h⟩ := h; refine zq (ycv hE132 rfl hi3) (zq (zm (ii (v + 1))) (yaa ?_)); obtain ⟨mq, hlt, h⟩ := h; exact again mq _ _ _ ⟨_, _, _, _, _, h, rfl, hE3, hE7, hE8, hE11, hE14, hE17, hE24, hE131, rfl, (hS.sel [0, 1, 2, 3, 4, 5, 6, 7] (by decide))⟩ hlt
          · replace h := h.2 hp3; refine zd hp3 (yaH rfl (zs (zq (yae hE24) (zn (yal rfl (am1 rfl) enter_47 ((ylu h (yaN _) (hS.rdo 7 rfl)).mono ?_)))))); rintro _ w17 ⟨r16, r17, Ar8, lr8, cr8, rfl, hC, h⟩; replace hS := hS.call1 (hC.widen (yea (ybl (fI .i64) _ _ _ _ _) ye0) hS.blt) 8 0 rfl; clear hC; refine ⟨_, rfl, ?_⟩; refine zb (zq (zm (.tuple #[(.slice Ar8 lr8 cr8), (ii r17)])) (zq (zx (.slice Ar8 lr8 cr8)) (zq (zx (ii r17)) (zq (za (.slice Ar8 lr8 cr8)) (zq (za (ii r17)) (yaa (zs (zq (zm (ii r17)) (zq zE (zq (zm (.bool (decide (r17 = 0)))) ?_)))))))))); by_cases hp4 : r17 = 0
            · replace h := h.1 hp4; refine rl_q (yad rfl (yac rfl (congrArg Value.bool (decide_eq_true hp4)))) rfl rfl (zm (.slice Ar8 lr8 cr8)) (rl_q (yad rfl (yac rfl (congrArg Value.bool (decide_eq_true hp4)))) rfl rfl (yae hE17) (rl_n (yad rfl (yac rfl (congrArg Value.bool (decide_eq_true hp4)))) rfl rfl rfl (yal rfl (am2 rfl rfl) enter_48 ((yls h (yaN _) (hS.rdo 8 rfl) (hS.rdo 6 rfl)).mono ?_)))); rintro _ w18 ⟨r18, rfl, hC, h⟩; replace hS := hS.pur hC.pure; clear hC; refine ⟨_, rfl, ?_⟩; refine zb (zq (yao (v := (.bool (r18))) (congrArg Value.bool (decide_eq_true hp4)) rfl) (zq (zm (.bool (r18))) ?_)); by_cases hp5 : r18 = true
              · replace h := h.1 hp5; refine rl_q (yad rfl (yac rfl (congrArg Value.bool hp5))) rfl rfl (yav (vs := [(ii d), (.slice Ad ld cd)]) hE3 underlying24 rfl yas ⟨Row.cell (hS.bx 0 rfl) (i := 0) rfl, Row.cell (hS.bx 0 rfl) (i := 1) rfl, trivial⟩) (rl_q (yad rfl (yac rfl (congrArg Value.bool hp5))) rfl rfl (yae hE7) (rl_q (yad rfl (yac rfl (congrArg Value.bool hp5))) rfl rfl (yae hE8) (rl_q (yad rfl (yac rfl (congrArg Value.bool hp5))) rfl rfl (yae hE24) (rl_n (yad rfl (yac rfl (congrArg Value.bool hp5))) rfl rfl rfl (yal rfl (am4 rfl rfl rfl rfl) enter_49 ((ylt h (yaN _) (hS.rdr 1 rfl) (hS.rdr 2 rfl) (hS.rdr 3 rfl) (hS.rdo 7 rfl)).mono ?_)))))); rintro _ w19 ⟨r19, rfl, hC, h⟩; replace hS := hS.pur hC.pure; clear hC; refine ⟨_, rfl, ?_⟩; refine zb (rl_q (yad rfl (yac rfl (congrArg Value.bool hp5))) rfl rfl zE (zq (yao (v := (.bool (decide (r19 = 0)))) (congrArg Value.bool hp5) rfl) (zq (zm (.bool (decide (r19 = 0)))) ?_))); by_cases hp6 : r19 = 0
                · replace h := h.1 hp6; refine rl_n (yad rfl (yac rfl (congrArg Value.bool (decide_eq_true hp6)))) rfl rfl rfl (yal rfl (am0) ylz ((ykV h (yaN _)).mono ?_)); rintro _ w20 ⟨r20, rfl, hC, h⟩; replace hS := hS.pur hC.pure; clear hC; refine ⟨_, rfl, ?_⟩; exact zb (zq (yao (v := (.bool (r20))) (congrArg Value.bool (decide_eq_true hp6)) rfl) (zq (za (.bool (r20))) (yaa (yah rfl rfl ⟨_, rfl, (hS.sel [] (by decide)), h⟩))))
                · replace h := h.2 hp6; exact rl_p (yab rfl (yac rfl (congrArg Value.bool (decide_eq_false hp6))) rfl) rfl (zq (yap (v := (.bool (false))) (congrArg Value.bool (decide_eq_false hp6)) rfl) (zq (za (.bool (false))) (yaa (yah rfl rfl ⟨_, rfl, (hS.sel [] (by decide)), h⟩))))
              · replace h := h.2 hp5; exact rl_p (yab rfl (yac rfl (congrArg Value.bool (Bool.eq_false_iff.2 hp5))) rfl) rfl (rl_p (yab rfl (yac rfl (congrArg Value.bool (Bool.eq_false_iff.2 hp5))) rfl) rfl (rl_p (yab rfl (yac rfl (congrArg Value.bool (Bool.eq_false_iff.2 hp5))) rfl) rfl (rl_p (yab rfl (yac rfl (congrArg Value.bool (Bool.eq_false_iff.2 hp5))) rfl) rfl (rl_p (yab rfl (yac rfl (congrArg Value.bool (Bool.eq_false_iff.2 hp5))) rfl) rfl (rl_p (yab rfl (yac rfl (congrArg Value.bool (Bool.eq_false_iff.2 hp5))) rfl) rfl (zq (yap (v := (.bool (false))) (congrArg Value.bool (Bool.eq_false_iff.2 hp5)) rfl) (zq (zm (.bool (false))) (rl_p (yab rfl (yac rfl rfl) rfl) rfl (zq (yap (v := (.bool (false))) rfl rfl) (zq (za (.bool (false))) (yaa (yah rfl rfl ⟨_, rfl, (hS.sel [] (by decide)), h⟩))))))))))))
            · replace h := h.2 hp4; exact rl_p (yab rfl (yac rfl (congrArg Value.bool (decide_eq_false hp4))) rfl) rfl (rl_p (yab rfl (yac rfl (congrArg Value.bool (decide_eq_false hp4))) rfl) rfl (rl_p (yab rfl (yac rfl (congrArg Value.bool (decide_eq_false hp4))) rfl) rfl (zq (yap (v := (.bool (false))) (congrArg Value.bool (decide_eq_false hp4)) rfl) (zq (zm (.bool (false))) (rl_p (yab rfl (yac rfl rfl) rfl) rfl (rl_p (yab rfl (yac rfl rfl) rfl) rfl (rl_p (yab rfl (yac rfl rfl) rfl) rfl (rl_p (yab rfl (yac rfl rfl) rfl) rfl (rl_p (yab rfl (yac rfl rfl) rfl) rfl (rl_p (yab rfl (yac rfl rfl) rfl) rfl (zq (yap (v := (.bool (false))) rfl rfl) (zq (zm (.bool (false))) (rl_p (yab rfl (yac rfl rfl) rfl) rfl (zq (yap (v := (.bool (false))) rfl rfl) (zq (za (.bool (false))) (yaa (yah rfl rfl ⟨_, rfl, (hS.sel [] (by decide)), h⟩)))))))))))))))))
        clear hJ; intro j2; refine zr (zq (zm (.bool (r15))) (zq (ydn rfl) (zq (zm (.bool (!(r15)))) ?_))); by_cases hp7 : r15 = true
        · replace h := h.1 hp7; refine rl_q (yad rfl (yac rfl (congrArg Value.bool (congrArg Bool.not hp7)))) rfl rfl (yae hE11) (rl_q (yad rfl (yac rfl (congrArg Value.bool (congrArg Bool.not hp7)))) rfl rfl (ybc (n := r3.length) rfl underlying36 (ya2 (hS.rdo 4 rfl))) (rl_q (yad rfl (yac rfl (congrArg Value.bool (congrArg Bool.not hp7)))) rfl rfl (yam hE3 underlying24 rfl yaj) (rl_q (yad rfl (yac rfl (congrArg Value.bool (congrArg Bool.not hp7)))) rfl rfl (zl underlying3 (Row.cell (hS.bx 0 rfl) (i := 0) rfl)) (rl_q (yad rfl (yac rfl (congrArg Value.bool (congrArg Bool.not hp7)))) rfl rfl zN (zq (yap (v := (.bool (!(decide (((r3.length : Nat) : Int) = d))))) (congrArg Value.bool (congrArg Bool.not hp7)) rfl) (zq (zm (.bool (!(decide (((r3.length : Nat) : Int) = d))))) ?_)))))); by_cases hp8 : ((r3.length : Nat) : Int) = d
          · replace h := h.1 hp8; refine rl_q (yad rfl (yac rfl (congrArg Value.bool (congrArg Bool.not (decide_eq_true hp8))))) rfl rfl (yae hE14) (rl_q (yad rfl (yac rfl (congrArg Value.bool (congrArg Bool.not (decide_eq_true hp8))))) rfl rfl (ybc (n := r6.length) rfl underlying36 (ya2 (hS.rdo 5 rfl))) (rl_q (yad rfl (yac rfl (congrArg Value.bool (congrArg Bool.not (decide_eq_true hp8))))) rfl rfl (yam hE3 underlying24 rfl yaj) (rl_q (yad rfl (yac rfl (congrArg Value.bool (congrArg Bool.not (decide_eq_true hp8))))) rfl rfl (zl underlying3 (Row.cell (hS.bx 0 rfl) (i := 0) rfl)) (rl_q (yad rfl (yac rfl (congrArg Value.bool (congrArg Bool.not (decide_eq_true hp8))))) rfl rfl zN (zq (yap (v := (.bool (!(decide (((r6.length : Nat) : Int) = d))))) (congrArg Value.bool (congrArg Bool.not (decide_eq_true hp8))) rfl) (yaa ?_)))))); by_cases hp9 : ((r6.length : Nat) : Int) = d
            · replace h := h.1 hp9; exact ze hp9 (yag (j2 _ _ _ ⟨h, rfl, hE3, hE7, hE8, hE11, hE14, hE17, (hS.sel [0, 1, 2, 3, 4, 5, 6] (by decide))⟩))
            · replace h := h.2 hp9; exact zf hp9 (zs (zq (za (.bool (false))) (yaa (yah rfl rfl ⟨_, rfl, (hS.sel [] (by decide)), h⟩))))
          · replace h := h.2 hp8; exact rl_p (yab rfl (yac rfl (congrArg Value.bool (congrArg Bool.not (decide_eq_false hp8)))) rfl) rfl (rl_p (yab rfl (yac rfl (congrArg Value.bool (congrArg Bool.not (decide_eq_false hp8)))) rfl) rfl (rl_p (yab rfl (yac rfl (congrArg Value.bool (congrArg Bool.not (decide_eq_false hp8)))) rfl) rfl (rl_p (yab rfl (yac rfl (congrArg Value.bool (congrArg Bool.not (decide_eq_false hp8)))) rfl) rfl (rl_p (yab rfl (yac rfl (congrArg Value.bool (congrArg Bool.not (decide_eq_false hp8)))) rfl) rfl (zq (yao (v := (.bool (true))) (congrArg Value.bool (congrArg Bool.not (decide_eq_false hp8))) rfl) (yaa (yaq rfl (zs (zq (za (.bool (false))) (yaa (yah rfl rfl ⟨_, rfl, (hS.sel [] (by decide)), h⟩)))))))))))
        · replace h := h.2 hp7; exact rl_p (yab rfl (yac rfl (congrArg Value.bool (congrArg Bool.not (Bool.eq_false_iff.2 hp7)))) rfl) rfl (rl_p (yab rfl (yac rfl (congrArg Value.bool (congrArg Bool.not (Bool.eq_false_iff.2 hp7)))) rfl) rfl (rl_p (yab rfl (yac rfl (congrArg Value.bool (congrArg Bool.not (Bool.eq_false_iff.2 hp7)))) rfl) rfl (rl_p (yab rfl (yac rfl (congrArg Value.bool (congrArg Bool.not (Bool.eq_false_iff.2 hp7)))) rfl) rfl (rl_p (yab rfl (yac rfl (congrArg Value.bool (congrArg Bool.not (Bool.eq_false_iff.2 hp7)))) rfl) rfl (zq (yao (v := (.bool (true))) (congrArg Value.bool (congrArg Bool.not (Bool.eq_false_iff.2 hp7))) rfl) (zq (zm (.bool (true))) (rl_p (yab rfl (yac rfl rfl) rfl) rfl (rl_p (yab rfl (yac rfl rfl) rfl) rfl (rl_p (yab rfl (yac rfl rfl) rfl) rfl (rl_p (yab rfl (yac rfl rfl) rfl) rfl (rl_p (yab rfl (yac rfl rfl) rfl) rfl (zq (yao (v := (.bool (true))) rfl rfl) (yaa (yaq rfl (zs (zq (za (.bool (false))) (yaa (yah rfl rfl ⟨_, rfl, (hS.sel [] (by decide)), h⟩))))))))))))))))))
      · replace h := h.2 hp2; refine yaq (congrArg Value.bool (congrArg Bool.not (Bool.eq_false_iff.2 hp2))) (zs (zq (zm (.bool (r15))) (zq (ydn rfl) (zq (zm (.bool (!(r15)))) ?_)))); by_cases hp10 : r15 = true
        · replace h := h.1 hp10; refine rl_q (yad rfl (yac rfl (congrArg Value.bool (congrArg Bool.not hp10)))) rfl rfl (yae hE19) (rl_q (yad rfl (yac rfl (congrArg Value.bool (congrArg Bool.not hp10)))) rfl rfl (ybc (n := r11.length) rfl underlying44 (ya2 (hS.rdr 7 rfl))) (rl_q (yad rfl (yac rfl (congrArg Value.bool (congrArg Bool.not hp10)))) rfl rfl zE (zq (yap (v := (.bool (decide (((r11.length : Nat) : Int) = 0)))) (congrArg Value.bool (congrArg Bool.not hp10)) rfl) (zq (zm (.bool (decide (((r11.length : Nat) : Int) = 0)))) ?_)))); by_cases hp11 : ((r11.length : Nat) : Int) = 0
          · replace h := h.1 hp11; refine rl_n (yad rfl (yac rfl (congrArg Value.bool (decide_eq_true hp11)))) rfl rfl rfl (yal rfl (am0) ylz ((ykV h (yaN _)).mono ?_)); rintro _ w21 ⟨r21, rfl, hC, h⟩; replace hS := hS.pur hC.pure; clear hC; refine ⟨_, rfl, ?_⟩; exact zb (zq (yao (v := (.bool (r21))) (congrArg Value.bool (decide_eq_true hp11)) rfl) (zq (za (.bool (r21))) (yaa (yah rfl rfl ⟨_, rfl, (hS.sel [] (by decide)), h⟩))))
          · replace h := h.2 hp11; exact rl_p (yab rfl (yac rfl (congrArg Value.bool (decide_eq_false hp11))) rfl) rfl (zq (yap (v := (.bool (false))) (congrArg Value.bool (decide_eq_false hp11)) rfl) (zq (za (.bool (false))) (yaa (yah rfl rfl ⟨_, rfl, (hS.sel [] (by decide)), h⟩))))
        · replace h := h.2 hp10; refine rl_p (yab rfl (yac rfl (congrArg Value.bool (congrArg Bool.not (Bool.eq_false_iff.2 hp10)))) rfl) rfl (rl_p (yab rfl (yac rfl (congrArg Value.bool (congrArg Bool.not (Bool.eq_false_iff.2 hp10)))) rfl) rfl (rl_p (yab rfl (yac rfl (congrArg Value.bool (congrArg Bool.not (Bool.eq_false_iff.2 hp10)))) rfl) rfl (zq (yao (v := (.bool (true))) (congrArg Value.bool (congrArg Bool.not (Bool.eq_false_iff.2 hp10))) rfl) (zq (zm (.bool (true))) (rl_n (yad rfl (yac rfl rfl)) rfl rfl rfl (yal rfl (am0) ylz ((ykV h (yaN _)).mono ?_))))))); rintro _ w22 ⟨r22, rfl, hC, h⟩; replace hS := hS.pur hC.pure; clear hC; refine ⟨_, rfl, ?_⟩; exact zb (zq (yao (v := (.bool (r22))) rfl rfl) (zq (za (.bool (r22))) (yaa (yah rfl rfl ⟨_, rfl, (hS.sel [] (by decide)), h⟩))))
    clear hJ; intro j; refine zr (zq (zm (ii r4)) (zq (zm (ii r7)) ?_)); obtain ⟨hi4, h⟩ := h; refine zq (zA hi4) (zq (zm (ii r10)) ?_); obtain ⟨hi5, h⟩ := h; refine zq (zA hi5) (zq (zm (ii r12)) ?_); obtain ⟨hi6, h⟩ := h; refine zq (zA hi6) (zq (zm (ii r14)) ?_); obtain ⟨hi7, h⟩ := h; refine zq (zA hi7) (zq zN (zq (zm (.bool (!(decide (((((r4 + r7) + r10) + r12) + r14) = 0))))) ?_)); by_cases hp12 : ((((r4 + r7) + r10) + r12) + r14) = 0
    · replace h := h.1 hp12; refine rl_q (yad rfl (yac rfl (congrArg Value.bool (congrArg Bool.not (decide_eq_true hp12))))) rfl rfl (zm (.bool (r8))) (rl_q (yad rfl (yac rfl (congrArg Value.bool (congrArg Bool.not (decide_eq_true hp12))))) rfl rfl (zm (.slice Ar lr cr)) (rl_q (yad rfl (yac rfl (congrArg Value.bool (congrArg Bool.not (decide_eq_true hp12))))) rfl rfl (zm (.slice Ar3 lr3 cr3)) (rl_n (yad rfl (yac rfl (congrArg Value.bool (congrArg Bool.not (decide_eq_true hp12))))) rfl rfl rfl (yal rfl (am2 rfl rfl) yeX ((yaP h (yaN _) (hS.rdo 6 rfl) (hS.rdo 8 rfl)).mono ?_))))); rintro _ w23 ⟨r23, rfl, hC, h⟩; replace hS := hS.pur hC.pure; clear hC; refine ⟨_, rfl, ?_⟩; refine zb (rl_q (yad rfl (yac rfl (congrArg Value.bool (congrArg Bool.not (decide_eq_true hp12))))) rfl rfl (v_bneq rfl rfl underlying4) (zq (yap (v := (.bool (!((r8 == r23))))) (congrArg Value.bool (congrArg Bool.not (decide_eq_true hp12))) rfl) (yaa ?_))); by_cases hp13 : (r8 == r23) = true
      · replace h := h.1 hp13; exact yax (congrArg Value.bool (congrArg Bool.not hp13)) (yag (j _ _ _ ⟨h, rfl, rfl, rfl, rfl, rfl, rfl, rfl, rfl, rfl, rfl, (hS.sel [3, 0, 1, 2, 7, 9, 10, 11, 12] (by decide))⟩))
      · replace h := h.2 hp13; exact yaq (congrArg Value.bool (congrArg Bool.not (Bool.eq_false_iff.2 hp13))) (zs (zq (za (.bool (false))) (yaa (yah rfl rfl ⟨_, rfl, (hS.sel [] (by decide)), h⟩))))
    · replace h := h.2 hp12; exact rl_p (yab rfl (yac rfl (congrArg Value.bool (congrArg Bool.not (decide_eq_false hp12)))) rfl) rfl (rl_p (yab rfl (yac rfl (congrArg Value.bool (congrArg Bool.not (decide_eq_false hp12)))) rfl) rfl (rl_p (yab rfl (yac rfl (congrArg Value.bool (congrArg Bool.not (decide_eq_false hp12)))) rfl) rfl (rl_p (yab rfl (yac rfl (congrArg Value.bool (congrArg Bool.not (decide_eq_false hp12)))) rfl) rfl (rl_p (yab rfl (yac rfl (congrArg Value.bool (congrArg Bool.not (decide_eq_false hp12)))) rfl) rfl (zq (yao (v := (.bool (true))) (congrArg Value.bool (congrArg Bool.not (decide_eq_false hp12))) rfl) (yaa (yaq rfl (zs (zq (za (.bool (false))) (yaa (yah rfl rfl ⟨_, rfl, (hS.sel [] (by decide)), h⟩)))))))))))
  · replace h := h.2 hp; refine yaq (congrArg Value.bool (congrArg Bool.not (Bool.eq_false_iff.2 hp))) (zs (zn (yal rfl (am0) ylz ((ykV h (yaN _)).mono ?_)))); rintro _ w24 ⟨r24, rfl, hC, h⟩; replace hS := hS.pur hC.pure; clear hC; refine ⟨_, rfl, ?_⟩; exact zb (zq (za (.bool (r24))) (yaa (yah rfl rfl ⟨_, rfl, (hS.sel [] (by decide)), h⟩)))
end Go.Proofs.YtncilechkclmbaaGreat

/- The top laws of reduced divisors: TopReducedDecides, TopReducedSame. -/
namespace Go.Proofs.YtncilechkclmbaaGreat
open Go Go.Proofs.Tryz
set_option linter.unusedVariables false
set_option linter.unusedSimpArgs false
theorem app_eqT {n : Nat} {es : List E3} {d r s : List Int} (hl : r.length = n) (h : ∀ v, v < n → gi r v = gi d v - Lp n es (gi s) v) : appF n es d s = r := ygM yh9 hl fun v hv => by rw [h v hv]; exact yf5 _ hv
theorem ylh {R : Bool → Prop} (h : R true) : ykG R := by
  unfold ykG
  have g0 : yat ((3 : Nat) : Int) [(0, 1, 1), (0, 2, 1), (1, 2, 1)] = 0 := by decide
  refine ⟨.inl (small_dec (by decide) (by decide) (by decide) (by decide)), by decide, fun q => absurd (by decide) q, fun _ r s hr hrl hsl => ?_⟩
  obtain ⟨rfl, rfl⟩ := red_known (n := 3) (q := 0) (a := [-1, 0, 1]) (t := [0, -1, -1]) g0 (by decide) hr (by decide) (by decide) (by decide) (by decide) (by decide) (by decide)
  refine yk6 (small_dec (by decide) (by decide) (by decide) (by decide)) (by decide) (fun q => absurd (by decide) q) (fun _ q => absurd (by decide) q) (fun _ v' hv' _ k hk => ?_)
  have hk1 : k = 1 := by
    have e : v' = 2 := by omega
    subst e
    rw [show ((3 : Int).toNat) = 3 from rfl] at hk
    have h1 : k ≤ 1 := (hk.iff 1 (by omega)).1 ⟨gi [0, -1, 0], by decide⟩
    have h0 : ¬ k ≤ 0 := fun q => by
      have hw := (hk.iff 0 (by omega)).2 q
      exact absurd ((yll (yc9 g0).1 (by decide) hr.red hr.lp).1 (yjZ (n := 3) (fun v hv => by
        match v, hv with
        | 0, _ => decide
        | 1, _ => decide
        | 2, _ => decide) hw)) (by decide)
    omega
  subst hk1
  have k1 := ex_dok (d := [1, 1, 0]) ykj rfl (by decide) (by decide)
  have y1 : sysF 3 [(0, 1, 1), (0, 2, 1), (1, 2, 1)] [1, 1, 0] = [[0, 0, 2], [1, 1, 0]] := ys1
  refine ex_size (n := 3) k1 ?_
  rw [y1]
  exact ⟨i64 (by omega), i64 (by omega), fun _ => yaS (by decide) ⟨fun _ => ⟨fun _ => h, fun q => absurd rfl q⟩, fun q => absurd (by decide) q⟩, fun q => absurd (by omega) q⟩
theorem p_runDivisors {n most : Int} {es : List E3} {l : List (List Int)} {R : Bool → Prop} (hl : l.length ≤ 1000) (h1 : (∀ d ∈ l, RtOk n es most d) → R true) (h2 : R false) : ykI n es most l R := by
  unfold ykI
  refine p_r25_Joined0 ⟨fun hj => ?_, fun _ => h2⟩
  obtain ⟨p, hp⟩ := bool_ofL fun d => ¬ (yaJ d n = 0 ∧ FewOk n es d most)
  refine yba (p := p) (by omega) (fun d R' hd hR' => ?_) (fun hall => ?_) (fun d hd hp => by simpa using h2)
  · unfold ykK
    refine yft ⟨fun hc => p_r38_Few (fun hF => ?_) (fun hF => ?_), fun hc => ?_⟩
    · have e : p d = false := by rw [Bool.eq_false_iff]; exact fun q => (hp d).1 q ⟨hc, hF⟩
      rw [e] at hR'; exact hR'
    · have e : p d = true := (hp d).2 fun q => hF q.2
      rw [e] at hR'; exact hR'
    · have e : p d = true := (hp d).2 fun q => hc q.1
      rw [e] at hR'; exact hR'
  · refine h1 fun d hd => ?_
    have h3 := hall d hd
    have h4 : yaJ d n = 0 ∧ FewOk n es d most := Classical.not_not.1 fun q => by rw [(hp d).2 q] at h3; cases h3
    exact ⟨hj, h4.1, h4.2⟩
theorem p_equalG {l l' : List (List Int)} {R : Bool → Prop} (hl : l.length ≤ 1000000) (hx : ∀ x ∈ l, x.length ≤ 1000000000) (h : R (decide (l = l'))) : yhG l l' (fun x x2 R => ylm x x2 R) R := by
  unfold yhG ylm
  refine ⟨fun hlen => ?_, fun hlen => by rw [decide_eq_false fun e => hlen (by rw [e])] at h; exact h⟩
  refine ⟨Cnt l.length (fun k => ∀ j, j < k → gx l j = gx l' j), Cnt.start (fun j hj => absurd hj (by omega)), ?_⟩
  rintro q _ ⟨k, rfl, rfl, hk, hinv⟩
  rw [Int.toNat_natCast]
  refine ⟨fun hkl => ⟨by omega, by omega, yaS (hx _ (List.mem_of_getElem? (yfn (by omega)))) ⟨fun e => Cnt.next (by omega) (by omega) fun j hj => ?_, fun e => ?_⟩⟩, fun hge => ?_⟩
  · by_cases e2 : j = k
    · subst e2; exact of_decide_eq_true e
    · exact hinv j (by omega)
  · rw [decide_eq_false fun e2 => e (decide_eq_true (by rw [e2]))] at h; exact h
  · rw [decide_eq_true (List.ext_getElem (by omega) fun j h1 h2 => by rw [← yfv h1, ← yfv h2]; exact hinv j (by omega))] at h; exact h
theorem p_EquivalentL {n : Nat} {es : List E3} {a b : List Int} {R : Bool → List Int → Int → Prop} (hSa : Small n es a) (hSb : Small n es b) (ga : yaD n es 0 a = 0) (gb : yaD n es 0 b = 0)
    (h1 : ∀ u : List Int, u.length = n → (∀ v, v < n → gi b v = gi a v - Lp n es (gi u) v) → (∃ w, w < n ∧ gi u w = 0) → (∀ v, v < n → 0 ≤ gi u v) → R true u 0) (h2 : (∀ t : Nat → Int, ¬ ∀ v, v < n → gi b v = gi a v - Lp n es t v) → R false [] 0) : yhK (n : Int) es a b R := by
  obtain ⟨hE, hn1, hn12, hg, hc, -, hal, hca⟩ := ydT (q := 0) ga
  obtain ⟨-, -, -, -, -, -, hbl, hcb⟩ := ydT (q := 0) gb
  have hel := hSa.el
  unfold yhK
  refine yiF (by omega) (by simp) hg hc (fun k hk => (own_two ⟨hal, hca⟩ ⟨hbl, hcb⟩ k hk).2) ⟨fun _ => ?_, fun q => absurd rfl q⟩
  refine ⟨.inl hSa, by omega, fun q => absurd ga q, fun _ x s hx hxl hsl => ⟨fun _ => ⟨.inl hSb, by omega, fun q => absurd gb q, fun _ y t hy hyl htl => ⟨fun _ => ?_, fun q => absurd rfl q⟩⟩, fun q => absurd rfl q⟩⟩
  have e0 : (0 : Int).toNat = 0 := rfl
  simp only [Int.toNat_natCast, e0] at hx hxl hsl hy hyl htl
  refine yaS (by omega) ⟨fun he => ?_, fun he => ?_⟩
  · rw [decide_eq_true_eq] at he
    subst he
    have hsb := hx.bs
    have htb := hy.bs
    have hdl : (tab (fun i => gi s i - gi t i) n).length = n := ydW _ _
    have hdg : ∀ v, v < n → gi (tab (fun i => gi s i - gi t i) n) v = gi s v - gi t v := fun v hv => yf5 _ hv
    refine yim (f := fun m k => m - k) hn12 hsl htl (fun v hv R' hR' => ⟨i64 (by have := hsb v hv; have := htb v hv; omega), hR'⟩) ?_
    refine yiE ⟨hn1, hn12⟩ hdl (fun j hj => by rw [hdg j hj]; have := hsb j hj; have := htb j hj; omega) fun w hw hmin => ?_
    have hLd : ∀ v, v < n → gi b v = gi a v - Lp n es (gi (tab (fun i => gi s i - gi t i) n)) v := fun v hv => by
      have h3 := yd5 (n := n) (es := es) (a := gi (tab (fun i => gi s i - gi t i) n)) (b := fun i => gi s i + (-1) * gi t i) (fun i hi => by rw [hdg i hi]; omega) hv
      rw [h3, yfM (gi s) (fun i => (-1) * gi t i), ygS]
      have h4 := hx.lp v hv
      have h5 := hy.lp v hv
      omega
    generalize tab (fun i => gi s i - gi t i) n = z at hdl hLd hmin ⊢
    refine h1 _ (ydW _ _) (fun v hv => ?_) ⟨w, hw, by rw [yf5 _ hw]; omega⟩ (fun v hv => by rw [yf5 _ hv]; have := hmin v hv; omega)
    have h3 := yd5 (n := n) (es := es) (a := gi (tab (fun i => gi z i - gi z w) n)) (b := fun i => gi z i + (- gi z w)) (fun i hi => by rw [yf5 _ hi]; omega) hv
    rw [h3, yfM (gi z) (fun _ => - gi z w), yeW, hLd v hv]; omega
  · rw [decide_eq_true_eq] at he
    refine h2 fun u hu => he ?_
    refine (ylw hE (by omega) hx (a' := y) (s' := tab (fun v => (u v + gi t v) + - u 0) n) hyl (ydW _ _) (fun v hv => ?_) ?_ hy.red).1
    · rw [yd5 (b := fun v => (u v + gi t v) + - u 0) (fun i hi => yf5 _ hi) hv, yfM (fun v => u v + gi t v) (fun _ => - u 0), yeW, yfM u (gi t), hy.lp v hv, hu v hv]; omega
    · rw [yf5 _ (by omega), hy.sq]; omega
theorem least_eq {n : Nat} {es : List E3} {x y : List Int} (hE : EOk n es) (hn : 1 ≤ n) (hC : Conn n es 0) (hx : x.length = n) (hy : y.length = n) (h : ∀ v, v < n → Lp n es (gi x) v = Lp n es (gi y) v) (x0 : ∃ w, w < n ∧ gi x w = 0) (y0 : ∃ w, w < n ∧ gi y w = 0)
    (xp : ∀ v, v < n → 0 ≤ gi x v) (yp : ∀ v, v < n → 0 ≤ gi y v) : x = y := by
  have hf := dirichlet (q := 0) hE hC (by omega) (f := fun v => (gi x v + (-1) * gi y v) + -(gi x 0 + (-1) * gi y 0)) (by show (gi x 0 + (-1) * gi y 0) + -(gi x 0 + (-1) * gi y 0) = 0; omega) fun v hv _ => by
    rw [yfM (a := fun v => gi x v + (-1) * gi y v) (b := fun _ => -(gi x 0 + (-1) * gi y 0)), yfM (a := gi x) (b := fun v => (-1) * gi y v), ygS, yeW, h v hv]; omega
  have hf : ∀ v, v < n → gi x v - gi y v = gi x 0 - gi y 0 := fun v hv => by have : (gi x v + (-1) * gi y v) + -(gi x 0 + (-1) * gi y 0) = 0 := hf v hv; omega
  obtain ⟨u, hu, eu⟩ := x0
  obtain ⟨w, hw, ew⟩ := y0
  have a1 := hf u hu
  have a2 := hf w hw
  have a3 := yp u hu
  have a4 := xp w hw
  exact ygM hx hy fun v hv => by have := hf v hv; omega
theorem p_Least {n : Nat} {s : List Int} {R : List Int → Int → Prop} (hn : 1 ≤ n ∧ n ≤ 12) (hs : s.length = n) (hb : ∀ j, j < n → -1048576 ≤ gi s j ∧ gi s j ≤ 1048576) (h : ∀ w, w < n → (∀ k, k < n → gi s w ≤ gi s k) → R (tab (fun i => gi s i - gi s w) n) 0) : ylp s R := by
  unfold ylp
  refine ⟨fun q => by omega, fun _ => ⟨Cnt s.length (fun _ => True), Cnt.start trivial, ?_⟩⟩
  rintro q _ ⟨k, rfl, rfl, hk, _⟩
  rw [Int.toNat_natCast]
  refine ⟨fun hkl => ⟨by omega, fun q => by have := hb k (by omega); omega, fun _ => ⟨fun q => by have := hb k (by omega); omega, fun _ => Cnt.next (by omega) (by omega) trivial⟩⟩, fun _ => ?_⟩
  exact yiE hn hs (fun j hj => by have := hb j hj; omega) h
theorem p_topsame {n a : Int} {es : List E3} {x y : List Int} (ha : 0 ≤ a ∧ a < 256) : yln n es x y a (fun b => b = true) := by
  unfold yln
  refine ⟨by omega, by omega, p_runDivisors (by simp) (fun hR => ⟨fun _ => ?_, fun q => absurd rfl q⟩) ⟨fun q => (by cases q), fun _ => ylh rfl⟩⟩
  have hRx := hR x (by simp)
  have hRy := hR y (by simp)
  clear hR
  obtain ⟨n, rfl⟩ := hRx.int
  obtain ⟨hD, hg, hxl, h5, hxb⟩ := hRx.nat (by omega)
  obtain ⟨hD2, hg2, hyl, h52, hyb⟩ := hRy.nat (by omega)
  have hn1 := hD.G.n1
  have hn5 := hD.G.n5
  have hel := hD.G.el
  have hE := hD.G.E
  have hfew := yhi hD
  have hSx : Small (n : Int) es x := hD.G.small fun v hv => by have := hxb v hv; omega
  have hSy : Small (n : Int) es y := hD.G.small fun v hv => by have := hyb v hv; omega
  have hq : 0 ≤ a.tmod (n : Int) ∧ a.tmod (n : Int) < n := ⟨Int.tmod_nonneg _ ha.1, Int.tmod_lt_of_pos _ (by omega)⟩
  obtain ⟨q, hqe⟩ : ∃ q : Nat, a.tmod (n : Int) = (q : Int) := ⟨(a.tmod (n : Int)).toNat, by omega⟩
  rw [hqe] at hq ⊢
  have hqn : q < n := by omega
  have hgx : yaD n es q x = 0 := given_at hg (by omega)
  have hgy : yaD n es q y = 0 := given_at hg2 (by omega)
  refine ⟨i64 (by omega), by omega, .inl hSx, by omega, fun z => absurd hgx z, fun _ r s hr hrl hsl => ⟨.inl hSy, by omega, fun z => absurd hgy z, fun _ t u ht htl hul => ?_⟩⟩
  simp only [Int.toNat_natCast] at hr hrl hsl ht htl hul
  have hkey : r = t ↔ Eqv n es x y := by
    constructor
    · rintro rfl
      exact (show Eqv n es x r from ⟨gi s, hr.lp⟩).trans (show Eqv n es y r from ⟨gi u, ht.lp⟩).symm
    · rintro ⟨f, hf⟩
      refine (ylw hE hqn hr (a' := t) (s' := tab (fun v => (f v + gi u v) + - f q) n) htl (ydW _ _) (fun v hv => ?_) ?_ ht.red).1
      · rw [yd5 (b := fun v => (f v + gi u v) + - f q) (fun i hi => yf5 _ hi) hv, yfM (fun v => f v + gi u v) (fun _ => - f q), yeW, yfM f (gi u), ht.lp v hv, hf v hv]; omega
      · rw [yf5 _ hqn, ht.sq]; omega
  have hsb := hr.bs
  have hub := ht.bs
  refine p_EquivalentL hSx hSy hg hg2 (fun w hwl hw w0 wp => ?_) (fun hno => ?_)
  · have hE2 : Eqv n es x y := ⟨gi w, hw⟩
    have hrt := hkey.2 hE2
    subst hrt
    have hse := sysF_eqv hn1 hxl hyl hE2
    refine ex_all ⟨hD, hg⟩ (ex_all ⟨hD2, hg2⟩ ?_)
    rw [hse]
    refine ⟨True, fun _ => p_equalG (by omega) (sysF_lens hD hxl) ?_, i64 (by omega), i64 (by omega), i64 (by omega), i64 (by omega), fun _ => yaS (by omega) ⟨fun _ => trivial, fun z => absurd (by simp) z⟩, fun z => absurd (by omega) z⟩
    refine ⟨fun _ => ⟨True, fun _ => ⟨by omega, ?_⟩, fun _ => ⟨fun _ => ⟨fun _ => trivial, fun z => absurd (by omega) z⟩, fun z => absurd (by omega) z⟩, fun z => absurd (decide_eq_true rfl) z⟩, fun z => absurd rfl z⟩
    obtain ⟨f, hf⟩ : ∃ f : Nat → Int, f = fun i => gi s i - gi u i := ⟨_, rfl⟩
    have hfv : ∀ i, f i = gi s i - gi u i := fun i => by rw [hf]
    rw [Int.toNat_natCast]
    refine ⟨fun q v o => Cnt n (fun k => o = upto f k n) q v, Cnt.start (upto_zero f n).symm, ?_⟩
    rintro m _ o ⟨k, rfl, rfl, hk, rfl⟩
    rw [List.length_replicate, Int.toNat_natCast]
    refine ⟨fun hkn => ?_, fun hkn => ?_⟩
    · have b1 := hsb k (by omega)
      have b2 := hub k (by omega)
      refine ⟨by omega, by omega, i64 (by omega), by rw [ycw]; omega, ?_⟩
      rw [← hfv]
      exact Cnt.next (by omega) (by omega) (upto_set f (by omega))
    · have e : k = n := by omega
      subst e
      rw [upto_all]
      have hLd : ∀ v, v < k → gi y v = gi x v - Lp k es (gi (tab f k)) v := fun v hv => by
        rw [yd5 (n := k) (es := es) (a := gi (tab f k)) (b := fun i => gi s i + (-1) * gi u i) (fun i hi => by rw [yf5 _ hi, hfv]; omega) hv, yfM (gi s) (fun i => (-1) * gi u i), ygS]
        have h4 := hr.lp v hv
        have h5 := ht.lp v hv
        omega
      have hzq : gi (tab f k) q = 0 := by rw [yf5 _ hqn, hfv, hr.sq, ht.sq]; rfl
      have hzl : (tab f k).length = k := ydW _ _
      generalize tab f k = z at hLd hzq hzl ⊢
      obtain ⟨w1, hw1, hmin⟩ := ylx (fun v => -gi z v) k (by omega)
      have hsm := script_small hE (by omega) hw1 (hD.G.C w1 hw1) (fun v hv => by have := hxb v hv; omega) (fun v hv => by have := hyb v hv; omega) hLd (fun v hv => by have := hmin v hv; omega)
      have hzb : ∀ v, v < k → -60000 ≤ gi z v ∧ gi z v ≤ 60000 := fun v hv => by
        have h1 := hsm v hv
        have h2 := hsm q hqn
        omega
      refine p_Least ⟨hn1, by omega⟩ hzl (fun j hj => by have := hzb j hj; omega) fun w2 hw2 hmin2 => ⟨fun _ => ?_, fun z => absurd rfl z⟩
      have hle : tab (fun i => gi z i - gi z w2) k = w := by
        refine least_eq hE hn1 (hD.G.C 0 (by omega)) (ydW _ _) hwl (fun v hv => ?_) ⟨w2, hw2, by rw [yf5 _ hw2]; omega⟩ w0 (fun v hv => by rw [yf5 _ hv]; have := hmin2 v hv; omega) wp
        have h3 := yd5 (n := k) (es := es) (a := gi (tab (fun i => gi z i - gi z w2) k)) (b := fun i => gi z i + (- gi z w2)) (fun i hi => by rw [yf5 _ hi]; omega) hv
        rw [h3, yfM (gi z) (fun _ => - gi z w2), yeW]
        have h4 := hLd v hv
        have h5 := hw v hv
        omega
      rw [hle]
      refine ylv (by omega) ⟨fun _ => ?_, fun z => absurd (decide_eq_true rfl) z⟩
      have hzc : yaJ z k = 0 := yfN hzl hn1 (by omega) fun j hj => by have := hzb j hj; omega
      have happ : appF k es x z = y := app_eqT hyl hLd
      unfold ylq
      refine yiF (by omega) (by simp) hD.G.g hD.G.c (fun j hj => ?_) ⟨fun _ => ?_, fun z => absurd rfl z⟩
      · have hj3 : j = 0 ∨ j = 1 ∨ j = 2 := by simp at hj; omega
        rcases hj3 with rfl | rfl | rfl
        · exact hRx.c
        · exact hRy.c
        · exact hzc
      · refine p_firing_Apply (by omega) hD.G.g hRx.c hzc (fun hall => ?_) (fun hall => ?_)
        · rw [happ]
          exact ⟨fun _ => yaS (by omega) ⟨fun _ => ⟨fun _ => ylh rfl, fun z => absurd rfl z⟩, fun z => absurd (decide_eq_true rfl) z⟩, fun z => absurd rfl z⟩
        · exfalso
          rw [Bool.eq_false_iff] at hall
          apply hall
          rw [ycA, happ]
          intro v hv
          have := hyb v (by omega)
          unfold inF
          rw [decide_eq_true_eq]; omega
  · have hne : r ≠ t := fun e => by
      obtain ⟨f, hf⟩ := hkey.1 e
      exact hno f hf
    refine ex_all ⟨hD, hg⟩ (ex_all ⟨hD2, hg2⟩ ⟨True, fun _ => p_equalG (by omega) (sysF_lens hD hxl) ⟨fun z => (by cases z), fun _ => ⟨fun he => ⟨fun _ => ylh rfl, fun hl0 => ?_⟩, fun _ => ylh rfl⟩⟩, i64 (by omega), i64 (by omega), i64 (by omega), i64 (by omega), fun _ => yaS (by omega) ⟨fun _ => trivial, fun z => absurd ?_ z⟩, fun z => absurd (by omega) z⟩)
    · exfalso
      have he := of_decide_eq_true he
      obtain ⟨z, hz⟩ := List.length_pos_iff_exists_mem.1 (show 0 < (sysF n es x).length by omega)
      have h1 := ((yc0 hn1 hxl).1 hz).2
      rw [he] at hz
      have h2 := ((yc0 hn1 hyl).1 hz).2
      obtain ⟨f, hf⟩ := h1.trans h2.symm
      exact hno f hf
    · rw [decide_eq_false hne]; rfl
end Go.Proofs.YtncilechkclmbaaGreat
