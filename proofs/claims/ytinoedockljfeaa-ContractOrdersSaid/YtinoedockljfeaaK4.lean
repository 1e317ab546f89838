/- Texts laid together: Srt, SrtK, Pcm, LayE, SrtE, PCa, TabT. -/
import Derived.Shelf.SlSortCmp.NoneTotal
import Derived.Shelf.SlLaysF0
import Derived.Test.YtinoedockljfeaaChecked
import Derived.Test.YtinoedockljfeaaK3
/- slices.SortFunc at slices of one's own: the kit's contract, said of what is owned. Elements of one cell. No program in sight. -/
namespace Go.Proofs.Ytinoedockljfeaa
open Go Go.RowKit Go.Shelf Go.Lib Go.Sort Go.Proofs.Try
set_option linter.unusedVariables false
set_option linter.unusedSimpArgs false
theorem yfe {α : Type} [Inhabited α] (enc : α → Value) (w : World) (blk off m : Nat) (d : Array α) (os : Array Obj) : Keeps (fun k => k = blk) w (sortWorld enc w blk off m d os) := by
  refine ⟨rfl, rfl, rfl, ?_, fun k hk hn => ?_⟩
  · show w.heap.size ≤ ((w.heap.modify blk (onCells (putCells enc off d))) ++ os).size
    simp
  · show ((w.heap.modify blk (onCells (putCells enc off d))) ++ os)[k]? = _
    rw [Array.getElem?_append_left (by simpa using hk), Array.getElem?_modify, if_neg (fun q => hn q.symm)]
theorem sortWorld_at {α : Type} [Inhabited α] (enc : α → Value) (w : World) (blk off m : Nat) (d : Array α) (os : Array Obj) {cur : Array Value} {e : TypeId} {fr : Nat × Nat} (h : w.heap[blk]? = some (.cells cur e fr)) : (sortWorld enc w blk off m d os).heap[blk]? = some (.cells (putCells enc off d cur) e fr) := by
  show ((w.heap.modify blk (onCells (putCells enc off d))) ++ os)[blk]? = _
  have hb := (Array.getElem?_eq_some_iff.1 h).1
  rw [Array.getElem?_append_left (by simpa using hb), Array.getElem?_modify, if_pos rfl, h]
  rfl
section
variable {P : Program} {ρ : Ren} {τ : Type} {c : Cod τ} {cf : τ → τ → Int} {g : Nat}
end
end Go.Proofs.Ytinoedockljfeaa

/- slices.SortFunc at slices of one's own whose elements are structs of numbers: the kit's contract, said of what is owned. No program in sight. -/
namespace Go.Proofs.Ytinoedockljfeaa
open Go Go.RowKit Go.Shelf Go.Lib Go.Sort Go.Proofs.Try
set_option linter.unusedVariables false
set_option linter.unusedSimpArgs false
theorem flatK_at {τ : Type} [Inhabited τ] {f : Fl τ} {d : Array τ} {k j : Nat} {x : τ} {u : Value} (hx : d[k]? = some x) (hu : (f.enc x)[j]? = some u) : k * f.sz + j < d.size * f.sz ∧ (flatK f.enc f.sz d)[k * f.sz + j]? = some u := by
  have hk := (Array.getElem?_eq_some_iff.1 hx).1
  have hj := (List.getElem?_eq_some_iff.1 hu).1
  rw [f.len] at hj
  have hlt : k * f.sz + j < d.size * f.sz := by
    have : (k + 1) * f.sz ≤ d.size * f.sz := Nat.mul_le_mul_right _ hk
    rw [Nat.add_mul] at this; omega
  refine ⟨hlt, ?_⟩
  have h1 := get_flatK f.enc f.sz d (k * f.sz + j) hlt
  have e1 : (k * f.sz + j) / f.sz = k := by
    rw [Nat.mul_comm, Nat.mul_add_div (by omega), Nat.div_eq_of_lt hj]; omega
  have e2 : (k * f.sz + j) % f.sz = j := by
    rw [Nat.mul_comm, Nat.mul_add_mod, Nat.mod_eq_of_lt hj]
  rw [e1, e2] at h1
  have e3 : d[k]! = x := by rw [getElem!_pos d k hk]; rw [Array.getElem?_eq_getElem hk] at hx; exact Option.some.inj hx
  rw [e3, getElem!_pos _ _ (by simpa using hlt), getElem!_pos _ _ (by rw [f.len]; exact hj)] at h1
  rw [Array.getElem?_eq_getElem (by simpa using hlt), h1]
  rw [List.getElem?_eq_getElem (by rw [f.len]; exact hj)] at hu
  exact hu
section
variable {P : Program} {ρ : Ren} {τ : Type} [Inhabited τ] {f : Fl τ} {cf : τ → τ → Int} {g : Nat}
theorem srt_ownK (L : SlLaysF0.n6 P ρ) (aE : ∀ w, (isAgg (ρ.t 24)).run P w = .ok true w) (zE : ∀ w, (Go.sizeOf (ρ.t 24)).run P w = .ok f.sz w) (hO : SWO (ltOf cf)) (eg : Enters P g)
    {w : World} {S O : Nat → Prop} {e : TypeId} {A : Option Addr} {l cap : Nat} {xs : List τ} {R : List τ → Prop}
    (hcmp : ∀ W x y, Calls P g #[.agg (f.enc x).toArray, .agg (f.enc y).toArray] W fun e w' => e = .returned (.int .i64 (cf x y)) ∧ ∃ q os', w' = grow (W.drewN q) os')
    (hlen : xs.length ≤ 1000000000) (h : ∀ zs, zs.Perm xs → zs.Pairwise (fun a b => ¬ cf b a < 0) → R zs)
    (hS : Sep w S O w (rl [Res.own f.cod e A l cap xs])) : Calls P (ρ.f 6) #[.slice A l cap, .func (.func g) #[] #[]] w fun e' w' => ∃ zs, e' = .returned (.tuple #[]) ∧ Sep w S O w' (rl [Res.own f.cod e A l cap zs]) ∧ R zs := by
  obtain ⟨hl, cells, ho, hc⟩ := hS.own 0 rfl
  by_cases h0 : xs = []
  · subst h0
    simp at hl
    subst hl
    refine (AnyF.slices_SortFunc_none { L with } A cap _ w).mono ?_
    rintro _ w' ⟨rfl, rfl⟩
    exact ⟨[], rfl, hS, h [] (List.Perm.refl _) List.Pairwise.nil⟩
  · have hlp : 0 < xs.length := List.length_pos_iff.2 h0
    rcases ho.2 with ⟨_, q, _⟩ | ⟨gb, o, cur, rfl, hb, hg, hlc, hcm, hsz, hcur⟩
    · omega
    · have hsz2 : o + cap * f.sz ≤ cur.size := hsz
      have hlt : gb < w.heap.size := (Array.getElem?_eq_some_iff.1 hg).1
      have hll : l = xs.toArray.size := by rw [hl]; simp
      have hcm2 : xs.toArray.size < 4611686018427387904 := by rw [← hll, hl]; exact Nat.lt_of_le_of_lt hlen (by decide)
      have hmain := AnyQ.slices_SortFunc L f.sz aE zE f.enc f.len f.one cf hO g #[] gb o cap xs.toArray w eg
        (fun m os dk _ x y => by rw [Array.append_empty]; exact hcmp _ x y)
        (fun t ht => by
          have ht : t < xs.toArray.size * f.sz := by simpa using ht
          have hz : 0 < f.sz := by rcases Nat.eq_zero_or_pos f.sz with q | q; · rw [q] at ht; simp at ht
                                   · exact q
          have hk : t / f.sz < xs.length := by have := Nat.div_lt_of_lt_mul (by rw [Nat.mul_comm] at ht; exact ht : t < f.sz * xs.toArray.size); simpa using this
          have hj : t % f.sz < f.sz := Nat.mod_lt _ hz
          obtain ⟨vs, hR, hv⟩ := hc (t / f.sz) xs[t / f.sz] (List.getElem?_eq_getElem hk)
          have hR : vs = f.enc xs[t / f.sz] := hR
          subst hR
          have hu : (f.enc xs[t / f.sz])[t % f.sz]? = some ((f.enc xs[t / f.sz])[t % f.sz]'(by rw [f.len]; exact hj)) := List.getElem?_eq_getElem _
          have hcell := hv _ _ hu
          have e1 : t / f.cod.sz * f.cod.sz + t % f.sz = t := by
            show t / f.sz * f.sz + t % f.sz = t
            rw [Nat.mul_comm]; exact Nat.div_add_mod t f.sz
          have e1' : t / f.sz * f.cod.sz + t % f.sz = t := e1
          rw [e1'] at hcell
          obtain ⟨g', o', e', _, h1, h2⟩ := ho.cellAt hcell
          cases e'
          have hfl := (flatK_at (f := f) (d := xs.toArray) (k := t / f.sz) (by simp [List.getElem?_eq_getElem hk]) hu).2
          have e2 : t / f.sz * f.sz + t % f.sz = t := e1
          rw [e2] at hfl
          refine ⟨?_, h2⟩
          rw [h1, getElem!_pos _ t (by simpa using ht)]
          rw [Array.getElem?_eq_getElem (by simpa using ht)] at hfl
          rw [Option.some.inj hfl]; rfl) hlt hcm2
      rw [← hll] at hmain
      refine hmain.mono ?_
      rintro _ w' ⟨rfl, d', n, os, ⟨p1, p2, p3⟩, hs, rfl⟩
      have hd'l : d'.size = l := by rw [p1, hll]
      have hp : d'.toList.Perm xs := by
        have e1 : d'.extract 0 l = d' := by rw [← hd'l]; exact Array.extract_size
        have e2 : xs.toArray.extract 0 l = xs.toArray := by rw [hll]; exact Array.extract_size
        rwa [e1, e2] at p3
      refine ⟨d'.toList, rfl, ?_, h _ hp ?_⟩
      · have hK := yfe (id : Value → Value) w gb o n (flatK f.enc f.sz d') os
        have hfs : (flatK f.enc f.sz d').size = l * f.sz := by rw [size_flatK, hd'l]
        refine (hS.upd 0 (Res.own f.cod e (some ⟨gb, o, none⟩) l cap d'.toList) hK (fun k _ hk => by rw [hk]; rfl) (fun k hk => .inl hk) ?_).sel [0] (by decide)
        have hlm : l * f.sz ≤ cap * f.sz := Nat.mul_le_mul_right _ hlc
        refine ⟨by simp [hd'l], (flatK f.enc f.sz d').toList, ⟨by rw [Array.length_toList, hfs]; rfl, .inr ⟨gb, o, _, rfl, Nat.zero_le _, sortWorld_at _ w gb o n (flatK f.enc f.sz d') os hg, hlc, hcm, by show o + cap * f.sz ≤ _; simpa [putCells] using hsz2, ?_⟩⟩, fun k x hx => ?_⟩
        · show List.take (l * f.sz) _ = _
          apply List.ext_getElem?
          intro i
          rw [List.getElem?_take]
          by_cases hi : i < l * f.sz
          · rw [if_pos hi, List.getElem?_drop, Array.getElem?_toList]
            have hic : o + i < cur.size := by omega
            rw [putCells, Array.getElem?_mapIdx, Array.getElem?_eq_getElem hic, Option.map_some, if_pos ⟨by omega, by omega⟩, show o + i - o = i by omega, Array.getElem?_toList, Array.getElem?_eq_getElem (by omega), getElem!_pos _ _ (by omega)]
            rfl
          · rw [if_neg hi, List.getElem?_eq_none (by rw [Array.length_toList]; omega)]
        · refine ⟨f.enc x, rfl, fun j u hj => ?_⟩
          rw [Array.getElem?_toList] at hx ⊢
          exact (flatK_at hx hj).2
      · rw [List.pairwise_iff_getElem]
        intro i j hi hj hij
        have hj' : j < d'.size := by simpa using hj
        have := hs i j (Nat.zero_le _) hij (by omega)
        rw [getElem!_pos d' j hj', getElem!_pos d' i (by omega)] at this
        simpa [ltOf] using this
end
end Go.Proofs.Ytinoedockljfeaa

/- The order of edges, and what it does to the world, to the letter. -/
namespace Go.Proofs.Ytinoedockljfeaa
open Go Go.RowKit Go.Sort Go.Proofs.Try
set_option maxRecDepth 100000
set_option maxHeartbeats 400000
def Gr (w w' : World) : Prop := ∃ (q : Nat) (os' : Array Obj), w' = grow (w.drewN q) os'
theorem Gr.refl (w : World) : Gr w w := ⟨0, #[], by rw [grow_empty]; rfl⟩
theorem Gr.drewN {a w : World} (h : Gr a w) (n : Nat) : Gr a (w.drewN n) := by
  obtain ⟨q, os', rfl⟩ := h
  exact ⟨q + n, os', by unfold grow World.drewN; simp [Nat.add_assoc]⟩
theorem Gr.drew {a w : World} (h : Gr a w) : Gr a w.drew := h.drewN 1
theorem Gr.alloc {a w : World} (h : Gr a w) (o : Obj) : Gr a (w.alloc o) := by
  obtain ⟨q, os', rfl⟩ := h
  exact ⟨q, os' ++ #[o], by rw [alloc_eq_grow, grow_grow]⟩
theorem Gr.trans {a b c : World} (h : Gr a b) (k : Gr b c) : Gr a c := by
  obtain ⟨q, os', rfl⟩ := h
  obtain ⟨q2, os2, rfl⟩ := k
  refine ⟨q + q2, os' ++ os2, ?_⟩
  rw [← grow_grow]
  unfold grow World.drewN
  simp [Nat.add_assoc]
theorem pcompareG (a b c d : Int) (w : World) : Calls Try.prog 72 #[.agg #[.int .i64 a, .int .i64 b], .agg #[.int .i64 c, .int .i64 d]] w fun e w' =>
    e = .returned (.int .i64 (yc6 a b c d)) ∧ Gr w w' := by
  go_enter func72, ntmps72
  go_wp2
  go_region_held3 (fun w' => w'.cell? ⟨w.heap.size, 0, none⟩ = some (.int .i64 a) ∧ w'.cell? ⟨w.heap.size, 1, none⟩ = some (.int .i64 b) ∧ w'.cell? ⟨w.heap.size + 1, 0, none⟩ = some (.int .i64 c) ∧ w'.cell? ⟨w.heap.size + 1, 1, none⟩ = some (.int .i64 d)) (simp [go_sem, World.cell?_alloc_past])
    (first
      | (go_at_call 61; refine (compare_any _ _ _).mono ?_; rintro e w' ⟨rfl, rfl⟩)
      | (go_at_call 60; refine (or_two _ _ (cmpF a c) (cmpF b d) _ (by simp [go_sem]) (by simp [go_sem])).mono ?_; rintro e w' ⟨rfl, rfl⟩))
  go_wp2
  go_ret
  exact ⟨rfl, by repeat (first | exact Gr.refl _ | assumption | refine Gr.drew ?_ | refine Gr.drewN ?_ _ | refine Gr.alloc ?_ _)⟩
theorem edge_order (x y : E3) (w : World) : Calls Try.prog 109 #[.agg #[.int .i64 x.1, .int .i64 x.2.1, .int .i64 x.2.2], .agg #[.int .i64 y.1, .int .i64 y.2.1, .int .i64 y.2.2]] w fun e w' =>
    e = .returned (.int .i64 (yc6 x.1 x.2.1 y.1 y.2.1)) ∧ Gr w w' := by
  go_enter func109, ntmps109
  go_wp2_with (first | (go_at_call 72; refine (pcompareG _ _ _ _ _).mono ?_; rintro e w' ⟨rfl, hG⟩))
  go_ret
  exact ⟨rfl, by first | (refine Gr.trans ?_ hG; repeat (first | exact Gr.refl _ | assumption | refine Gr.drew ?_ | refine Gr.drewN ?_ _ | refine Gr.alloc ?_ _)) | (repeat (first | exact Gr.refl _ | assumption | refine Gr.drew ?_ | refine Gr.drewN ?_ _ | refine Gr.alloc ?_ _))⟩
end Go.Proofs.Ytinoedockljfeaa

/- slices.SortFunc lies in this program. -/
namespace Go.Proofs.Ytinoedockljfeaa
open Go Go.Shelf Go.Proofs.Try
def sortE_ren : Go.Shelf.Ren := ⟨fun | 6 => 108 | 15 => 112 | 14 => 111 | 28 => 122 | 29 => 123 | 20 => 114 | 21 => 115 | 22 => 116 | 23 => 117 | 24 => 118 | 25 => 119 | 26 => 120 | 27 => 121 | 46 => 124 | 47 => 125 | 48 => 126 | 49 => 127 | 50 => 128 | 57 => 129 | n => n, fun | 22 => 22 | 24 => 75 | 25 => 129 | 3 => 3 | 39 => 130 | 0 => 0 | 53 => 142 | 55 => 144 | 4 => 4 | 46 => 135 | 45 => 134 | 50 => 139 | 5 => 5 | 9 => 9 | 66 => 145 | 70 => 149 | 76 => 151 | 77 => 152 | n => n, fun | n => n⟩
theorem sortE : Go.Proofs.SlLaysF0.n6 Try.prog sortE_ren := {
  mixed := by kernel_rfl
  f6 := ⟨Try.f108.name, by decide, func108.trans (congrArg some (by kernel_rfl))⟩
  f14 := ⟨Try.f111.name, by decide, func111.trans (congrArg some (by kernel_rfl))⟩
  f15 := func112.trans (congrArg some (by kernel_rfl))
  f20 := ⟨Try.f114.name, by decide, func114.trans (congrArg some (by kernel_rfl))⟩
  f21 := ⟨Try.f115.name, by decide, func115.trans (congrArg some (by kernel_rfl))⟩
  f22 := ⟨Try.f116.name, by decide, func116.trans (congrArg some (by kernel_rfl))⟩
  f23 := ⟨Try.f117.name, by decide, func117.trans (congrArg some (by kernel_rfl))⟩
  f24 := ⟨Try.f118.name, by decide, func118.trans (congrArg some (by kernel_rfl))⟩
  f25 := ⟨Try.f119.name, by decide, func119.trans (congrArg some (by kernel_rfl))⟩
  f26 := ⟨Try.f120.name, by decide, func120.trans (congrArg some (by kernel_rfl))⟩
  f27 := ⟨Try.f121.name, by decide, func121.trans (congrArg some (by kernel_rfl))⟩
  f28 := func122.trans (congrArg some (by kernel_rfl))
  f29 := func123.trans (congrArg some (by kernel_rfl))
  f46 := ⟨Try.f124.name, by decide, func124.trans (congrArg some (by kernel_rfl))⟩
  f47 := func125.trans (congrArg some (by kernel_rfl))
  f48 := func126.trans (congrArg some (by kernel_rfl))
  f49 := ⟨Try.f127.name, by decide, func127.trans (congrArg some (by kernel_rfl))⟩
  f50 := ⟨Try.f128.name, by decide, func128.trans (congrArg some (by kernel_rfl))⟩
  f57 := ⟨Try.f129.name, by decide, func129.trans (congrArg some (by kernel_rfl))⟩
  t0 := underlying0
  a0 := Try.isAgg0
  z0 := Try.sizeOf0
  v0 := Try.zeroValue0
  t3 := underlying3
  a3 := Try.isAgg3
  z3 := Try.sizeOf3
  v3 := Try.zeroValue3
  t4 := underlying4
  a4 := Try.isAgg4
  z4 := Try.sizeOf4
  v4 := Try.zeroValue4
  t5 := underlying5
  a5 := Try.isAgg5
  z5 := Try.sizeOf5
  v5 := Try.zeroValue5
  t9 := underlying9
  a9 := Try.isAgg9
  z9 := Try.sizeOf9
  v9 := Try.zeroValue9
  t22 := underlying22
  a22 := Try.isAgg22
  z22 := Try.sizeOf22
  v22 := Try.zeroValue22
  t25 := underlying129
  a25 := Try.isAgg129
  z25 := Try.sizeOf129
  v25 := Try.zeroValue129
  t39 := underlying130
  a39 := Try.isAgg130
  z39 := Try.sizeOf130
  v39 := Try.zeroValue130
  t45 := underlying134
  a45 := Try.isAgg134
  z45 := Try.sizeOf134
  v45 := Try.zeroValue134
  t46 := underlying135
  a46 := Try.isAgg135
  z46 := Try.sizeOf135
  v46 := Try.zeroValue135
  t50 := underlying139
  a50 := Try.isAgg139
  z50 := Try.sizeOf139
  v50 := Try.zeroValue139
  t53 := underlying142
  a53 := Try.isAgg142
  z53 := Try.sizeOf142
  v53 := Try.zeroValue142
  t55 := underlying144
  a55 := Try.isAgg144
  z55 := Try.sizeOf144
  v55 := Try.zeroValue144
  t66 := underlying145
  a66 := Try.isAgg145
  z66 := Try.sizeOf145
  v66 := Try.zeroValue145
  t70 := underlying149
  a70 := Try.isAgg149
  z70 := Try.sizeOf149
  v70 := Try.zeroValue149
  t76 := underlying151
  a76 := Try.isAgg151
  z76 := Try.sizeOf151
  v76 := Try.zeroValue151
  t77 := underlying152
  a77 := Try.isAgg152
  z77 := Try.sizeOf152
  v77 := Try.zeroValue152 }
end Go.Proofs.Ytinoedockljfeaa

/- The sort of edges: slices.SortFunc at structs. -/
namespace Go.Proofs.Ytinoedockljfeaa
open Go Go.RowKit Go.Shelf Go.Sort Go.Proofs.Try
set_option maxRecDepth 100000
set_option maxHeartbeats 400000
set_option linter.unusedVariables false
theorem ycF {a b c d : Int} : yc6 a b c d < 0 ↔ a < c ∨ (a = c ∧ b < d) := by
  unfold yc6 orF cmpF
  by_cases h1 : a < c <;> by_cases h2 : c < a <;> by_cases h3 : b < d <;> by_cases h4 : d < b <;> simp [h1, h2, h3, h4] <;> omega
theorem swo_edges : SWO (ltOf fun x y : E3 => yc6 x.1 x.2.1 y.1 y.2.1) := by
  refine ⟨fun a => ?_, fun a b d h1 h2 => ?_, fun a b d h1 h2 => ?_⟩
  · simp only [ltOf, decide_eq_false_iff_not, ycF]; omega
  · simp only [ltOf, decide_eq_true_iff, ycF] at *; omega
  · simp only [ltOf, decide_eq_false_iff_not, ycF] at *; omega
def yef (xs : List E3) (R : List E3 → Prop) : Prop := xs.length ≤ 1000000000 ∧ ∀ zs : List E3, zs.Perm xs → zs.Pairwise (fun a b => ¬ yc6 b.1 b.2.1 a.1 a.2.1 < 0) → R zs
theorem pok_sort_edges {S O : Nat → Prop} {w : World} {xs : List E3} {A : Option Addr} {l c : Nat} {t : TypeId} {R : List E3 → Prop} (h : yef xs R) (hS : Sep w S O w (rl [Res.own c3 t A l c xs])) :
    Calls Try.prog 108 #[.slice A l c, .func (.func 109) #[] #[]] w fun e w' => ∃ z : List E3, e = .returned (.tuple #[]) ∧ Sep w S O w' (rl [Res.own c3 t A l c z]) ∧ R z :=
  (srt_ownK (f := fP (fI .i64) (fP (fI .i64) (fI .i64))) (cf := fun x y : E3 => yc6 x.1 x.2.1 y.1 y.2.1) sortE (fun w => ydm (t := 75) underlying75 rfl w) (fun w => ybp (t := 75) yaX w) swo_edges enter_109 (fun W x y => (edge_order x y W).mono fun e w' ⟨h1, h2⟩ => ⟨h1, h2⟩) h.1 h.2 hS).mono fun e w' ⟨z, h1, h2, h3⟩ => ⟨z, h1, h2, h3⟩
end Go.Proofs.Ytinoedockljfeaa

/- Pure forms of functions, made by program (pf.py), each with the proof that the code does so. -/
namespace Go.Proofs.Ytinoedockljfeaa
open Go Go.RowKit Go.Shelf Go.Proofs.Try
set_option linter.unusedVariables false
set_option maxRecDepth 100000
set_option maxHeartbeats 8000000
def ybU (a : Int) (b : Int) (R : Int → Int → Prop) : Prop :=
R (mnF a b) (mxF a b)
theorem yeA {O : Nat → Prop} {w : World} {a b} {R : Int → Int → Prop} (h : ybU a b R) (hO : ∀ k, O k → k < w.heap.size) :
    Calls Try.prog 97 #[(ii a), (ii b)] w fun e w' => ∃ r r2, e = .returned (.agg #[(ii r), (ii r2)]) ∧ Sep w no O w' (rl []) ∧ R r r2 := by
  unfold ybU at h; have hS : Sep w no O w (rl []) := Sep.start w hO; refine yaq (l := [(ii a), (ii b)]) func97 rfl ntmps97 (Nat.le_of_ble_eq_true rfl) (zs (zn (ybg ybM ?_))); intro g w2 hN; replace hS : Sep w no O w2 (stl _ 0 (Res.box 94 g [(ii 0), (ii 0)])) := hS.new 0 rfl hN; clear hN; refine zb (yaa (zs (zq (zm (ii a)) (zq (zm (ii b)) (zq (v_min2 rfl rfl) (zq (zm (ii a)) (zq (zm (ii b)) (zq (yeR rfl rfl) (zn (ybw (l := [(0, (ii (mnF a b))), (1, (ii (mxF a b)))]) (cells := [(ii (mnF a b)), (ii (mxF a b))]) (places := [(0, 1), (1, 1)]) (bp2 rfl rfl) underlying94 ybM (by kernel_rfl) rfl ?_)))))))))); refine zb (zo (yaJ (b := g) (o := 0) (cells := #[(ii (mnF a b)), (ii (mxF a b))]) rfl rfl ybM rfl rfl (yaC (hS.bx 0 rfl) (Nat.le_of_ble_eq_true rfl)) ?_)); intro w3 e1; replace hS := hS.bstn 0 rfl 0 [(ii (mnF a b)), (ii (mxF a b))] e1; clear e1; exact zb (yaa (yeG rfl (rv_n (vs := [(ii (mnF a b)), (ii (mxF a b))]) rfl underlying94 rfl ybM ⟨Row.cell (hS.bx 0 rfl) (i := 0) rfl, Row.cell (hS.bx 0 rfl) (i := 1) rfl, trivial⟩) ⟨_, _, rfl, (hS.sel [] (by decide)), h⟩))
def ycz (g : Int) (g2 : List E3) (R : Prop) : Prop :=
R
theorem yek {O : Nat → Prop} {w : World} {g g2 Ag lg cg} {R : Prop} (h : ycz g g2 R) (hO : ∀ k, O k → k < w.heap.size) (hA0 : (FP.sl c3 Ag lg cg g2).P O w) :
    Calls Try.prog 89 #[(.agg #[(ii g), (.slice Ag lg cg)])] w fun e w' => ∃ gr, e = .returned (.func (Fn.func 105) #[] #[(.pointer (some (⟨gr, 0, none⟩ : Addr)))]) ∧ Sep w no O w' (rl [Res.box 24 gr [(ii g), (.slice Ag lg cg)]]) ∧ R := by
  unfold ycz at h; have hS : Sep w no O w (rl [Res.ro (FP.sl c3 Ag lg cg g2)]) := Sep.startl hO [(FP.sl c3 Ag lg cg g2)] ⟨hA0, trivial⟩; refine yaq (l := [(.agg #[(ii g), (.slice Ag lg cg)])]) func89 rfl ntmps89 (Nat.le_of_ble_eq_true rfl) (zs (zn (yb5 (v := (.agg #[(ii g), (.slice Ag lg cg)])) rfl ?_))); intro g3 w2 hN; replace hS : Sep w no O w2 (stl _ 1 (Res.box 24 g3 [(ii g), (.slice Ag lg cg)])) := hS.new 1 rfl hN; clear hN; exact zb (zq (za Value.nilFunc) (yaa (zs (zq (yhX (am0) (am1 rfl)) (zq (za (.func (Fn.func 105) #[] #[(.pointer (some (⟨g3, 0, none⟩ : Addr)))])) (yaa (yai rfl rfl ⟨_, rfl, (hS.sel [1] (by decide)), h⟩)))))))
def ybT (m2 : List (List Int × Int)) (n : Int) (R : Int → (List E3) → Prop) : Prop :=
(∃ I2 : Nat → (List E3) → (List Nat) → Prop, (∃ m0, I2 m0 ([]) ([])) ∧ ∀ m3 g4 seen, I2 m3 g4 seen → 
(KOk 2 m2 ∧
((∀ (j : Nat) (ka kb : Int) (kv : Int), m2[j]? = some ([ka, kb], kv) → j ∉ seen →
(g4.length + 1 ≤ 1000000000 ∧
∃ m4, m4 < m3 ∧ I2 m4 (g4 ++ [(ka, kb, kv)]) (seen ++ [j]))) ∧
((∀ j : Nat, j < m2.length → j ∈ seen) →
yef g4 (fun y =>
R n y)))))
theorem ydY {S O : Nat → Prop} {w : World} {m2 n gm} {R : Int → (List E3) → Prop} (h : ybT m2 n R) (hS : Sep w S O w (rl [Res.obj gm (mapO (Value.int .i64) m2)])) :
    Calls Try.prog 98 #[(Value.map (some gm)), (ii n)] w fun e w' => ∃ r r2 Ar lr cr, e = .returned (.agg #[(ii r), (.slice Ar lr cr)]) ∧ Sep w S O w' (rl [Res.obj gm (mapO (Value.int .i64) m2), Res.own c3 75 Ar lr cr r2]) ∧ R r r2 := by
  unfold ybT at h; refine yaq (l := [(Value.map (some gm)), (ii n)]) func98 rfl ntmps98 (Nat.le_of_ble_eq_true rfl) (zs (zn (ybg yan ?_))); intro g w2 hN; replace hS : Sep w S O w2 (stl _ 1 (Res.box 24 g [(ii 0), (.slice none 0 0)])) := hS.new 1 rfl hN; clear hN; refine zb (yaa (zs (zq (zm (ii n)) (zn (ybw (l := [(0, (ii n))]) (cells := [(ii n), (.slice none 0 0)]) (places := [(0, 1), (1, 1)]) (bp1 rfl) underlying24 yan (by kernel_rfl) rfl ?_))))); refine zb (zn (ybg yan ?_)); intro g2 w3 hN; replace hS : Sep w S O w3 (stl _ 2 (Res.box 24 g2 [(ii 0), (.slice none 0 0)])) := hS.new 2 rfl hN; clear hN; refine zb (zo (yaJ (b := g2) (o := 0) (cells := #[(ii n), (.slice none 0 0)]) rfl rfl yan rfl rfl (yaC (hS.bx 2 rfl) (Nat.le_of_ble_eq_true rfl)) ?_)); intro w4 e1; replace hS := hS.bstn 2 rfl 0 [(ii n), (.slice none 0 0)] e1; clear e1; refine zb (yaa (yaf (zs (zq (zm (Value.map (some gm))) (zn (n_range rfl underlying113 (hS.mp 0 rfl) ?_)))))); intro g3 w5 e1 e2; replace hS : Sep w S O w5 (stl _ 3 (Res.obj g3 (mitO gm m2.length ([])))) := hS.newm 3 rfl e1 e2; clear e1 e2; refine zb (yaa (yaj ?_)); replace hS := hS.nil 4 rfl c3 75; obtain ⟨I2, ⟨m0, h0⟩, hr⟩ := h; refine yaO (fun m E ds w' => ∃ g4 seen Ag lg cg, I2 m g4 seen ∧ ds = [] ∧ E 0 = (Value.map (some gm)) ∧ E 4 = (Value.pointer (some (⟨g, 0, none⟩ : Addr))) ∧ E 5 = (Value.pointer (some (⟨g2, 0, none⟩ : Addr))) ∧ E 11 = (Value.pointer (some ⟨g3, 0, none⟩)) ∧ Sep w S O w' (rl [Res.obj gm (mapO (Value.int .i64) m2), Res.box 24 g [(ii 0), (.slice none 0 0)], Res.box 24 g2 [(ii n), (.slice Ag lg cg)], Res.own c3 75 Ag lg cg g4, Res.obj g3 (mitO gm m2.length seen)])) m0 ⟨_, _, _, _, _, h0, rfl, rfl, rfl, rfl, rfl, (hS.sel [0, 1, 2, 4, 3] (by decide))⟩ ?_; clear h0 hS; rintro m3 E ds w6 ⟨g4, seen, Ag, lg, cg, h, rfl, hE0, hE4, hE5, hE11, hS⟩ again; replace h := hr m3 g4 seen h; clear hr; refine zs ?_; obtain ⟨hx, h⟩ := h; refine zn (n_next2 (vE := (Value.int .i64)) (seen := seen) hx hE11 (hS.mp 4 rfl) (hS.mp 0 rfl) ?_ ?_)
  · intro hall; replace h := h.2 hall; clear hall; refine zb (zq (zx (.bool (false))) (yaa (yaf (ya7 rfl (yaL rfl (zs (zq (yao hE5 underlying24 rfl ybN) (zq (zl underlying22 (Row.cell (hS.bx 2 rfl) (i := 1) rfl)) ?_)))))))); have hB := hS.lend (asc [(3, 0)]) [3] (by decide) ⟨.inl (ydv rfl), trivial⟩; refine zn (ycS (vs := #[(.slice Ag lg cg), (.func (Fn.func 109) #[] #[])]) (us := #[]) rfl (am2 rfl rfl) enter_108 ((yaT (by simp) (pok_sort_edges h hB)).mono ?_)); rintro _ w13 ⟨y, rfl, hC, h⟩; replace hS := hS.back (asc [(3, 0)]) (ydy (by decide)) hC; clear hC hB; refine ⟨_, rfl, ?_⟩; refine zb (yaa (zs (zq (yaz (vs := [(ii n), (.slice Ag lg cg)]) hE5 underlying24 rfl yan ⟨Row.cell (hS.bx 2 rfl) (i := 0) rfl, Row.cell (hS.bx 2 rfl) (i := 1) rfl, trivial⟩) (zo (yaJ (b := g) (o := 0) (cells := #[(ii n), (.slice Ag lg cg)]) hE4 rfl yan rfl rfl (yaC (hS.bx 1 rfl) (Nat.le_of_ble_eq_true rfl)) ?_))))); intro w14 e1; replace hS := hS.bstn 1 rfl 0 [(ii n), (.slice Ag lg cg)] e1; clear e1; exact zb (yaa (yeG rfl (rv_n (vs := [(ii n), (.slice Ag lg cg)]) hE4 underlying24 rfl yan ⟨Row.cell (hS.bx 1 rfl) (i := 0) rfl, Row.cell (hS.bx 1 rfl) (i := 1) rfl, trivial⟩) ⟨_, _, _, _, _, rfl, (hS.sel [0, 3] (by decide)), h⟩))
  · intro j ka kb kv w7 hj hns e1 e2; replace h := h.1 j ka kb kv hj hns; replace hS := hS.mst 4 rfl e1 e2; clear e1 e2; refine zb (zq (zx (.bool (true))) (yaa (yaf (yaE rfl (yah (yaj (zs (zq (v_entry (vE := (Value.int .i64)) hj hE11 (hS.mp 4 rfl) (hS.mp 0 rfl)) (zq (zx (.agg #[(ii ka), (ii kb)])) (zq (zx (ii kv)) (zn (ybg ybM ?_)))))))))))); intro g5 w8 hN; replace hS : Sep w S O w8 (stl _ 5 (Res.box 94 g5 [(ii 0), (ii 0)])) := hS.new 5 rfl hN; clear hN; refine zb (zo (yaJ (b := g5) (o := 0) (cells := #[(ii ka), (ii kb)]) rfl rfl ybM rfl rfl (yaC (hS.bx 5 rfl) (Nat.le_of_ble_eq_true rfl)) ?_)); intro w9 e1; replace hS := hS.bstn 5 rfl 0 [(ii ka), (ii kb)] e1; clear e1; refine zb (zq (za (ii kv)) (yaa (zr (zq (yao hE5 underlying24 rfl ybN) (zq (zl underlying22 (Row.cell (hS.bx 2 rfl) (i := 1) rfl)) (zq (yao rfl underlying94 rfl yag) (zq (zl underlying3 (Row.cell (hS.bx 5 rfl) (i := 0) rfl)) (zq (yao rfl underlying94 rfl yag) (zq (zl underlying3 (Row.cell (hS.bx 5 rfl) (i := 1) rfl)) (zq (zm (ii kv)) (zn (ybw (l := [(0, (ii ka)), (1, (ii kb)), (2, (ii kv))]) (cells := [(ii ka), (ii kb), (ii kv)]) (places := [(0, 1), (1, 1), (2, 1)]) (bp3 rfl rfl rfl) underlying75 yaX (by kernel_rfl) rfl ?_)))))))))))); refine zb (zn (yaU (l := [(0, (.agg #[(ii ka), (ii kb), (ii kv)]))]) (cells := [(ii ka), (ii kb), (ii kv)]) (bp1 rfl) underlying22 yaX rfl rfl ?_)); intro g6 w10 hN; replace hS := hS.litf (n := 1) 6 rfl (fP (fI .i64) (fP (fI .i64) (fI .i64))) hN ([(ka, kb, kv)] : List E3) rfl (by decide) rfl; clear hN; refine zb ?_; obtain ⟨hx2, h⟩ := h; refine zn (ydC (c := c3) rfl rfl underlying22 underlying22 yaX rfl rfl (by decide) hS 3 rfl (hS.yo 6 rfl) hx2 ?_); clear hS; intro A c w11 hS; refine zb (zq (yao hE5 underlying24 rfl ybN) (zo (zt (.slice A (lg + 1) c) ybN (hS.bwr 2 rfl (j := 1) rfl) ?_))); intro w12 e1; replace hS := hS.bst 2 rfl 1 (.slice A (lg + 1) c) e1; clear e1; refine zb (yaa (yam ?_)); obtain ⟨mq, hlt, h⟩ := h; exact again mq _ _ _ ⟨_, _, _, _, _, h, rfl, hE0, hE4, hE5, hE11, (hS.sel [0, 1, 2, 3, 4] (by decide))⟩ hlt
def ybB (d : Int) (i : List (Int × Int)) (R : Int → (List E3) → Int → Prop) : Prop :=
(∃ J2 : Prop, (J2 → ((4096 < ((i.length : Nat) : Int) →
R 0 ([]) 5) ∧
(¬ (4096 < ((i.length : Nat) : Int)) →
(∃ I2 : Nat → Int → (List (List Int × Int)) → Prop, (∃ m0, I2 m0 0 ([] : List (List Int × Int))) ∧ ∀ m2 v v2, I2 m2 v v2 → 
((v < ((i.length : Nat) : Int) →
((0 ≤ v ∧ v < ((i.length : Nat) : Int)) ∧
(∃ J3 : Prop, (J3 → (∃ J4 : (List (List Int × Int)) → Prop, (∀ (v3 : List (List Int × Int)), J4 v3 → (In64 (v + 1) ∧
∃ m3, m3 < m2 ∧ I2 m3 (v + 1) v3)) ∧
((0 ≤ (0 : Int) ∧ (0 : Int) < 2) ∧
((0 ≤ (1 : Int) ∧ (1 : Int) < 2) ∧
ybU ((gx i v.toNat).1) ((gx i v.toNat).2) (fun r r2 =>
(((KOk 2 v2 ∧
yeS 2 ([r, r2]) ∧
(In64 (((mget v2 ([r, r2])).getD (0 : Int)) + 1) ∧
J4 (mput v2 ([r, r2]) (((mget v2 ([r, r2])).getD (0 : Int)) + 1))))) ∧
((KOk 2 v2 ∧
yeS 2 ([r, r2]) ∧
(KOk 2 (mput v2 ([r, r2]) ((mget v2 ([r, r2])).getD (0 : Int))) ∧
(In64 (((mget (mput v2 ([r, r2]) ((mget v2 ([r, r2])).getD (0 : Int))) ([r, r2])).getD (0 : Int)) + 1) ∧
J4 (mput v2 ([r, r2]) (((mget (mput v2 ([r, r2]) ((mget v2 ([r, r2])).getD (0 : Int))) ([r, r2])).getD (0 : Int)) + 1)))))))))))) ∧
((0 ≤ (0 : Int) ∧ (0 : Int) < 2) ∧
ya4 d ((gx i v.toNat).1) (fun r3 =>
((r3 = true →
((0 ≤ (1 : Int) ∧ (1 : Int) < 2) ∧
ya4 d ((gx i v.toNat).2) (fun r4 =>
((r4 = true →
J3) ∧
(¬ (r4 = true) →
R 0 ([]) 2))))) ∧
(¬ (r3 = true) →
R 0 ([]) 2))))))) ∧
(¬ (v < ((i.length : Nat) : Int)) →
(∃ I3 : Nat → (List Nat) → Prop, (∃ m0, I3 m0 ([])) ∧ ∀ m4 seen, I3 m4 seen → 
(KOk 2 v2 ∧
((∀ (j4 : Nat) (ka kb : Int) (kv : Int), v2[j4]? = some ([ka, kb], kv) → j4 ∉ seen →
((50 < kv →
R 0 ([]) 5) ∧
(¬ (50 < kv) →
∃ m5, m5 < m4 ∧ I3 m5 (seen ++ [j4])))) ∧
((∀ j : Nat, j < v2.length → j ∈ seen) →
ybT v2 d (fun r5 r6 =>
R r5 r6 0))))))))))) ∧
((d < 1 →
R 0 ([]) 2) ∧
(¬ (d < 1) →
((12 < d →
R 0 ([]) 2) ∧
(¬ (12 < d) →
J2)))))
theorem yc5 {O : Nat → Prop} {w : World} {d i Ai li ci} {R : Int → (List E3) → Int → Prop} (h : ybB d i R) (hO : ∀ k, O k → k < w.heap.size) (hA0 : (FP.sl c2 Ai li ci i).P O w) :
    Calls Try.prog 69 #[(ii d), (.slice Ai li ci)] w fun e w' => ∃ r7 r8 r9 Ar2 lr2 cr2, e = .returned (.tuple #[(.agg #[(ii r7), (.slice Ar2 lr2 cr2)]), (ii r9)]) ∧ Sep w no O w' (rl [Res.own c3 75 Ar2 lr2 cr2 r8]) ∧ R r7 r8 r9 := by
  unfold ybB at h; have hS : Sep w no O w (rl [Res.ro (FP.sl c2 Ai li ci i)]) := Sep.startl hO [(FP.sl c2 Ai li ci i)] ⟨hA0, trivial⟩; refine yaq (l := [(ii d), (.slice Ai li ci)]) func69 rfl ntmps69 (Nat.le_of_ble_eq_true rfl) (zs (zn (ybg yan ?_))); intro g w2 hN; replace hS : Sep w no O w2 (stl _ 1 (Res.box 24 g [(ii 0), (.slice none 0 0)])) := hS.new 1 rfl hN; clear hN; refine zb (zq (za (ii 0)) (yaa (yaf (yaf ?_)))); obtain ⟨J2, hJ, h⟩ := h; refine ycZ (fun E ds w' => J2 ∧ ds = [] ∧ E 0 = (ii d) ∧ E 1 = (Value.slice Ai li ci) ∧ E 4 = (Value.pointer (some (⟨g, 0, none⟩ : Addr))) ∧ Sep w no O w' (rl [Res.ro (FP.sl c2 Ai li ci i), Res.box 24 g [(ii 0), (.slice none 0 0)]])) ?_ ?_
  · clear h hS; rintro E ds w3 ⟨h, rfl, hE0, hE1, hE4, hS⟩; replace h := hJ h; refine yaf (zs (zq (yae hE1) (zq (yay (n := i.length) rfl underlying46 (yav (hS.rdr 0 rfl))) (zq zG (yaa ?_))))); by_cases hp : 4096 < ((i.length : Nat) : Int)
    · replace h := h.1 hp; refine zc hp (zs (zn (ybw (l := []) (cells := [(ii 0), (.slice none 0 0)]) (places := [(0, 1), (1, 1)]) (bp0) underlying24 yan (by kernel_rfl) rfl ?_))); refine zb (zo (yaJ (b := g) (o := 0) (cells := #[(ii 0), (.slice none 0 0)]) hE4 rfl yan rfl rfl (yaC (hS.bx 1 rfl) (Nat.le_of_ble_eq_true rfl)) ?_)); intro w4 e1; replace hS := hS.bstn 1 rfl 0 [(ii 0), (.slice none 0 0)] e1; clear e1; refine zb (zq (za (ii 5)) (yaa ?_)); replace hS := hS.nil 2 rfl c3 75; exact ych rfl (rv_n (vs := [(ii 0), (.slice none 0 0)]) hE4 underlying24 rfl yan ⟨Row.cell (hS.bx 1 rfl) (i := 0) rfl, Row.cell (hS.bx 1 rfl) (i := 1) rfl, trivial⟩) (rv_t rfl) ⟨_, _, _, _, _, _, rfl, (hS.sel [2] (by decide)), h⟩
    · replace h := h.2 hp; refine zd hp (yah (zs (zn (n_mkmap (vE := (Value.int .i64)) rfl ?_)))); intro g2 w5 e1 e2; replace hS : Sep w no O w5 (stl _ 2 (Res.obj g2 (mapO (Value.int .i64) ([] : List (List Int × Int))))) := hS.newm 2 rfl e1 e2; clear e1 e2; refine zb (zq (za (Value.map (some g2))) (yaa (yaf (zs (zq (yae hE1) (zq (yay (n := i.length) rfl underlying46 (yav (hS.rdr 0 rfl))) (zq (zm (ii 0)) (yaa (yaj ?_))))))))); obtain ⟨I2, ⟨m0, h0⟩, hr⟩ := h; refine yaO (fun m E ds w' => ∃ v v2, I2 m v v2 ∧ ds = [] ∧ E 0 = (ii d) ∧ E 4 = (Value.pointer (some (⟨g, 0, none⟩ : Addr))) ∧ E 6 = (Value.map (some g2)) ∧ E 23 = (Value.slice Ai li ci) ∧ E 24 = (ii ((i.length : Nat) : Int)) ∧ E 25 = (ii v) ∧ Sep w no O w' (rl [Res.box 24 g [(ii 0), (.slice none 0 0)], Res.obj g2 (mapO (Value.int .i64) v2), Res.ro (FP.sl c2 Ai li ci i)])) m0 ⟨_, _, h0, rfl, hE0, hE4, rfl, rfl, rfl, rfl, (hS.sel [1, 2, 0] (by decide))⟩ ?_; clear h0 hS; rintro m2 E ds w6 ⟨v, v2, h, rfl, hE0, hE4, hE6, hE23, hE24, hE25, hS⟩ again; replace h := hr m2 v v2 h; clear hr; refine zs (zq (ycI hE25 hE24) (yaa (yaf ?_))); by_cases hp2 : v < ((i.length : Nat) : Int)
      · replace h := h.1 hp2; refine zc hp2 (yah (yaf (yaj (zs ?_)))); obtain ⟨hx, h⟩ := h; refine zq (ycn hE23 hE25 underlying46 yal (yaN (hS.rdr 2 rfl) hx)) (zq (yaz (vs := [(ii ((gx i v.toNat).1)), (ii ((gx i v.toNat).2))]) rfl underlying45 rfl yal (ydN (hS.rdr 2 rfl) hx (fun q => yaS q))) ?_); refine zn (ybg yal ?_); intro g3 w7 hN; replace hS : Sep w no O w7 (stl _ 3 (Res.box 45 g3 [(ii 0), (ii 0)])) := hS.new 3 rfl hN; clear hN; refine zb (zo (yaJ (b := g3) (o := 0) (cells := #[(ii ((gx i v.toNat).1)), (ii ((gx i v.toNat).2))]) rfl rfl yal rfl rfl (yaC (hS.bx 3 rfl) (Nat.le_of_ble_eq_true rfl)) ?_)); intro w8 e1; replace hS := hS.bstn 3 rfl 0 [(ii ((gx i v.toNat).1)), (ii ((gx i v.toNat).2))] e1; clear e1; refine zb (yaa (yaf (yaf ?_))); obtain ⟨J3, hJ, h⟩ := h; refine ycZ (fun E ds w' => J3 ∧ ds = [] ∧ E 0 = (ii d) ∧ E 4 = (Value.pointer (some (⟨g, 0, none⟩ : Addr))) ∧ E 6 = (Value.map (some g2)) ∧ E 8 = (Value.pointer (some (⟨g3, 0, none⟩ : Addr))) ∧ E 23 = (Value.slice Ai li ci) ∧ E 24 = (ii ((i.length : Nat) : Int)) ∧ E 25 = (ii v) ∧ Sep w no O w' (rl [Res.box 24 g [(ii 0), (.slice none 0 0)], Res.obj g2 (mapO (Value.int .i64) v2), Res.box 45 g3 [(ii ((gx i v.toNat).1)), (ii ((gx i v.toNat).2))], Res.ro (FP.sl c2 Ai li ci i)])) ?_ ?_
        · clear h hS; rintro E ds w9 ⟨h, rfl, hE0, hE4, hE6, hE8, hE23, hE24, hE25, hS⟩; replace h := hJ h; obtain ⟨J4, hJ, h⟩ := h; refine yeZ (fun E ds w' => ∃ v3, J4 v3 ∧ ds = [] ∧ E 0 = (ii d) ∧ E 4 = (Value.pointer (some (⟨g, 0, none⟩ : Addr))) ∧ E 6 = (Value.map (some g2)) ∧ E 23 = (Value.slice Ai li ci) ∧ E 24 = (ii ((i.length : Nat) : Int)) ∧ E 25 = (ii v) ∧ Sep w no O w' (rl [Res.box 24 g [(ii 0), (.slice none 0 0)], Res.obj g2 (mapO (Value.int .i64) v3), Res.ro (FP.sl c2 Ai li ci i)])) ?_ ?_
          · clear h hS; rintro E ds w10 ⟨v3, h, rfl, hE0, hE4, hE6, hE23, hE24, hE25, hS⟩; replace h := hJ v3 h; refine yam (zr ?_); obtain ⟨hi, h⟩ := h; refine zq (ycv hE25 rfl hi) (zq (zm (ii (v + 1))) (yaa ?_)); obtain ⟨mq, hlt, h⟩ := h; exact again mq _ _ _ ⟨_, _, h, rfl, hE0, hE4, hE6, hE23, hE24, rfl, (hS.sel [0, 1, 2] (by decide))⟩ hlt
          clear hJ; intro j3; refine wp_draw3 6 8 [0, 1, 2, 3, 4, 5] [6, 7, 8, 9, 10] [8, 9, 6, 7, 10] (fun i => match i with | 5 => [0] | _ => []) (fun i => match i with | 5 => [0] | 8 => [7] | _ => []) (fun i => match i with | 5 => [0] | 6 => [9] | _ => []) yar (by kernel_rfl) (by kernel_rfl) ?_; replace hS := hS.drew; refine zp (yae hE6) ?_; obtain ⟨hx2, h⟩ := h; refine zp (yaA hE8 rfl underlying45 yag hx2) (zp (zl underlying3 (Row.cell (hS.bx 2 rfl) (i := 0) rfl)) ?_); obtain ⟨hx3, h⟩ := h; refine zp (yaA hE8 rfl underlying45 yag hx3) (zp (zl underlying3 (Row.cell (hS.bx 2 rfl) (i := 1) rfl)) (rp_n rfl rfl rfl rfl (yak rfl (am2 rfl rfl) enter_97 ((yeA h (yaF _)).mono ?_)))); rintro _ w11 ⟨r, r2, rfl, hC, h⟩; replace hS := hS.pur hC.pure; clear hC; refine ⟨_, rfl, ?_⟩; refine ⟨⟨fun hh => Bool.noConfusion (show false = true from hh), ⟨fun hh => Bool.noConfusion (show false = true from hh), ⟨fun hh => Bool.noConfusion (show false = true from hh), ⟨fun hh => Bool.noConfusion (show false = true from hh), ⟨fun _ => (yae hE6), trivial⟩⟩⟩⟩⟩, ?_⟩; refine rp_fork rfl rfl ?_ ?_
          · replace h := h.1; obtain ⟨hx4, h⟩ := h; obtain ⟨hx5, h⟩ := h; refine rp_n rfl rfl rfl rfl (n_val (v_mget1 (vE := (Value.int .i64)) (x0 := (0 : Int)) (keyt_94) hx4 hx5 rfl rfl underlying113 yag (hS.mp 1 rfl)) ?_); refine zb ?_; obtain ⟨hi2, h⟩ := h; refine zp (zA hi2) (rp_n rfl rfl rfl rfl (n_mentryX (vE := (Value.int .i64)) (x0 := (0 : Int)) (keyt_94) hx4 hx5 rfl rfl underlying113 yag (hS.mp 1 rfl) ?_)); intro w12 e1 e2; replace hS := hS.mst 1 rfl e1 e2; clear e1 e2; refine ⟨⟨fun _ => (zA hi2), trivial⟩, ?_⟩; refine zp (zx (ii ((mix v2 ([r, r2]) : Nat) : Int))) (ygr rfl rfl rfl (n_estoreX (vE := (Value.int .i64)) (v := (((mget v2 ([r, r2])).getD (0 : Int)) + 1)) rfl rfl rfl (hS.mp 1 rfl) ?_)); intro w13 e1 e2; replace hS := hS.mst 1 rfl e1 e2; clear e1 e2; exact zb (ybk (j3 _ _ _ ⟨_, h, rfl, hE0, hE4, hE6, hE23, hE24, hE25, (hS.sel [0, 1, 3] (by decide))⟩))
          · replace h := h.2; obtain ⟨hx6, h⟩ := h; obtain ⟨hx7, h⟩ := h; refine rp_n rfl rfl rfl rfl (n_mentryX (vE := (Value.int .i64)) (x0 := (0 : Int)) (keyt_94) hx6 hx7 rfl rfl underlying113 yag (hS.mp 1 rfl) ?_); intro w14 e1 e2; replace hS := hS.mst 1 rfl e1 e2; clear e1 e2; refine zb (zp (zx (ii ((mix v2 ([r, r2]) : Nat) : Int))) ?_); obtain ⟨hx8, h⟩ := h; refine rp_n rfl rfl rfl rfl (n_val (v_mget1 (vE := (Value.int .i64)) (x0 := (0 : Int)) (keyt_94) hx8 hx7 rfl rfl underlying113 yag (hS.mp 1 rfl)) ?_); refine ⟨⟨fun _ => (zx (ii ((mix v2 ([r, r2]) : Nat) : Int))), trivial⟩, ?_⟩; obtain ⟨hi3, h⟩ := h; refine zp (zA hi3) (ygr rfl rfl rfl (n_estoreX (vE := (Value.int .i64)) (v := (((mget (mput v2 ([r, r2]) ((mget v2 ([r, r2])).getD (0 : Int))) ([r, r2])).getD (0 : Int)) + 1)) rfl rfl rfl (hS.mp 1 rfl) ?_)); intro w15 e1 e2; replace hS := hS.mst 1 rfl e1 e2; clear e1 e2; exact zb (ybk (j3 _ _ _ ⟨_, h, rfl, hE0, hE4, hE6, hE23, hE24, hE25, (hS.sel [0, 1, 3] (by decide))⟩))
        clear hJ; intro j2; refine zr (zq (yae hE0) ?_); obtain ⟨hx9, h⟩ := h; refine zq (yaA rfl rfl underlying45 yag hx9) (zq (zl underlying3 (Row.cell (hS.bx 3 rfl) (i := 0) rfl)) (zn (yak rfl (am2 rfl rfl) yeH ((yca h (yaF _)).mono ?_)))); rintro _ w16 ⟨r3, rfl, hC, h⟩; replace hS := hS.pur hC.pure; clear hC; refine ⟨_, rfl, ?_⟩; refine zb (zq (ygz rfl) (zq (zm (.bool (!(r3)))) ?_)); by_cases hp3 : r3 = true
        · replace h := h.1 hp3; refine rl_q (yad rfl (yac rfl (congrArg Value.bool (congrArg Bool.not hp3)))) rfl rfl (yae hE0) ?_; obtain ⟨hx10, h⟩ := h; refine rl_q (yad rfl (yac rfl (congrArg Value.bool (congrArg Bool.not hp3)))) rfl rfl (yaA rfl rfl underlying45 yag hx10) (rl_q (yad rfl (yac rfl (congrArg Value.bool (congrArg Bool.not hp3)))) rfl rfl (zl underlying3 (Row.cell (hS.bx 3 rfl) (i := 1) rfl)) (rl_n (yad rfl (yac rfl (congrArg Value.bool (congrArg Bool.not hp3)))) rfl rfl rfl (yak rfl (am2 rfl rfl) yeH ((yca h (yaF _)).mono ?_)))); rintro _ w17 ⟨r4, rfl, hC, h⟩; replace hS := hS.pur hC.pure; clear hC; refine ⟨_, rfl, ?_⟩; refine zb (rl_q (yad rfl (yac rfl (congrArg Value.bool (congrArg Bool.not hp3)))) rfl rfl (ygz rfl) (zq (yap (v := (.bool (!(r4)))) (congrArg Value.bool (congrArg Bool.not hp3)) rfl) (yaa ?_))); by_cases hp4 : r4 = true
          · replace h := h.1 hp4; exact ya7 (congrArg Value.bool (congrArg Bool.not hp4)) (yah (j2 _ _ _ ⟨h, rfl, hE0, hE4, hE6, rfl, hE23, hE24, hE25, (hS.sel [0, 1, 3, 2] (by decide))⟩))
          · replace h := h.2 hp4; refine yaE (congrArg Value.bool (congrArg Bool.not (Bool.eq_false_iff.2 hp4))) (zs (zn (ybw (l := []) (cells := [(ii 0), (.slice none 0 0)]) (places := [(0, 1), (1, 1)]) (bp0) underlying24 yan (by kernel_rfl) rfl ?_))); refine zb (zo (yaJ (b := g) (o := 0) (cells := #[(ii 0), (.slice none 0 0)]) hE4 rfl yan rfl rfl (yaC (hS.bx 0 rfl) (Nat.le_of_ble_eq_true rfl)) ?_)); intro w18 e1; replace hS := hS.bstn 0 rfl 0 [(ii 0), (.slice none 0 0)] e1; clear e1; refine zb (zq (za (ii 2)) (yaa ?_)); replace hS := hS.nil 4 rfl c3 75; exact ych rfl (rv_n (vs := [(ii 0), (.slice none 0 0)]) hE4 underlying24 rfl yan ⟨Row.cell (hS.bx 0 rfl) (i := 0) rfl, Row.cell (hS.bx 0 rfl) (i := 1) rfl, trivial⟩) (rv_t rfl) ⟨_, _, _, _, _, _, rfl, (hS.sel [4] (by decide)), h⟩
        · replace h := h.2 hp3; refine rl_p (yab rfl (yac rfl (congrArg Value.bool (congrArg Bool.not (Bool.eq_false_iff.2 hp3)))) rfl) rfl (rl_p (yab rfl (yac rfl (congrArg Value.bool (congrArg Bool.not (Bool.eq_false_iff.2 hp3)))) rfl) rfl (rl_p (yab rfl (yac rfl (congrArg Value.bool (congrArg Bool.not (Bool.eq_false_iff.2 hp3)))) rfl) rfl (rl_p (yab rfl (yac rfl (congrArg Value.bool (congrArg Bool.not (Bool.eq_false_iff.2 hp3)))) rfl) rfl (rl_p (yab rfl (yac rfl (congrArg Value.bool (congrArg Bool.not (Bool.eq_false_iff.2 hp3)))) rfl) rfl (zq (yaw (v := (.bool (true))) (congrArg Value.bool (congrArg Bool.not (Bool.eq_false_iff.2 hp3))) rfl) (yaa (yaE rfl (zs (zn (ybw (l := []) (cells := [(ii 0), (.slice none 0 0)]) (places := [(0, 1), (1, 1)]) (bp0) underlying24 yan (by kernel_rfl) rfl ?_)))))))))); refine zb (zo (yaJ (b := g) (o := 0) (cells := #[(ii 0), (.slice none 0 0)]) hE4 rfl yan rfl rfl (yaC (hS.bx 0 rfl) (Nat.le_of_ble_eq_true rfl)) ?_)); intro w19 e1; replace hS := hS.bstn 0 rfl 0 [(ii 0), (.slice none 0 0)] e1; clear e1; refine zb (zq (za (ii 2)) (yaa ?_)); replace hS := hS.nil 4 rfl c3 75; exact ych rfl (rv_n (vs := [(ii 0), (.slice none 0 0)]) hE4 underlying24 rfl yan ⟨Row.cell (hS.bx 0 rfl) (i := 0) rfl, Row.cell (hS.bx 0 rfl) (i := 1) rfl, trivial⟩) (rv_t rfl) ⟨_, _, _, _, _, _, rfl, (hS.sel [4] (by decide)), h⟩
      · replace h := h.2 hp2; refine zd hp2 (yaL rfl (yaf (zs (zq (yae hE6) (zn (n_range rfl underlying113 (hS.mp 1 rfl) ?_)))))); intro g4 w20 e1 e2; replace hS : Sep w no O w20 (stl _ 3 (Res.obj g4 (mitO g2 v2.length ([])))) := hS.newm 3 rfl e1 e2; clear e1 e2; refine zb (yaa (yaj ?_)); obtain ⟨I3, ⟨m0, h0⟩, hr⟩ := h; refine yaO (fun m E ds w' => ∃ seen, I3 m seen ∧ ds = [] ∧ E 0 = (ii d) ∧ E 4 = (Value.pointer (some (⟨g, 0, none⟩ : Addr))) ∧ E 6 = (Value.map (some g2)) ∧ E 54 = (Value.pointer (some ⟨g4, 0, none⟩)) ∧ Sep w no O w' (rl [Res.box 24 g [(ii 0), (.slice none 0 0)], Res.obj g2 (mapO (Value.int .i64) v2), Res.obj g4 (mitO g2 v2.length seen)])) m0 ⟨_, h0, rfl, hE0, hE4, hE6, rfl, (hS.sel [0, 1, 3] (by decide))⟩ ?_; clear h0 hS; rintro m4 E ds w21 ⟨seen, h, rfl, hE0, hE4, hE6, hE54, hS⟩ again2; replace h := hr m4 seen h; clear hr; refine zs ?_; obtain ⟨hx11, h⟩ := h; refine zn (n_next2 (vE := (Value.int .i64)) (seen := seen) hx11 hE54 (hS.mp 2 rfl) (hS.mp 1 rfl) ?_ ?_)
        · intro hall; replace h := h.2 hall; clear hall; refine zb (zq (zx (.bool (false))) (yaa (yaf (ya7 rfl (yaL rfl (zs (zq (yae hE6) (zq (yae hE0) ?_)))))))); have hB := hS.lend (asc [(1, 0), (3, 1)]) [1] (by decide) ⟨.inl (ydv rfl), trivial⟩; refine zn (ycS (vs := #[(Value.map (some g2)), (ii d)]) (us := #[]) rfl (am2 rfl rfl) enter_98 ((yaT (by simp) (ydY h hB)).mono ?_)); rintro _ w24 ⟨r5, r6, Ar, lr, cr, rfl, hC, h⟩; replace hS := hS.back (asc [(1, 0), (3, 1)]) (ydy (by decide)) hC; clear hC hB; refine ⟨_, rfl, ?_⟩; refine zb (zo (yaJ (b := g) (o := 0) (cells := #[(ii r5), (.slice Ar lr cr)]) hE4 rfl yan rfl rfl (yaC (hS.bx 0 rfl) (Nat.le_of_ble_eq_true rfl)) ?_)); intro w25 e1; replace hS := hS.bstn 0 rfl 0 [(ii r5), (.slice Ar lr cr)] e1; clear e1; exact zb (zq (za (ii 0)) (yaa (ych rfl (rv_n (vs := [(ii r5), (.slice Ar lr cr)]) hE4 underlying24 rfl yan ⟨Row.cell (hS.bx 0 rfl) (i := 0) rfl, Row.cell (hS.bx 0 rfl) (i := 1) rfl, trivial⟩) (rv_t rfl) ⟨_, _, _, _, _, _, rfl, (hS.sel [3] (by decide)), h⟩)))
        · intro j4 ka kb kv w22 hj hns e1 e2; replace h := h.1 j4 ka kb kv hj hns; replace hS := hS.mst 2 rfl e1 e2; clear e1 e2; refine zb (zq (zx (.bool (true))) (yaa (yaf (yaE rfl (yah (yaj (zs (zq (v_entry (vE := (Value.int .i64)) hj hE54 (hS.mp 2 rfl) (hS.mp 1 rfl)) (zq (zx (ii kv)) (zq (za (ii kv)) (yaa (zs (zq (zm (ii kv)) (zq zG (yaa ?_))))))))))))))); by_cases hp5 : 50 < kv
          · replace h := h.1 hp5; refine zc hp5 (zs (zn (ybw (l := []) (cells := [(ii 0), (.slice none 0 0)]) (places := [(0, 1), (1, 1)]) (bp0) underlying24 yan (by kernel_rfl) rfl ?_))); refine zb (zo (yaJ (b := g) (o := 0) (cells := #[(ii 0), (.slice none 0 0)]) hE4 rfl yan rfl rfl (yaC (hS.bx 0 rfl) (Nat.le_of_ble_eq_true rfl)) ?_)); intro w23 e1; replace hS := hS.bstn 0 rfl 0 [(ii 0), (.slice none 0 0)] e1; clear e1; refine zb (zq (za (ii 5)) (yaa ?_)); replace hS := hS.nil 3 rfl c3 75; exact ych rfl (rv_n (vs := [(ii 0), (.slice none 0 0)]) hE4 underlying24 rfl yan ⟨Row.cell (hS.bx 0 rfl) (i := 0) rfl, Row.cell (hS.bx 0 rfl) (i := 1) rfl, trivial⟩) (rv_t rfl) ⟨_, _, _, _, _, _, rfl, (hS.sel [3] (by decide)), h⟩
          · replace h := h.2 hp5; refine zd hp5 (yah (yam ?_)); obtain ⟨mq, hlt, h⟩ := h; exact again2 mq _ _ _ ⟨_, h, rfl, hE0, hE4, hE6, hE54, (hS.sel [0, 1, 2] (by decide))⟩ hlt
  clear hJ; intro j; refine zr (zq (zm (ii d)) (zq zL (zq (zm (.bool (decide (d < 1)))) ?_))); by_cases hp6 : d < 1
  · replace h := h.1 hp6; refine rl_p (yab rfl (yac rfl (congrArg Value.bool (decide_eq_true hp6))) rfl) rfl (rl_p (yab rfl (yac rfl (congrArg Value.bool (decide_eq_true hp6))) rfl) rfl (zq (yaw (v := (.bool (true))) (congrArg Value.bool (decide_eq_true hp6)) rfl) (yaa (yaE rfl (zs (zn (ybw (l := []) (cells := [(ii 0), (.slice none 0 0)]) (places := [(0, 1), (1, 1)]) (bp0) underlying24 yan (by kernel_rfl) rfl ?_))))))); refine zb (zo (yaJ (b := g) (o := 0) (cells := #[(ii 0), (.slice none 0 0)]) rfl rfl yan rfl rfl (yaC (hS.bx 1 rfl) (Nat.le_of_ble_eq_true rfl)) ?_)); intro w26 e1; replace hS := hS.bstn 1 rfl 0 [(ii 0), (.slice none 0 0)] e1; clear e1; refine zb (zq (za (ii 2)) (yaa ?_)); replace hS := hS.nil 2 rfl c3 75; exact ych rfl (rv_n (vs := [(ii 0), (.slice none 0 0)]) rfl underlying24 rfl yan ⟨Row.cell (hS.bx 1 rfl) (i := 0) rfl, Row.cell (hS.bx 1 rfl) (i := 1) rfl, trivial⟩) (rv_t rfl) ⟨_, _, _, _, _, _, rfl, (hS.sel [2] (by decide)), h⟩
  · replace h := h.2 hp6; refine rl_q (yad rfl (yac rfl (congrArg Value.bool (decide_eq_false hp6)))) rfl rfl (zm (ii d)) (rl_q (yad rfl (yac rfl (congrArg Value.bool (decide_eq_false hp6)))) rfl rfl zG (zq (yap (v := (.bool (decide (12 < d)))) (congrArg Value.bool (decide_eq_false hp6)) rfl) (yaa ?_))); by_cases hp7 : 12 < d
    · replace h := h.1 hp7; refine zc hp7 (zs (zn (ybw (l := []) (cells := [(ii 0), (.slice none 0 0)]) (places := [(0, 1), (1, 1)]) (bp0) underlying24 yan (by kernel_rfl) rfl ?_))); refine zb (zo (yaJ (b := g) (o := 0) (cells := #[(ii 0), (.slice none 0 0)]) rfl rfl yan rfl rfl (yaC (hS.bx 1 rfl) (Nat.le_of_ble_eq_true rfl)) ?_)); intro w27 e1; replace hS := hS.bstn 1 rfl 0 [(ii 0), (.slice none 0 0)] e1; clear e1; refine zb (zq (za (ii 2)) (yaa ?_)); replace hS := hS.nil 2 rfl c3 75; exact ych rfl (rv_n (vs := [(ii 0), (.slice none 0 0)]) rfl underlying24 rfl yan ⟨Row.cell (hS.bx 1 rfl) (i := 0) rfl, Row.cell (hS.bx 1 rfl) (i := 1) rfl, trivial⟩) (rv_t rfl) ⟨_, _, _, _, _, _, rfl, (hS.sel [2] (by decide)), h⟩
    · replace h := h.2 hp7; exact zd hp7 (yah (j _ _ _ ⟨h, rfl, rfl, rfl, rfl, (hS.sel [0, 1] (by decide))⟩))
def ybC (cap : Int) (cap2 : List E3) (Pr R : List E3 → Prop) : Prop :=
(∃ I2 : Nat → (List E3) → Int → Int → Prop, (∃ m0, I2 m0 ([]) 0 0) ∧ ∀ m2 pre2 e2 v, I2 m2 pre2 e2 v → 
((v < ((cap2.length : Nat) : Int) →
((0 ≤ v ∧ v < ((cap2.length : Nat) : Int)) ∧
(∃ I3 : Nat → (List E3) → Int → Int → Prop, (∃ m0, I3 m0 pre2 e2 0) ∧ ∀ m3 pre3 e3 v2, I3 m3 pre3 e3 v2 → 
((v2 < ((ge cap2 v.toNat).2.2) →
(Pr (pre3 ++ [(e3, (ge cap2 v.toNat).1, (ge cap2 v.toNat).2.1)]) ∧
((In64 (e3 + 1) ∧
(In64 (v2 + 1) ∧
∃ m4, m4 < m3 ∧ I3 m4 (pre3 ++ [(e3, (ge cap2 v.toNat).1, (ge cap2 v.toNat).2.1)]) (e3 + 1) (v2 + 1))) ∧
True))) ∧
(¬ (v2 < ((ge cap2 v.toNat).2.2)) →
(In64 (v + 1) ∧
∃ m5, m5 < m2 ∧ I2 m5 pre3 e3 (v + 1))))))) ∧
(¬ (v < ((cap2.length : Nat) : Int)) →
R pre2)))
theorem ydU {w : World} {T0 G0 : BS} {cap cap2 gc Acap lcap ccap} {Pr R : List E3 → Prop} (h : ybC cap cap2 Pr R) (hS0 : Sep w G0 T0 w (rl [Res.box 24 gc [(Value.int .i64 cap), (Value.slice Acap lcap ccap)], Res.ro (FP.sl c3 Acap lcap ccap cap2)])) :
    GenSays Try.prog 105 #[(.pointer (some (⟨gc, 0, none⟩ : Addr)))] (fun (x : E3) => #[(ii x.1), (.agg #[(ii x.2.1), (ii x.2.2)])]) (fun _ => FP.tt) Pr R T0 G0 w := by
  unfold ybC at h; intro l J Jx T1 w1 hs hJ hp hT; obtain ⟨G, hJ, hS⟩ := gen_start hS0 hs hJ hp hT; clear hS0 hp hT; refine callsIn_gen (l := [(.func (.yield l) #[] #[]), (.pointer (some (⟨gc, 0, none⟩ : Addr)))]) func105 rfl ntmps105 (Nat.le_of_ble_eq_true rfl) rfl (zs (zq (za (ii 0)) (yaa (zs (zq (yao rfl underlying24 rfl ybN) (zq (zl underlying22 (Row.cell (hS.bx 0 rfl) (i := 1) rfl)) (zq (yay (n := cap2.length) rfl underlying22 (yav (hS.rdr 1 rfl))) (zq (zm (ii 0)) (yaa (yaj ?_)))))))))); obtain ⟨I2, ⟨m0, h0⟩, hr⟩ := h; refine yaO (fun m E ds w' => ∃ pre2 e2 v, ∃ T2 : BS, ∃ G2 : BS, ∃ wb2 : World, I2 m pre2 e2 v ∧ ds = [] ∧ E 0 = (Value.func (.yield l) #[] #[]) ∧ E 3 = (ii e2) ∧ E 7 = (Value.slice Acap lcap ccap) ∧ E 8 = (ii ((cap2.length : Nat) : Int)) ∧ E 9 = (ii v) ∧ J T2 G2 pre2 wb2 ∧ Sep wb2 G2 T2 w' (rl [Res.ro (FP.sl c3 Acap lcap ccap cap2)])) m0 ⟨_, _, _, _, _, _, h0, rfl, rfl, rfl, rfl, rfl, rfl, hJ, (hS.sel [1] (by decide))⟩ ?_; clear h0 hS hJ; rintro m2 E ds w2 ⟨pre2, e2, v, T2, G2, wb2, h, rfl, hE0, hE3, hE7, hE8, hE9, hJ, hS⟩ again; replace h := hr m2 pre2 e2 v h; clear hr; refine zs (zq (ycI hE9 hE8) (yaa (yaf ?_))); by_cases hp : v < ((cap2.length : Nat) : Int)
  · replace h := h.1 hp; refine zc hp (yah (yaf (yaj (zs ?_)))); obtain ⟨hx, h⟩ := h; refine zq (ycn hE7 hE9 underlying22 yaX (yaN (hS.rdr 0 rfl) hx)) (zq (yaz (vs := [(ii ((ge cap2 v.toNat).1)), (ii ((ge cap2 v.toNat).2.1)), (ii ((ge cap2 v.toNat).2.2))]) rfl underlying75 rfl yaX (ydN (hS.rdr 0 rfl) hx (fun q => ycW q))) ?_); refine zn (ybg yaX ?_); intro g w3 hN; replace hS : Sep wb2 G2 T2 w3 (stl _ 1 (Res.box 75 g [(ii 0), (ii 0), (ii 0)])) := hS.new 1 rfl hN; clear hN; refine zb (zo (yaJ (b := g) (o := 0) (cells := #[(ii ((ge cap2 v.toNat).1)), (ii ((ge cap2 v.toNat).2.1)), (ii ((ge cap2 v.toNat).2.2))]) rfl rfl yaX rfl rfl (yaC (hS.bx 1 rfl) (Nat.le_of_ble_eq_true rfl)) ?_)); intro w4 e1; replace hS := hS.bstn 1 rfl 0 [(ii ((ge cap2 v.toNat).1)), (ii ((ge cap2 v.toNat).2.1)), (ii ((ge cap2 v.toNat).2.2))] e1; clear e1; refine zb (yaa (zs (zq (yao rfl underlying75 rfl yag) (zq (zl underlying3 (Row.cell (hS.bx 1 rfl) (i := 2) rfl)) (zq (zm (ii 0)) (yaa (yaj ?_))))))); obtain ⟨I3, ⟨m0, h0⟩, hr⟩ := h; refine yaO (fun m E ds w' => ∃ pre3 e3 v2, ∃ T3 : BS, ∃ G3 : BS, ∃ wb3 : World, I3 m pre3 e3 v2 ∧ ds = [] ∧ E 0 = (Value.func (.yield l) #[] #[]) ∧ E 3 = (ii e3) ∧ E 5 = (Value.pointer (some (⟨g, 0, none⟩ : Addr))) ∧ E 7 = (Value.slice Acap lcap ccap) ∧ E 8 = (ii ((cap2.length : Nat) : Int)) ∧ E 9 = (ii v) ∧ E 14 = (ii ((ge cap2 v.toNat).2.2)) ∧ E 15 = (ii v2) ∧ J T3 G3 pre3 wb3 ∧ Sep wb3 G3 T3 w' (rl [Res.box 75 g [(ii ((ge cap2 v.toNat).1)), (ii ((ge cap2 v.toNat).2.1)), (ii ((ge cap2 v.toNat).2.2))], Res.ro (FP.sl c3 Acap lcap ccap cap2)])) m0 ⟨_, _, _, _, _, _, h0, rfl, hE0, hE3, rfl, hE7, hE8, hE9, rfl, rfl, hJ, (hS.sel [1, 0] (by decide))⟩ ?_; clear h0 hS hJ; rintro m3 E ds w5 ⟨pre3, e3, v2, T3, G3, wb3, h, rfl, hE0, hE3, hE5, hE7, hE8, hE9, hE14, hE15, hJ, hS⟩ again2; replace h := hr m3 pre3 e3 v2 h; clear hr; refine zs (zq (ycI hE15 hE14) (yaa (yaf ?_))); by_cases hp2 : v2 < ((ge cap2 v.toNat).2.2)
    · replace h := h.1 hp2; refine zc hp2 (yah (yaf (yaj (yaf (zs (zq (yae hE0) (zq (yae hE3) (zq (yao hE5 underlying75 rfl yag) (zq (zl underlying3 (Row.cell (hS.bx 0 rfl) (i := 0) rfl)) (zq (yao hE5 underlying75 rfl yag) (zq (zl underlying3 (Row.cell (hS.bx 0 rfl) (i := 1) rfl)) (zn (ybw (l := [(0, (ii ((ge cap2 v.toNat).1))), (1, (ii ((ge cap2 v.toNat).2.1)))]) (cells := [(ii ((ge cap2 v.toNat).1)), (ii ((ge cap2 v.toNat).2.1))]) (places := [(0, 1), (1, 1)]) (bp2 rfl rfl) underlying94 ybM (by kernel_rfl) rfl ?_))))))))))))); refine zb ?_; obtain ⟨hPr, hyes, hno⟩ := h; refine zn (n_yield (m := 1) rfl (am2 rfl rfl) (gen_yield (x := (e3, (ge cap2 v.toNat).1, (ge cap2 v.toNat).2.1)) hs hJ hS hPr trivial ?_ ?_))
      · clear hno hJ hS; have h := hyes; clear hyes; intro T4 w6 hJ hS; generalize OwnB _ = G4 at hJ hS; refine ⟨_, rfl, ?_⟩; refine zb (zq (ygz rfl) (yaa (ya7 (congrArg Value.bool (congrArg Bool.not rfl)) (yah (zr (zq (yae hE3) ?_)))))); obtain ⟨hi, h⟩ := h; refine zq (zA hi) (zq (za (ii (e3 + 1))) (yaa (yam (zr ?_)))); obtain ⟨hi2, h⟩ := h; refine zq (ycv hE15 rfl hi2) (zq (zm (ii (v2 + 1))) (yaa ?_)); obtain ⟨mq, hlt, h⟩ := h; exact again2 mq _ _ _ ⟨_, _, _, _, _, _, h, rfl, hE0, rfl, hE5, hE7, hE8, hE9, hE14, rfl, hJ, (hS.sel [0, 1] (by decide))⟩ hlt
      · clear hyes hJ hS; have h := hno; clear hno; intro T5 w7 hJ hS; generalize OwnB _ = G5 at hJ hS; refine ⟨_, rfl, ?_⟩; exact zb (zq (ygz rfl) (yaa (yaE (congrArg Value.bool (congrArg Bool.not rfl)) (wt_ret0 rfl ⟨⟨_, rfl⟩, gen_endx hs hJ hS⟩))))
    · replace h := h.2 hp2; refine zd hp2 (yaL rfl (yam (zr ?_))); obtain ⟨hi3, h⟩ := h; refine zq (ycv hE9 rfl hi3) (zq (zm (ii (v + 1))) (yaa ?_)); obtain ⟨mq, hlt, h⟩ := h; exact again mq _ _ _ ⟨_, _, _, _, _, _, h, rfl, hE0, hE3, hE7, hE8, rfl, hJ, (hS.sel [1] (by decide))⟩ hlt
  · replace h := h.2 hp; exact zd hp (yaL rfl (wt_end0 rfl ⟨⟨_, rfl⟩, gen_end hs hJ hS h⟩))
def ybI (g : Int) (g2 : List E3) (R : (List (Int × Int)) → Int → Prop) : Prop :=
yb8 g g2 (fun r =>
((r = 0 →
ycz g g2 ((∃ Pr Rr : List E3 → Prop, ybC g g2 Pr Rr ∧
(∃ I2 : List E3 → (List (Int × Int)) → Prop, I2 [] ([]) ∧
(∀ pre y y2 y3 out, I2 pre out → Pr (pre ++ [(y, y2, y3)]) →
(out.length + 1 ≤ 1000000000 ∧
I2 (pre ++ [(y, y2, y3)]) (out ++ [(y2, y3)]))) ∧
(∀ ys out, I2 ys out → Rr ys →
R out 0))))) ∧
(¬ (r = 0) →
R ([]) r)))
theorem yc8 {O : Nat → Prop} {w : World} {g g2 Ag lg cg} {R : (List (Int × Int)) → Int → Prop} (h : ybI g g2 R) (hO : ∀ k, O k → k < w.heap.size) (hA0 : (FP.sl c3 Ag lg cg g2).P O w) :
    Calls Try.prog 52 #[(.agg #[(ii g), (.slice Ag lg cg)])] w fun e w' => ∃ r2 r3 Ar lr cr, e = .returned (.tuple #[(.slice Ar lr cr), (ii r3)]) ∧ Sep w no O w' (rl [Res.own c2 45 Ar lr cr r2]) ∧ R r2 r3 := by
  unfold ybI at h; have hS : Sep w no O w (rl [Res.ro (FP.sl c3 Ag lg cg g2)]) := Sep.startl hO [(FP.sl c3 Ag lg cg g2)] ⟨hA0, trivial⟩; refine calls_shm (l := [(.agg #[(ii g), (.slice Ag lg cg)])]) func52 rfl ntmps52 (Nat.le_of_ble_eq_true rfl) (zs (zn (yb5 (v := (.agg #[(ii g), (.slice Ag lg cg)])) rfl ?_))); intro g3 w2 hN; replace hS : Sep w no O w2 (stl _ 1 (Res.box 24 g3 [(ii g), (.slice Ag lg cg)])) := hS.new 1 rfl hN; clear hN; refine zb (zq (za (.slice none 0 0)) (zq (za (ii 0)) (yaa (yaf (zs (zq (yaz (vs := [(ii g), (.slice Ag lg cg)]) rfl underlying24 rfl yan ⟨Row.cell (hS.bx 1 rfl) (i := 0) rfl, Row.cell (hS.bx 1 rfl) (i := 1) rfl, trivial⟩) (zn (yak rfl (am1 rfl) enter_22 ((ye6 h (yaF _) (hS.rdr 0 rfl)).mono ?_))))))))); rintro _ w3 ⟨r, rfl, hC, h⟩; replace hS := hS.pur hC.pure; clear hC; refine ⟨_, rfl, ?_⟩; refine zb (zq (za (ii r)) (yaa (zs (zq (zm (ii r)) (zq zN (yaa ?_)))))); by_cases hp : r = 0
  · replace h := h.1 hp; refine ze hp (yah (zs (zn (ybg ycB ?_)))); intro g4 w4 hN; replace hS : Sep w no O w4 (stl _ 2 (Res.box 46 g4 [(.slice none 0 0)])) := hS.new 2 rfl hN; clear hN; refine zb (yaa (yaf (zs (zq (yaz (vs := [(ii g), (.slice Ag lg cg)]) rfl underlying24 rfl yan ⟨Row.cell (hS.bx 1 rfl) (i := 0) rfl, Row.cell (hS.bx 1 rfl) (i := 1) rfl, trivial⟩) (zn (yak rfl (am1 rfl) enter_89 ((yek h hS.blt (hS.ro 0 rfl)).mono ?_))))))); rintro _ w5 ⟨gc, rfl, hC, h⟩; replace hS := hS.call1 hC 3 0 rfl; clear hC; refine ⟨_, rfl, ?_⟩; refine zb (yaa (yaj ?_)); replace hS := hS.nil 4 rfl c2 45; obtain ⟨Pr, Rr, hgp, I2, h0, hb, h⟩ := h; refine wt_iterS hS [2, 4] [3, 0] (by decide) (by decide) ⟨.inl (by decide), .inr rfl, trivial⟩ rfl enter_105 (val := (fun (x : E3) => #[(ii x.1), (.agg #[(ii x.2.1), (ii x.2.2)])])) (pass := (fun _ => FP.tt)) (Pr := Pr) (R := Rr) (fun _ => rfl) rfl (fun pr LL => ∃ out Aout lout cout, I2 pr out ∧ LL = [Res.box 46 g4 [(.slice Aout lout cout)], Res.own c2 45 Aout lout cout out]) (fun _ _ _ => False) ⟨_, _, _, _, h0, rfl⟩ (fun T G hG => ydU hgp hG) ?_ ?_ (fun _ _ _ _ _ hx => hx.elim)
    · clear h h0 hS hgp; rintro ll rdy busy S O2 pre ⟨y, y2, y3⟩ w6 _ ⟨out, Aout, lout, cout, hI, rfl⟩ hPr hpass hS; have h := hb pre y y2 y3 out hI hPr; clear hb hI hPr; clear hpass; refine yas (wd_round ll) (zn (ybg ybM ?_)); intro g5 w8 hN; replace hS : Sep w6 S O2 w8 (stl _ 3 (Res.box 94 g5 [(ii 0), (ii 0)])) := hS.new 3 rfl hN; clear hN; refine zb (zo (yaJ (b := g5) (o := 0) (cells := #[(ii y2), (ii y3)]) rfl rfl ybM rfl rfl (yaC (hS.bx 3 rfl) (Nat.le_of_ble_eq_true rfl)) ?_)); intro w9 e1; replace hS := hS.bstn 3 rfl 0 [(ii y2), (ii y3)] e1; clear e1; refine zb (yaa (wt_nil fun a ra => ⟨rfl, _, _, ra, hS, ⟨2, rfl⟩, ?_⟩)); intro w10 hw; replace hS := hS.flip 2 rfl busy hw; clear hw ra a; refine yaj (yas (wd_round ll) (zq (zl underlying46 (Row.cell (hS.bx 0 rfl) (i := 0) rfl)) (zq (yao rfl underlying94 rfl yag) (zq (zl underlying3 (Row.cell (hS.bx 3 rfl) (i := 0) rfl)) (zq (yao rfl underlying94 rfl yag) (zq (zl underlying3 (Row.cell (hS.bx 3 rfl) (i := 1) rfl)) (zn (yb9 (l := [(0, (ii y2)), (1, (ii y3))]) (cells := [(ii y2), (ii y3)]) (bp2 rfl rfl) underlying45 yal yag (by kernel_rfl) ?_)))))))); refine zb (zn (yaU (l := [(0, (.agg #[(ii y2), (ii y3)]))]) (cells := [(ii y2), (ii y3)]) (bp1 rfl) underlying46 yal rfl rfl ?_)); intro g6 w11 hN; replace hS := hS.litf (n := 1) 4 rfl (fP (fI .i64) (fI .i64)) hN ([(y2, y3)] : List (Int × Int)) rfl (by decide) rfl; clear hN; refine zb ?_; obtain ⟨hx, h⟩ := h; refine zn (ydC (c := c2) rfl rfl underlying46 underlying46 yal rfl rfl (by decide) hS 1 rfl (hS.yo 4 rfl) hx ?_); clear hS; intro A c w12 hS; refine zb (zo (zt (.slice A (lout + 1) c) ycB (hS.bwr 0 rfl (j := 0) rfl) ?_)); intro w13 e1; replace hS := hS.bst 0 rfl 0 (.slice A (lout + 1) c) e1; clear e1; exact zb (yaa (yam (wt_nil fun a r => ⟨_, ⟨_, _, _, _, h, rfl⟩, (hS.sel [0, 1, 2] (by decide))⟩)))
    · clear hb h0 hS hgp; rintro D ys w7 _ hRr ⟨out, Aout, lout, cout, hI, rfl⟩ hS; replace h := h ys out hI hRr; clear hI hRr; exact yam (zs (zq (zl underlying46 (Row.cell (hS.bx 0 rfl) (i := 0) rfl)) (zq (za (.slice Aout lout cout)) (zq (za (ii 0)) (yaa (wt_retk2 (rs := [D]) (by simp) (hS.marked 2 rfl) rfl rfl rfl (fun w9 hk => ⟨_, _, _, _, _, rfl, (hS.unmark [2] [1] (by decide) (by decide) (unmark1 2 rfl) hk), h⟩)))))))
  · replace h := h.2 hp; refine zf hp (zs (zq (zm (ii r)) (zq (za (.slice none 0 0)) (zq (za (ii r)) (yaa ?_))))); replace hS := hS.nil 2 rfl c2 45; exact wt_retk2 (rs := []) (by simp) (by simp) rfl rfl rfl (fun w9 hk => ⟨_, _, _, _, _, rfl, (hS.unmark [] [2] (by decide) (by decide) (by simp) hk), h⟩)
def ycN (a : Int) (a2 : List E3) (b : Int) (b2 : List E3) (R : Bool → Prop) : Prop :=
(∃ J2 : Prop, (J2 → (∃ I2 : Nat → Int → Prop, (∃ m0, I2 m0 0) ∧ ∀ m2 i, I2 m2 i → 
((i < ((a2.length : Nat) : Int) →
((0 ≤ i ∧ i < ((a2.length : Nat) : Int)) ∧
((0 ≤ i ∧ i < ((b2.length : Nat) : Int)) ∧
(([(ge a2 i.toNat).1, (ge a2 i.toNat).2.1, (ge a2 i.toNat).2.2] = [(ge b2 i.toNat).1, (ge b2 i.toNat).2.1, (ge b2 i.toNat).2.2] →
(In64 (i + 1) ∧
∃ m3, m3 < m2 ∧ I2 m3 (i + 1))) ∧
(¬ ([(ge a2 i.toNat).1, (ge a2 i.toNat).2.1, (ge a2 i.toNat).2.2] = [(ge b2 i.toNat).1, (ge b2 i.toNat).2.1, (ge b2 i.toNat).2.2]) →
R false))))) ∧
(¬ (i < ((a2.length : Nat) : Int)) →
R true)))) ∧
((a = b →
((((a2.length : Nat) : Int) = ((b2.length : Nat) : Int) →
J2) ∧
(¬ (((a2.length : Nat) : Int) = ((b2.length : Nat) : Int)) →
R false))) ∧
(¬ (a = b) →
R false)))
theorem yep {O : Nat → Prop} {w : World} {a a2 b b2 Aa la ca Ab lb cb} {R : Bool → Prop} (h : ycN a a2 b b2 R) (hO : ∀ k, O k → k < w.heap.size) (hA0 : (FP.sl c3 Aa la ca a2).P O w) (hA1 : (FP.sl c3 Ab lb cb b2).P O w) :
    Calls Try.prog 33 #[(.agg #[(ii a), (.slice Aa la ca)]), (.agg #[(ii b), (.slice Ab lb cb)])] w fun e w' => ∃ r, e = .returned (.bool (r)) ∧ Sep w no O w' (rl []) ∧ R r := by
  unfold ycN at h; have hS : Sep w no O w (rl [Res.ro (FP.sl c3 Aa la ca a2), Res.ro (FP.sl c3 Ab lb cb b2)]) := Sep.startl hO [(FP.sl c3 Aa la ca a2), (FP.sl c3 Ab lb cb b2)] ⟨hA0, hA1, trivial⟩; refine yaq (l := [(.agg #[(ii a), (.slice Aa la ca)]), (.agg #[(ii b), (.slice Ab lb cb)])]) func33 rfl ntmps33 (Nat.le_of_ble_eq_true rfl) (zs (zn (yb5 (v := (.agg #[(ii a), (.slice Aa la ca)])) rfl ?_))); intro g w2 hN; replace hS : Sep w no O w2 (stl _ 2 (Res.box 24 g [(ii a), (.slice Aa la ca)])) := hS.new 2 rfl hN; clear hN; refine zb (zn (yb5 (v := (.agg #[(ii b), (.slice Ab lb cb)])) rfl ?_)); intro g2 w3 hN; replace hS : Sep w no O w3 (stl _ 3 (Res.box 24 g2 [(ii b), (.slice Ab lb cb)])) := hS.new 3 rfl hN; clear hN; refine zb (zq (za (.bool (false))) (yaa (yaf (yaf ?_)))); obtain ⟨J2, hJ, h⟩ := h; refine ycZ (fun E ds w' => J2 ∧ ds = [] ∧ E 2 = (Value.pointer (some (⟨g, 0, none⟩ : Addr))) ∧ E 3 = (Value.pointer (some (⟨g2, 0, none⟩ : Addr))) ∧ Sep w no O w' (rl [Res.box 24 g [(ii a), (.slice Aa la ca)], Res.ro (FP.sl c3 Aa la ca a2), Res.box 24 g2 [(ii b), (.slice Ab lb cb)], Res.ro (FP.sl c3 Ab lb cb b2)])) ?_ ?_
  · clear h hS; rintro E ds w4 ⟨h, rfl, hE2, hE3, hS⟩; replace h := hJ h; refine yaf (zs (zq (za (ii 0)) (yaa (yaj ?_)))); obtain ⟨I2, ⟨m0, h0⟩, hr⟩ := h; refine yaO (fun m E ds w' => ∃ i, I2 m i ∧ ds = [] ∧ E 2 = (Value.pointer (some (⟨g, 0, none⟩ : Addr))) ∧ E 3 = (Value.pointer (some (⟨g2, 0, none⟩ : Addr))) ∧ E 5 = (ii i) ∧ Sep w no O w' (rl [Res.box 24 g [(ii a), (.slice Aa la ca)], Res.ro (FP.sl c3 Aa la ca a2), Res.box 24 g2 [(ii b), (.slice Ab lb cb)], Res.ro (FP.sl c3 Ab lb cb b2)])) m0 ⟨_, h0, rfl, hE2, hE3, rfl, (hS.sel [0, 1, 2, 3] (by decide))⟩ ?_; clear h0 hS; rintro m2 E ds w5 ⟨i, h, rfl, hE2, hE3, hE5, hS⟩ again; replace h := hr m2 i h; clear hr; refine yaf (zs (zq (yae hE5) (zq (yao hE2 underlying24 rfl ybN) (zq (zl underlying22 (Row.cell (hS.bx 0 rfl) (i := 1) rfl)) (zq (yay (n := a2.length) rfl underlying22 (yav (hS.rdr 1 rfl))) (zq zL (yaa ?_))))))); by_cases hp : i < ((a2.length : Nat) : Int)
    · replace h := h.1 hp; refine zc hp (yah (yaf (yaj (yaf (ybH [0, 1, 2, 3, 4, 5, 6, 7, 8, 9, 10] st0 yar (by kernel_rfl) (by kernel_rfl) ?_))))); replace hS := hS.drew; refine zp (yao hE2 underlying24 rfl ybN) (zp (zl underlying22 (Row.cell (hS.bx 0 rfl) (i := 1) rfl)) (zp (yae hE5) ?_)); obtain ⟨hx, h⟩ := h; refine zp (zi underlying22 yaX (yaN (hS.rdr 1 rfl) hx)) (zp (yaz (vs := [(ii ((ge a2 i.toNat).1)), (ii ((ge a2 i.toNat).2.1)), (ii ((ge a2 i.toNat).2.2))]) rfl underlying75 rfl yaX (ydN (hS.rdr 1 rfl) hx (fun q => ycW q))) ?_); refine zp (yao hE3 underlying24 rfl ybN) (zp (zl underlying22 (Row.cell (hS.bx 2 rfl) (i := 1) rfl)) (zp (yae hE5) ?_)); obtain ⟨hx2, h⟩ := h; refine zp (zi underlying22 yaX (yaN (hS.rdr 3 rfl) hx2)) (zp (yaz (vs := [(ii ((ge b2 i.toNat).1)), (ii ((ge b2 i.toNat).2.1)), (ii ((ge b2 i.toNat).2.2))]) rfl underlying75 rfl yaX (ydN (hS.rdr 3 rfl) hx2 (fun q => ycW q))) ?_); refine zp (v_neqA (EqI.struct underlying75 Try.eqGuardType75 Try.stoodInHeld75 (by kernel_rfl) rfl) [(ge a2 i.toNat).1, (ge a2 i.toNat).2.1, (ge a2 i.toNat).2.2] [(ge b2 i.toNat).1, (ge b2 i.toNat).2.1, (ge b2 i.toNat).2.2] rfl rfl rfl rfl) (ybk ?_); by_cases hp2 : [(ge a2 i.toNat).1, (ge a2 i.toNat).2.1, (ge a2 i.toNat).2.2] = [(ge b2 i.toNat).1, (ge b2 i.toNat).2.1, (ge b2 i.toNat).2.2]
      · replace h := h.1 hp2; refine ze hp2 (yah (yam (zr (zq (yae hE5) ?_)))); obtain ⟨hi, h⟩ := h; refine zq (zA hi) (zq (za (ii (i + 1))) (yaa ?_)); obtain ⟨mq, hlt, h⟩ := h; exact again mq _ _ _ ⟨_, h, rfl, hE2, hE3, rfl, (hS.sel [0, 1, 2, 3] (by decide))⟩ hlt
      · replace h := h.2 hp2; exact zf hp2 (zs (zq (za (.bool (false))) (yaa (yai rfl rfl ⟨_, rfl, (hS.sel [] (by decide)), h⟩))))
    · replace h := h.2 hp; exact zd hp (yaL rfl (zs (zq (za (.bool (true))) (yaa (yai rfl rfl ⟨_, rfl, (hS.sel [] (by decide)), h⟩)))))
  clear hJ; intro j; refine zr (zq (yao rfl underlying24 rfl yag) (zq (zl underlying3 (Row.cell (hS.bx 2 rfl) (i := 0) rfl)) (zq (yao rfl underlying24 rfl yag) (zq (zl underlying3 (Row.cell (hS.bx 3 rfl) (i := 0) rfl)) (zq zN (zq (zm (.bool (!(decide (a = b))))) ?_)))))); by_cases hp3 : a = b
  · replace h := h.1 hp3; refine rl_q (yad rfl (yac rfl (congrArg Value.bool (congrArg Bool.not (decide_eq_true hp3))))) rfl rfl (yao rfl underlying24 rfl ybN) (rl_q (yad rfl (yac rfl (congrArg Value.bool (congrArg Bool.not (decide_eq_true hp3))))) rfl rfl (zl underlying22 (Row.cell (hS.bx 2 rfl) (i := 1) rfl)) (rl_q (yad rfl (yac rfl (congrArg Value.bool (congrArg Bool.not (decide_eq_true hp3))))) rfl rfl (yay (n := a2.length) rfl underlying22 (yav (hS.rdr 0 rfl))) (rl_q (yad rfl (yac rfl (congrArg Value.bool (congrArg Bool.not (decide_eq_true hp3))))) rfl rfl (yao rfl underlying24 rfl ybN) (rl_q (yad rfl (yac rfl (congrArg Value.bool (congrArg Bool.not (decide_eq_true hp3))))) rfl rfl (zl underlying22 (Row.cell (hS.bx 3 rfl) (i := 1) rfl)) (rl_q (yad rfl (yac rfl (congrArg Value.bool (congrArg Bool.not (decide_eq_true hp3))))) rfl rfl (yay (n := b2.length) rfl underlying22 (yav (hS.rdr 1 rfl))) (rl_q (yad rfl (yac rfl (congrArg Value.bool (congrArg Bool.not (decide_eq_true hp3))))) rfl rfl zN (zq (yap (v := (.bool (!(decide (((a2.length : Nat) : Int) = ((b2.length : Nat) : Int)))))) (congrArg Value.bool (congrArg Bool.not (decide_eq_true hp3))) rfl) (yaa ?_)))))))); by_cases hp4 : ((a2.length : Nat) : Int) = ((b2.length : Nat) : Int)
    · replace h := h.1 hp4; exact ze hp4 (yah (j _ _ _ ⟨h, rfl, rfl, rfl, (hS.sel [2, 0, 3, 1] (by decide))⟩))
    · replace h := h.2 hp4; exact zf hp4 (zs (zq (za (.bool (false))) (yaa (yai rfl rfl ⟨_, rfl, (hS.sel [] (by decide)), h⟩))))
  · replace h := h.2 hp3; exact rl_p (yab rfl (yac rfl (congrArg Value.bool (congrArg Bool.not (decide_eq_false hp3)))) rfl) rfl (rl_p (yab rfl (yac rfl (congrArg Value.bool (congrArg Bool.not (decide_eq_false hp3)))) rfl) rfl (rl_p (yab rfl (yac rfl (congrArg Value.bool (congrArg Bool.not (decide_eq_false hp3)))) rfl) rfl (rl_p (yab rfl (yac rfl (congrArg Value.bool (congrArg Bool.not (decide_eq_false hp3)))) rfl) rfl (rl_p (yab rfl (yac rfl (congrArg Value.bool (congrArg Bool.not (decide_eq_false hp3)))) rfl) rfl (rl_p (yab rfl (yac rfl (congrArg Value.bool (congrArg Bool.not (decide_eq_false hp3)))) rfl) rfl (rl_p (yab rfl (yac rfl (congrArg Value.bool (congrArg Bool.not (decide_eq_false hp3)))) rfl) rfl (zq (yaw (v := (.bool (true))) (congrArg Value.bool (congrArg Bool.not (decide_eq_false hp3))) rfl) (yaa (yaE rfl (zs (zq (za (.bool (false))) (yaa (yai rfl rfl ⟨_, rfl, (hS.sel [] (by decide)), h⟩)))))))))))))
def yci (a : List (Int × Int)) (b : List (Int × Int)) (R : Bool → Prop) : Prop :=
((((a.length : Nat) : Int) = ((b.length : Nat) : Int) →
(∃ I2 : Nat → Int → Prop, (∃ m0, I2 m0 0) ∧ ∀ m2 i, I2 m2 i → 
((i < ((a.length : Nat) : Int) →
((0 ≤ i ∧ i < ((a.length : Nat) : Int)) ∧
((0 ≤ i ∧ i < ((b.length : Nat) : Int)) ∧
(([(gx a i.toNat).1, (gx a i.toNat).2] = [(gx b i.toNat).1, (gx b i.toNat).2] →
(In64 (i + 1) ∧
∃ m3, m3 < m2 ∧ I2 m3 (i + 1))) ∧
(¬ ([(gx a i.toNat).1, (gx a i.toNat).2] = [(gx b i.toNat).1, (gx b i.toNat).2]) →
R false))))) ∧
(¬ (i < ((a.length : Nat) : Int)) →
R true)))) ∧
(¬ (((a.length : Nat) : Int) = ((b.length : Nat) : Int)) →
R false))
theorem yez {O : Nat → Prop} {w : World} {a b Aa la ca Ab lb cb} {R : Bool → Prop} (h : yci a b R) (hO : ∀ k, O k → k < w.heap.size) (hA0 : (FP.sl c2 Aa la ca a).P O w) (hA1 : (FP.sl c2 Ab lb cb b).P O w) :
    Calls Try.prog 54 #[(.slice Aa la ca), (.slice Ab lb cb)] w fun e w' => ∃ r, e = .returned (.bool (r)) ∧ Sep w no O w' (rl []) ∧ R r := by
  unfold yci at h; have hS : Sep w no O w (rl [Res.ro (FP.sl c2 Aa la ca a), Res.ro (FP.sl c2 Ab lb cb b)]) := Sep.startl hO [(FP.sl c2 Aa la ca a), (FP.sl c2 Ab lb cb b)] ⟨hA0, hA1, trivial⟩; refine yaq (l := [(.slice Aa la ca), (.slice Ab lb cb)]) func54 rfl ntmps54 (Nat.le_of_ble_eq_true rfl) (zs (zq (za (.bool (false))) (yaa (yaf (zs (zq (zm (.slice Aa la ca)) (zq (yay (n := a.length) rfl underlying46 (yav (hS.rdr 0 rfl))) (zq (zm (.slice Ab lb cb)) (zq (yay (n := b.length) rfl underlying46 (yav (hS.rdr 1 rfl))) (zq zN (yaa ?_))))))))))); by_cases hp : ((a.length : Nat) : Int) = ((b.length : Nat) : Int)
  · replace h := h.1 hp; refine ze hp (yah (yaf (zs (zq (za (ii 0)) (yaa (yaj ?_)))))); obtain ⟨I2, ⟨m0, h0⟩, hr⟩ := h; refine yaO (fun m E ds w' => ∃ i, I2 m i ∧ ds = [] ∧ E 0 = (Value.slice Aa la ca) ∧ E 1 = (Value.slice Ab lb cb) ∧ E 5 = (ii i) ∧ Sep w no O w' (rl [Res.ro (FP.sl c2 Aa la ca a), Res.ro (FP.sl c2 Ab lb cb b)])) m0 ⟨_, h0, rfl, rfl, rfl, rfl, (hS.sel [0, 1] (by decide))⟩ ?_; clear h0 hS; rintro m2 E ds w2 ⟨i, h, rfl, hE0, hE1, hE5, hS⟩ again; replace h := hr m2 i h; clear hr; refine yaf (zs (zq (yae hE5) (zq (yae hE0) (zq (yay (n := a.length) rfl underlying46 (yav (hS.rdr 0 rfl))) (zq zL (yaa ?_)))))); by_cases hp2 : i < ((a.length : Nat) : Int)
    · replace h := h.1 hp2; refine zc hp2 (yah (yaf (yaj (yaf (ybH [0, 1, 2, 3, 4, 5, 6, 7, 8] st0 yar (by kernel_rfl) (by kernel_rfl) ?_))))); replace hS := hS.drew; refine zp (yae hE0) (zp (yae hE5) ?_); obtain ⟨hx, h⟩ := h; refine zp (zi underlying46 yal (yaN (hS.rdr 0 rfl) hx)) (zp (yaz (vs := [(ii ((gx a i.toNat).1)), (ii ((gx a i.toNat).2))]) rfl underlying45 rfl yal (ydN (hS.rdr 0 rfl) hx (fun q => yaS q))) ?_); refine zp (yae hE1) (zp (yae hE5) ?_); obtain ⟨hx2, h⟩ := h; refine zp (zi underlying46 yal (yaN (hS.rdr 1 rfl) hx2)) (zp (yaz (vs := [(ii ((gx b i.toNat).1)), (ii ((gx b i.toNat).2))]) rfl underlying45 rfl yal (ydN (hS.rdr 1 rfl) hx2 (fun q => yaS q))) ?_); refine zp (v_neqA (EqI.array underlying45 Try.eqGuardType45 (by kernel_rfl) (by kernel_rfl)) [(gx a i.toNat).1, (gx a i.toNat).2] [(gx b i.toNat).1, (gx b i.toNat).2] rfl rfl rfl rfl) (ybk ?_); by_cases hp3 : [(gx a i.toNat).1, (gx a i.toNat).2] = [(gx b i.toNat).1, (gx b i.toNat).2]
      · replace h := h.1 hp3; refine ze hp3 (yah (yam (zr (zq (yae hE5) ?_)))); obtain ⟨hi, h⟩ := h; refine zq (zA hi) (zq (za (ii (i + 1))) (yaa ?_)); obtain ⟨mq, hlt, h⟩ := h; exact again mq _ _ _ ⟨_, h, rfl, hE0, hE1, rfl, (hS.sel [0, 1] (by decide))⟩ hlt
      · replace h := h.2 hp3; exact zf hp3 (zs (zq (za (.bool (false))) (yaa (yai rfl rfl ⟨_, rfl, (hS.sel [] (by decide)), h⟩))))
    · replace h := h.2 hp2; exact zd hp2 (yaL rfl (zs (zq (za (.bool (true))) (yaa (yai rfl rfl ⟨_, rfl, (hS.sel [] (by decide)), h⟩)))))
  · replace h := h.2 hp; exact zf hp (zs (zq (za (.bool (false))) (yaa (yai rfl rfl ⟨_, rfl, (hS.sel [] (by decide)), h⟩))))
def ya9 (g : Int) (g2 : List E3) (e2 : Int) (R : (List (Int × Int)) → Int → Prop) : Prop :=
ybI g g2 (fun r r2 =>
((r2 = 0 →
((e2 < 0 →
R ([]) 2) ∧
(¬ (e2 < 0) →
((((r.length : Nat) : Int) ≤ e2 →
R ([]) 2) ∧
(¬ (((r.length : Nat) : Int) ≤ e2) →
R r 0))))) ∧
(¬ (r2 = 0) →
R ([]) r2)))
theorem ybK {O : Nat → Prop} {w : World} {g g2 e2 Ag lg cg} {R : (List (Int × Int)) → Int → Prop} (h : ya9 g g2 e2 R) (hO : ∀ k, O k → k < w.heap.size) (hA0 : (FP.sl c3 Ag lg cg g2).P O w) :
    Calls Try.prog 55 #[(.agg #[(ii g), (.slice Ag lg cg)]), (ii e2)] w fun e w' => ∃ r3 r4 Ar2 lr2 cr2, e = .returned (.tuple #[(.slice Ar2 lr2 cr2), (ii r4)]) ∧ Sep w no O w' (rl [Res.own c2 45 Ar2 lr2 cr2 r3]) ∧ R r3 r4 := by
  unfold ya9 at h; have hS : Sep w no O w (rl [Res.ro (FP.sl c3 Ag lg cg g2)]) := Sep.startl hO [(FP.sl c3 Ag lg cg g2)] ⟨hA0, trivial⟩; refine yaq (l := [(.agg #[(ii g), (.slice Ag lg cg)]), (ii e2)]) func55 rfl ntmps55 (Nat.le_of_ble_eq_true rfl) (zs (zn (yb5 (v := (.agg #[(ii g), (.slice Ag lg cg)])) rfl ?_))); intro g3 w2 hN; replace hS : Sep w no O w2 (stl _ 1 (Res.box 24 g3 [(ii g), (.slice Ag lg cg)])) := hS.new 1 rfl hN; clear hN; refine zb (zq (za (.slice none 0 0)) (zq (za (ii 0)) (yaa (zs (zq (yaz (vs := [(ii g), (.slice Ag lg cg)]) rfl underlying24 rfl yan ⟨Row.cell (hS.bx 1 rfl) (i := 0) rfl, Row.cell (hS.bx 1 rfl) (i := 1) rfl, trivial⟩) (zn (yak rfl (am1 rfl) ygx ((yc8 h (yaF _) (hS.rdr 0 rfl)).mono ?_)))))))); rintro _ w3 ⟨r, r2, Ar, lr, cr, rfl, hC, h⟩; replace hS := hS.call1 (hC.widen (ybv (yat (fP (fI .i64) (fI .i64)) _ _ _ _ _) ybE) hS.blt) 2 0 rfl; clear hC; refine ⟨_, rfl, ?_⟩; refine zb (zq (zm (.tuple #[(.slice Ar lr cr), (ii r2)])) (zq (zx (.slice Ar lr cr)) (zq (zx (ii r2)) (zq (za (.slice Ar lr cr)) (zq (za (ii r2)) (yaa (yaf (zs (zq (zm (ii r2)) (zq zN (yaa ?_))))))))))); by_cases hp : r2 = 0
  · replace h := h.1 hp; refine ze hp (yah (yaf (zs (zq (zm (ii e2)) (zq zL (zq (zm (.bool (decide (e2 < 0)))) ?_)))))); by_cases hp2 : e2 < 0
    · replace h := h.1 hp2; refine rl_p (yab rfl (yac rfl (congrArg Value.bool (decide_eq_true hp2))) rfl) rfl (rl_p (yab rfl (yac rfl (congrArg Value.bool (decide_eq_true hp2))) rfl) rfl (rl_p (yab rfl (yac rfl (congrArg Value.bool (decide_eq_true hp2))) rfl) rfl (rl_p (yab rfl (yac rfl (congrArg Value.bool (decide_eq_true hp2))) rfl) rfl (zq (yaw (v := (.bool (true))) (congrArg Value.bool (decide_eq_true hp2)) rfl) (yaa (yaE rfl (zs (zq (za (.slice none 0 0)) (zq (za (ii 2)) (yaa ?_)))))))))); replace hS := hS.nil 3 rfl c2 45; exact yb4 rfl rfl rfl ⟨_, _, _, _, _, rfl, (hS.sel [3] (by decide)), h⟩
    · replace h := h.2 hp2; refine rl_q (yad rfl (yac rfl (congrArg Value.bool (decide_eq_false hp2)))) rfl rfl (zm (ii e2)) (rl_q (yad rfl (yac rfl (congrArg Value.bool (decide_eq_false hp2)))) rfl rfl (zm (.slice Ar lr cr)) (rl_q (yad rfl (yac rfl (congrArg Value.bool (decide_eq_false hp2)))) rfl rfl (yay (n := r.length) rfl underlying46 (yav (hS.rdo 2 rfl))) (rl_q (yad rfl (yac rfl (congrArg Value.bool (decide_eq_false hp2)))) rfl rfl (v_geq rfl rfl) (zq (yap (v := (.bool (decide (((r.length : Nat) : Int) ≤ e2)))) (congrArg Value.bool (decide_eq_false hp2)) rfl) (yaa ?_))))); by_cases hp3 : ((r.length : Nat) : Int) ≤ e2
      · replace h := h.1 hp3; refine zc hp3 (zs (zq (za (.slice none 0 0)) (zq (za (ii 2)) (yaa ?_)))); replace hS := hS.nil 3 rfl c2 45; exact yb4 rfl rfl rfl ⟨_, _, _, _, _, rfl, (hS.sel [3] (by decide)), h⟩
      · replace h := h.2 hp3; exact zd hp3 (yah (zs (zq (zm (.slice Ar lr cr)) (zq (za (.slice Ar lr cr)) (zq (za (ii 0)) (yaa (yb4 rfl rfl rfl ⟨_, _, _, _, _, rfl, (hS.sel [2] (by decide)), h⟩)))))))
  · replace h := h.2 hp; refine zf hp (zs (zq (zm (ii r2)) (zq (za (.slice none 0 0)) (zq (za (ii r2)) (yaa ?_))))); replace hS := hS.nil 3 rfl c2 45; exact yb4 rfl rfl rfl ⟨_, _, _, _, _, rfl, (hS.sel [3] (by decide)), h⟩
def ybf (n : Int) (a : Int) (b : Int) (R : Int → Prop) : Prop :=
((a = b →
R n) ∧
(¬ (a = b) →
(In64 (n - 1) ∧
R (n - 1))))
theorem ycf {O : Nat → Prop} {w : World} {n a b} {R : Int → Prop} (h : ybf n a b R) (hO : ∀ k, O k → k < w.heap.size) :
    Calls Try.prog 65 #[(ii n), (ii a), (ii b)] w fun e w' => ∃ r, e = .returned (ii r) ∧ Sep w no O w' (rl []) ∧ R r := by
  unfold ybf at h; have hS : Sep w no O w (rl []) := Sep.start w hO; refine yaq (l := [(ii n), (ii a), (ii b)]) func65 rfl ntmps65 (Nat.le_of_ble_eq_true rfl) (zs (zq (za (ii 0)) (yaa (yaf (zs (zq (zm (ii a)) (zq (zm (ii b)) (zq zE (yaa ?_))))))))); by_cases hp : a = b
  · replace h := h.1 hp; exact zc hp (zs (zq (zm (ii n)) (zq (za (ii n)) (yaa (yai rfl rfl ⟨_, rfl, (hS.sel [] (by decide)), h⟩)))))
  · replace h := h.2 hp; refine zd hp (yah (zs (zq (zm (ii n)) ?_))); obtain ⟨hi, h⟩ := h; exact zq (zS hi) (zq (za (ii (n - 1))) (yaa (yai rfl rfl ⟨_, rfl, (hS.sel [] (by decide)), h⟩)))
def yaB (a : Int) (b : Int) (R0 : Int → Int → Prop) : Prop :=
R0 (mnF a b) (mxF a b)
theorem ybb {O : Nat → Prop} {w : World} {a b} {R0 : Int → Int → Prop} (h : yaB a b R0) (hO : ∀ k, O k → k < w.heap.size) :
    Calls Try.prog 57 #[(ii a), (ii b)] w fun e w' => (∃ r r2 gr gr2, e = .returned (.func (Fn.func 92) #[] #[(.pointer (some (⟨gr, 0, none⟩ : Addr))), (.pointer (some (⟨gr2, 0, none⟩ : Addr)))]) ∧ Sep w no O w' (rl [Res.box 3 gr [(ii r)], Res.box 3 gr2 [(ii r2)]]) ∧ R0 r r2) := by
  unfold yaB at h; have hS : Sep w no O w (rl []) := Sep.start w hO; refine yaq (l := [(ii a), (ii b)]) func57 rfl ntmps57 (Nat.le_of_ble_eq_true rfl) (zs (zn (yb5 (v := (ii a)) rfl ?_))); intro g w2 hN; replace hS : Sep w no O w2 (stl _ 0 (Res.box 3 g [(ii a)])) := hS.new 0 rfl hN; clear hN; refine zb (zn (yb5 (v := (ii b)) rfl ?_)); intro g2 w3 hN; replace hS : Sep w no O w3 (stl _ 1 (Res.box 3 g2 [(ii b)])) := hS.new 1 rfl hN; clear hN; refine zb (zq (za Value.nilFunc) (yaa (yaf (ybH [0, 1, 2, 3, 4, 5, 6, 7] (fun i => match i with | 6 => [4, 5] | _ => []) yar (by kernel_rfl) (by kernel_rfl) ?_)))); replace hS := hS.drew; refine zp (zl underlying3 (Row.cell (hS.bx 0 rfl) (i := 0) rfl)) (zp (zl underlying3 (Row.cell (hS.bx 1 rfl) (i := 0) rfl)) (zp (v_min2 rfl rfl) (zp (zl underlying3 (Row.cell (hS.bx 0 rfl) (i := 0) rfl)) (zp (zl underlying3 (Row.cell (hS.bx 1 rfl) (i := 0) rfl)) (zp (yeR rfl rfl) (ygr rfl rfl rfl (zt (ii (mnF a b)) yag (hS.bwr 0 rfl (j := 0) rfl) ?_))))))); intro w4 e1; replace hS := hS.bst 0 rfl 0 (ii (mnF a b)) e1; clear e1; refine ⟨⟨fun _ => (yeR rfl rfl), ⟨fun _ => (zl underlying3 (Row.cell (hS.bx 1 rfl) (i := 0) rfl)), ⟨fun hh => Bool.noConfusion (show false = true from hh), ⟨fun hh => Bool.noConfusion (show false = true from hh), ⟨fun hh => Bool.noConfusion (show false = true from hh), ⟨fun hh => Bool.noConfusion (show false = true from hh), trivial⟩⟩⟩⟩⟩⟩, ?_⟩; refine ygr rfl rfl rfl (zt (ii (mxF a b)) yag (hS.bwr 1 rfl (j := 0) rfl) ?_); intro w5 e1; replace hS := hS.bst 1 rfl 0 (ii (mxF a b)) e1; clear e1; exact zb (ybk (zs (zq (yhX (am0) (am2 rfl rfl)) (zq (za (.func (Fn.func 92) #[] #[(.pointer (some (⟨g, 0, none⟩ : Addr))), (.pointer (some (⟨g2, 0, none⟩ : Addr)))])) (yaa (yai rfl rfl ⟨_, _, _, _, rfl, (hS.sel [0, 1] (by decide)), h⟩))))))
def ybz (n : Int) (Fto : Int → (Int → Prop) → Prop) (R : (List Int) → Prop) : Prop :=
(∃ I2 : Nat → (List Int) → Int → Prop, (∃ m0, I2 m0 ([]) 0) ∧ ∀ m2 out v, I2 m2 out v → 
((v < n →
Fto v (fun (r : Int) =>
(out.length + 1 ≤ 1000000000 ∧
(In64 (v + 1) ∧
∃ m3, m3 < m2 ∧ I2 m3 (out ++ [r]) (v + 1))))) ∧
(¬ (v < n) →
R out)))
theorem ycU {O : Nat → Prop} {w : World} {n : Int} {Fto : Int → (Int → Prop) → Prop} {to : Value} {R : (List Int) → Prop} (h : ybz n Fto R) (hO : ∀ k, O k → k < w.heap.size) (hA0 : (FP.st fun w' => ∃ (fid : Nat) (us : Array Value), to = Value.func (.func fid) #[] us ∧ Enters Try.prog fid ∧ ∀ (x0 : Int) (R : Int → Prop), Fto x0 R → Calls Try.prog fid (#[(Value.int .i64 x0)] ++ us) w' fun e w'' => ∃ r0 : Int, e = .returned (Value.int .i64 r0) ∧ Sep w' no no w'' (rl []) ∧ R r0).P O w) :
    Calls Try.prog 66 #[(ii n), to] w fun e w' => ∃ r2 Ar lr cr, e = .returned (.slice Ar lr cr) ∧ Sep w no O w' (rl [Res.own cI 3 Ar lr cr r2]) ∧ R r2 := by
  unfold ybz at h; have hS : Sep w no O w (rl [Res.ro (FP.st fun w' => ∃ (fid : Nat) (us : Array Value), to = Value.func (.func fid) #[] us ∧ Enters Try.prog fid ∧ ∀ (x0 : Int) (R : Int → Prop), Fto x0 R → Calls Try.prog fid (#[(Value.int .i64 x0)] ++ us) w' fun e w'' => ∃ r0 : Int, e = .returned (Value.int .i64 r0) ∧ Sep w' no no w'' (rl []) ∧ R r0)]) := Sep.startl hO [(FP.st fun w' => ∃ (fid : Nat) (us : Array Value), to = Value.func (.func fid) #[] us ∧ Enters Try.prog fid ∧ ∀ (x0 : Int) (R : Int → Prop), Fto x0 R → Calls Try.prog fid (#[(Value.int .i64 x0)] ++ us) w' fun e w'' => ∃ r0 : Int, e = .returned (Value.int .i64 r0) ∧ Sep w' no no w'' (rl []) ∧ R r0)] ⟨hA0, trivial⟩; refine yaq (l := [(Value.int .i64 n), to]) func66 rfl ntmps66 (Nat.le_of_ble_eq_true rfl) ?_; refine yaf ?_; refine yas yar ?_; refine rl_q rfl rfl rfl (ybo (v := (.slice none 0 0)) rfl) ?_; refine yaa ?_; refine yaf ?_; refine yas yar ?_; refine rl_q rfl rfl rfl (ybo (v := (.slice none 0 0)) rfl) ?_; refine yaa ?_; refine yaf ?_; refine yaf ?_; refine yas yar ?_; refine rl_q rfl rfl rfl (yae (v := (.int .i64 n)) rfl) ?_; refine rl_q rfl rfl rfl (yae (v := (.int .i64 0)) rfl) ?_; refine yaa ?_; refine yaj ?_; replace hS := hS.nil 1 rfl cI 3; obtain ⟨I2, ⟨m0, h0⟩, hr⟩ := h; refine yaO (fun m E ds w' => ∃ out : List Int, ∃ v : Int, ∃ Aout : Option Addr, ∃ lout : Nat, ∃ cout : Nat, I2 m out v ∧ ds = [] ∧ E 1 = to ∧ E 5 = (Value.slice Aout lout cout) ∧ E 7 = (Value.int .i64 n) ∧ E 8 = (Value.int .i64 v) ∧ Sep w no O w' (rl [Res.own cI 3 Aout lout cout out, Res.ro (FP.st fun w' => ∃ (fid : Nat) (us : Array Value), to = Value.func (.func fid) #[] us ∧ Enters Try.prog fid ∧ ∀ (x0 : Int) (R : Int → Prop), Fto x0 R → Calls Try.prog fid (#[(Value.int .i64 x0)] ++ us) w' fun e w'' => ∃ r0 : Int, e = .returned (Value.int .i64 r0) ∧ Sep w' no no w'' (rl []) ∧ R r0)])) m0 ⟨_, _, _, _, _, h0, rfl, rfl, rfl, rfl, rfl, (hS.sel [1, 0] (by decide))⟩ ?_; clear h0 hS; rintro m2 E ds w2 ⟨out, v, Aout, lout, cout, h, rfl, hE1, hE5, hE7, hE8, hS⟩ again; replace h := hr m2 out v h; clear hr; refine yaf ?_; refine yas yar ?_; refine rl_q rfl rfl rfl (ycI hE8 hE7) ?_; refine yaa ?_; refine yaf ?_; by_cases hp : v < n
  · replace h := h.1 hp; refine zc hp (yah (yaf (yaj (zs (zq (yae hE8) (zq (za (ii v)) (yaa (zr (zq (yae hE5) (zq (yae hE1) (zq (zm (ii v)) ?_))))))))))); obtain ⟨fid, us, hf, he, hcl⟩ := hS.ro 1 rfl _ (Keeps.refl _ _); replace h := hcl _ _ h; clear hcl; refine zn (ycS (hf) (am1 rfl) he (h.mono ?_)); clear hf he; rintro _ w3 ⟨r, rfl, hC, h⟩; replace hS := hS.pur hC.pure; clear hC; refine ⟨_, rfl, ?_⟩; refine zb (zn (yaU (l := [(0, (ii r))]) (cells := [(ii r)]) (bp1 rfl) underlying27 yag rfl rfl ?_)); intro g w4 hN; replace hS := hS.litf (n := 1) 2 rfl (fI .i64) hN ([r] : List Int) rfl (by decide) rfl; clear hN; refine zb ?_; obtain ⟨hx, h⟩ := h; refine zn (ydC (c := cI) rfl rfl underlying27 underlying27 yag rfl rfl (by decide) hS 0 rfl (hS.yo 2 rfl) hx ?_); clear hS; intro A c w5 hS; refine zb (zq (za (.slice A (lout + 1) c)) (yaa (yam (zr ?_)))); obtain ⟨hi, h⟩ := h; refine zq (ycv hE8 rfl hi) (zq (zm (ii (v + 1))) (yaa ?_)); obtain ⟨mq, hlt, h⟩ := h; exact again mq _ _ _ ⟨_, _, _, _, _, h, rfl, hE1, rfl, hE7, rfl, (hS.sel [0, 1] (by decide))⟩ hlt
  · replace h := h.2 hp; exact zd hp (yaL rfl (zs (zq (yae hE5) (zq (za (.slice Aout lout cout)) (yaa (yai rfl rfl ⟨_, _, _, _, rfl, (hS.sel [0] (by decide)), h⟩))))))
def ycb (k : Int) (R : Bool → Prop) : Prop :=
((k < (-1048576) →
R true) ∧
(¬ (k < (-1048576)) →
R (decide (1048576 < k))))
theorem ydM {O : Nat → Prop} {w : World} {k} {R : Bool → Prop} (h : ycb k R) (hO : ∀ k, O k → k < w.heap.size) :
    Calls Try.prog 96 #[(ii k)] w fun e w' => ∃ r, e = .returned (.bool (r)) ∧ Sep w no O w' (rl []) ∧ R r := by
  unfold ycb at h; have hS : Sep w no O w (rl []) := Sep.start w hO; refine yaq (l := [(ii k)]) func96 rfl ntmps96 (Nat.le_of_ble_eq_true rfl) (zs (zq (za (.bool (false))) (yaa (zs (zq (zm (ii k)) (zq zL (zq (zm (.bool (decide (k < (-1048576))))) ?_))))))); by_cases hp : k < (-1048576)
  · replace h := h.1 hp; exact rl_p (yab rfl (yac rfl (congrArg Value.bool (decide_eq_true hp))) rfl) rfl (rl_p (yab rfl (yac rfl (congrArg Value.bool (decide_eq_true hp))) rfl) rfl (zq (yaw (v := (.bool (true))) (congrArg Value.bool (decide_eq_true hp)) rfl) (zq (za (.bool (true))) (yaa (yai rfl rfl ⟨_, rfl, (hS.sel [] (by decide)), h⟩)))))
  · replace h := h.2 hp; exact rl_q (yad rfl (yac rfl (congrArg Value.bool (decide_eq_false hp)))) rfl rfl (zm (ii k)) (rl_q (yad rfl (yac rfl (congrArg Value.bool (decide_eq_false hp)))) rfl rfl zG (zq (yap (v := (.bool (decide (1048576 < k)))) (congrArg Value.bool (decide_eq_false hp)) rfl) (zq (za (.bool (decide (1048576 < k)))) (yaa (yai rfl rfl ⟨_, rfl, (hS.sel [] (by decide)), h⟩)))))
def ybF (g : Int) (g2 : List E3) (d : List Int) (R : Int → Prop) : Prop :=
((((d.length : Nat) : Int) = g →
yaM d (fun x R => ycb x R) (fun r =>
((r = true →
R 2) ∧
(¬ (r = true) →
R 0)))) ∧
(¬ (((d.length : Nat) : Int) = g) →
R 8))
theorem yc3 {O : Nat → Prop} {w : World} {g g2 d Ag lg cg Ad ld cd} {R : Int → Prop} (h : ybF g g2 d R) (hO : ∀ k, O k → k < w.heap.size) (hA0 : (FP.sl c3 Ag lg cg g2).P O w) (hA1 : (FP.sl cI Ad ld cd d).P O w) :
    Calls Try.prog 64 #[(.agg #[(ii g), (.slice Ag lg cg)]), (.slice Ad ld cd)] w fun e w' => ∃ r2, e = .returned (ii r2) ∧ Sep w no O w' (rl []) ∧ R r2 := by
  unfold ybF at h; have hS : Sep w no O w (rl [Res.ro (FP.sl c3 Ag lg cg g2), Res.ro (FP.sl cI Ad ld cd d)]) := Sep.startl hO [(FP.sl c3 Ag lg cg g2), (FP.sl cI Ad ld cd d)] ⟨hA0, hA1, trivial⟩; refine yaq (l := [(.agg #[(ii g), (.slice Ag lg cg)]), (.slice Ad ld cd)]) func64 rfl ntmps64 (Nat.le_of_ble_eq_true rfl) (zs (zn (yb5 (v := (.agg #[(ii g), (.slice Ag lg cg)])) rfl ?_))); intro g3 w2 hN; replace hS : Sep w no O w2 (stl _ 2 (Res.box 24 g3 [(ii g), (.slice Ag lg cg)])) := hS.new 2 rfl hN; clear hN; refine zb (zq (za (ii 0)) (yaa (yaf (zs (zq (zm (.slice Ad ld cd)) (zq (yay (n := d.length) rfl underlying35 (yav (hS.rdr 1 rfl))) (zq (yao rfl underlying24 rfl yag) (zq (zl underlying3 (Row.cell (hS.bx 2 rfl) (i := 0) rfl)) (zq zN (yaa ?_)))))))))); by_cases hp : ((d.length : Nat) : Int) = g
  · replace h := h.1 hp; refine ze hp (yah (yaf (zs (zq (zm (.slice Ad ld cd)) (zn (yak rfl (am2 rfl rfl) enter_34 ((ycl h (yaF _) (hS.rdr 1 rfl) (fun w' hk => ⟨96, #[], rfl, enter_96, fun x R hF => yaT (by simp) (ydM hF (yaF _))⟩)).mono ?_))))))); rintro _ w3 ⟨r, rfl, hC, h⟩; replace hS := hS.pur hC.pure; clear hC; refine ⟨_, rfl, ?_⟩; refine zb (yaa ?_); by_cases hp2 : r = true
    · replace h := h.1 hp2; exact yaE (congrArg Value.bool hp2) (zs (zq (za (ii 2)) (yaa (yai rfl rfl ⟨_, rfl, (hS.sel [] (by decide)), h⟩))))
    · replace h := h.2 hp2; exact ya7 (congrArg Value.bool (Bool.eq_false_iff.2 hp2)) (yah (zs (zq (za (ii 0)) (yaa (yai rfl rfl ⟨_, rfl, (hS.sel [] (by decide)), h⟩)))))
  · replace h := h.2 hp; exact zf hp (zs (zq (za (ii 8)) (yaa (yai rfl rfl ⟨_, rfl, (hS.sel [] (by decide)), h⟩))))
def ybZ (g : Int) (g2 : List E3) (k : Int) (R : (List (Int × Int)) → Int → Prop) : Prop :=
ybI g g2 (fun r r2 =>
((r2 = 0 →
(∃ J2 : Prop, (J2 → (In64 (k - 1) ∧
(In64 ((k - 1) * ((r.length : Nat) : Int)) ∧
(In64 (g + ((k - 1) * ((r.length : Nat) : Int))) ∧
((12 < (g + ((k - 1) * ((r.length : Nat) : Int))) →
R ([]) 5) ∧
(¬ (12 < (g + ((k - 1) * ((r.length : Nat) : Int)))) →
R r 0)))))) ∧
((k < 1 →
R ([]) 2) ∧
(¬ (k < 1) →
((12 < k →
R ([]) 2) ∧
(¬ (12 < k) →
J2)))))) ∧
(¬ (r2 = 0) →
R ([]) r2)))
theorem yd7 {O : Nat → Prop} {w : World} {g g2 k Ag lg cg} {R : (List (Int × Int)) → Int → Prop} (h : ybZ g g2 k R) (hO : ∀ k, O k → k < w.heap.size) (hA0 : (FP.sl c3 Ag lg cg g2).P O w) :
    Calls Try.prog 75 #[(.agg #[(ii g), (.slice Ag lg cg)]), (ii k)] w fun e w' => ∃ r3 r4 Ar2 lr2 cr2, e = .returned (.tuple #[(.slice Ar2 lr2 cr2), (ii r4)]) ∧ Sep w no O w' (rl [Res.own c2 45 Ar2 lr2 cr2 r3]) ∧ R r3 r4 := by
  unfold ybZ at h; have hS : Sep w no O w (rl [Res.ro (FP.sl c3 Ag lg cg g2)]) := Sep.startl hO [(FP.sl c3 Ag lg cg g2)] ⟨hA0, trivial⟩; refine yaq (l := [(.agg #[(ii g), (.slice Ag lg cg)]), (ii k)]) func75 rfl ntmps75 (Nat.le_of_ble_eq_true rfl) (zs (zn (yb5 (v := (.agg #[(ii g), (.slice Ag lg cg)])) rfl ?_))); intro g3 w2 hN; replace hS : Sep w no O w2 (stl _ 1 (Res.box 24 g3 [(ii g), (.slice Ag lg cg)])) := hS.new 1 rfl hN; clear hN; refine zb (zq (za (.slice none 0 0)) (zq (za (ii 0)) (yaa (zs (zq (yaz (vs := [(ii g), (.slice Ag lg cg)]) rfl underlying24 rfl yan ⟨Row.cell (hS.bx 1 rfl) (i := 0) rfl, Row.cell (hS.bx 1 rfl) (i := 1) rfl, trivial⟩) (zn (yak rfl (am1 rfl) ygx ((yc8 h (yaF _) (hS.rdr 0 rfl)).mono ?_)))))))); rintro _ w3 ⟨r, r2, Ar, lr, cr, rfl, hC, h⟩; replace hS := hS.call1 (hC.widen (ybv (yat (fP (fI .i64) (fI .i64)) _ _ _ _ _) ybE) hS.blt) 2 0 rfl; clear hC; refine ⟨_, rfl, ?_⟩; refine zb (zq (zm (.tuple #[(.slice Ar lr cr), (ii r2)])) (zq (zx (.slice Ar lr cr)) (zq (zx (ii r2)) (zq (za (.slice Ar lr cr)) (zq (za (ii r2)) (yaa (yaf (zs (zq (zm (ii r2)) (zq zN (yaa ?_))))))))))); by_cases hp : r2 = 0
  · replace h := h.1 hp; refine ze hp (yah (yaf (yaf ?_))); obtain ⟨J2, hJ, h⟩ := h; refine ycZ (fun E ds w' => J2 ∧ ds = [] ∧ E 1 = (ii k) ∧ E 2 = (Value.pointer (some (⟨g3, 0, none⟩ : Addr))) ∧ E 6 = (Value.slice Ar lr cr) ∧ Sep w no O w' (rl [Res.box 24 g3 [(ii g), (.slice Ag lg cg)], Res.ro (FP.sl c3 Ag lg cg g2), Res.own c2 45 Ar lr cr r])) ?_ ?_
    · clear h hS; rintro E ds w4 ⟨h, rfl, hE1, hE2, hE6, hS⟩; replace h := hJ h; refine yaf (zs (zq (yao hE2 underlying24 rfl yag) (zq (zl underlying3 (Row.cell (hS.bx 0 rfl) (i := 0) rfl)) (zq (yae hE1) ?_)))); obtain ⟨hi, h⟩ := h; refine zq (zS hi) (zq (yae hE6) (zq (yay (n := r.length) rfl underlying46 (yav (hS.rdo 2 rfl))) ?_)); obtain ⟨hi2, h⟩ := h; refine zq (v_mul rfl rfl hi2) ?_; obtain ⟨hi3, h⟩ := h; refine zq (zA hi3) (zq zG (yaa ?_)); by_cases hp2 : 12 < (g + ((k - 1) * ((r.length : Nat) : Int)))
      · replace h := h.1 hp2; refine zc hp2 (zs (zq (za (.slice none 0 0)) (zq (za (ii 5)) (yaa ?_)))); replace hS := hS.nil 3 rfl c2 45; exact yb4 rfl rfl rfl ⟨_, _, _, _, _, rfl, (hS.sel [3] (by decide)), h⟩
      · replace h := h.2 hp2; exact zd hp2 (yah (zs (zq (yae hE6) (zq (za (.slice Ar lr cr)) (zq (za (ii 0)) (yaa (yb4 rfl rfl rfl ⟨_, _, _, _, _, rfl, (hS.sel [2] (by decide)), h⟩)))))))
    clear hJ; intro j; refine zr (zq (zm (ii k)) (zq zL (zq (zm (.bool (decide (k < 1)))) ?_))); by_cases hp3 : k < 1
    · replace h := h.1 hp3; refine rl_p (yab rfl (yac rfl (congrArg Value.bool (decide_eq_true hp3))) rfl) rfl (rl_p (yab rfl (yac rfl (congrArg Value.bool (decide_eq_true hp3))) rfl) rfl (zq (yaw (v := (.bool (true))) (congrArg Value.bool (decide_eq_true hp3)) rfl) (yaa (yaE rfl (zs (zq (za (.slice none 0 0)) (zq (za (ii 2)) (yaa ?_)))))))); replace hS := hS.nil 3 rfl c2 45; exact yb4 rfl rfl rfl ⟨_, _, _, _, _, rfl, (hS.sel [3] (by decide)), h⟩
    · replace h := h.2 hp3; refine rl_q (yad rfl (yac rfl (congrArg Value.bool (decide_eq_false hp3)))) rfl rfl (zm (ii k)) (rl_q (yad rfl (yac rfl (congrArg Value.bool (decide_eq_false hp3)))) rfl rfl zG (zq (yap (v := (.bool (decide (12 < k)))) (congrArg Value.bool (decide_eq_false hp3)) rfl) (yaa ?_))); by_cases hp4 : 12 < k
      · replace h := h.1 hp4; refine zc hp4 (zs (zq (za (.slice none 0 0)) (zq (za (ii 2)) (yaa ?_)))); replace hS := hS.nil 3 rfl c2 45; exact yb4 rfl rfl rfl ⟨_, _, _, _, _, rfl, (hS.sel [3] (by decide)), h⟩
      · replace h := h.2 hp4; exact zd hp4 (yah (j _ _ _ ⟨h, rfl, rfl, rfl, rfl, (hS.sel [1, 0, 2] (by decide))⟩))
  · replace h := h.2 hp; refine zf hp (zs (zq (zm (ii r2)) (zq (za (.slice none 0 0)) (zq (za (ii r2)) (yaa ?_))))); replace hS := hS.nil 3 rfl c2 45; exact yb4 rfl rfl rfl ⟨_, _, _, _, _, rfl, (hS.sel [3] (by decide)), h⟩
def yaD (v : Int) (cap : Int) (cap2 : Int) (R : Int → Prop) : Prop :=
((cap = cap2 →
R v) ∧
(¬ (cap = cap2) →
((v < cap2 →
R v) ∧
(¬ (v < cap2) →
((v = cap2 →
R cap) ∧
(¬ (v = cap2) →
(In64 (v - 1) ∧
R (v - 1))))))))
theorem yaQ {O : Nat → Prop} {w : World} {v cap cap2 gc gc2} {R : Int → Prop} (h : yaD v cap cap2 R) (hO : ∀ k, O k → k < w.heap.size) (hA0 : (FP.bx 3 gc [(Value.int .i64 cap)]).P O w) (hA1 : (FP.bx 3 gc2 [(Value.int .i64 cap2)]).P O w) :
    Calls Try.prog 92 #[(ii v), (.pointer (some (⟨gc, 0, none⟩ : Addr))), (.pointer (some (⟨gc2, 0, none⟩ : Addr)))] w fun e w' => ∃ r, e = .returned (ii r) ∧ Sep w no O w' (rl []) ∧ R r := by
  unfold yaD at h; have hS : Sep w no O w (rl [Res.ro (FP.bx 3 gc [(ii cap)]), Res.ro (FP.bx 3 gc2 [(ii cap2)])]) := Sep.startl hO [(FP.bx 3 gc [(ii cap)]), (FP.bx 3 gc2 [(ii cap2)])] ⟨hA0, hA1, trivial⟩; refine yaq (l := [(ii v), (.pointer (some (⟨gc, 0, none⟩ : Addr))), (.pointer (some (⟨gc2, 0, none⟩ : Addr)))]) func92 rfl ntmps92 (Nat.le_of_ble_eq_true rfl) (zs (zq (za (ii 0)) (yaa (yaf (yaj (zs (zq (zl underlying3 (Row.cell (hS.bxr 0 rfl) (i := 0) rfl)) (zq (zl underlying3 (Row.cell (hS.bxr 1 rfl) (i := 0) rfl)) (zq zE (zq (zm (.bool (decide (cap = cap2)))) ?_)))))))))); by_cases hp : cap = cap2
  · replace h := h.1 hp; exact rl_p (yab rfl (yac rfl (congrArg Value.bool (decide_eq_true hp))) rfl) rfl (rl_p (yab rfl (yac rfl (congrArg Value.bool (decide_eq_true hp))) rfl) rfl (rl_p (yab rfl (yac rfl (congrArg Value.bool (decide_eq_true hp))) rfl) rfl (zq (yaw (v := (.bool (true))) (congrArg Value.bool (decide_eq_true hp)) rfl) (zq (za (.bool (true))) (yaa (yaE rfl (zs (zq (zm (ii v)) (zq (za (ii v)) (yaa (yai rfl rfl ⟨_, rfl, (hS.sel [] (by decide)), h⟩)))))))))))
  · replace h := h.2 hp; refine rl_q (yad rfl (yac rfl (congrArg Value.bool (decide_eq_false hp)))) rfl rfl (zm (ii v)) (rl_q (yad rfl (yac rfl (congrArg Value.bool (decide_eq_false hp)))) rfl rfl (zl underlying3 (Row.cell (hS.bxr 1 rfl) (i := 0) rfl)) (rl_q (yad rfl (yac rfl (congrArg Value.bool (decide_eq_false hp)))) rfl rfl zL (zq (yap (v := (.bool (decide (v < cap2)))) (congrArg Value.bool (decide_eq_false hp)) rfl) (zq (za (.bool (decide (v < cap2)))) (yaa ?_))))); by_cases hp2 : v < cap2
    · replace h := h.1 hp2; exact zc hp2 (zs (zq (zm (ii v)) (zq (za (ii v)) (yaa (yai rfl rfl ⟨_, rfl, (hS.sel [] (by decide)), h⟩)))))
    · replace h := h.2 hp2; refine zd hp2 (zs (zq (zm (ii v)) (zq (zl underlying3 (Row.cell (hS.bxr 1 rfl) (i := 0) rfl)) (zq zE (zq (za (.bool (decide (v = cap2)))) (yaa ?_)))))); by_cases hp3 : v = cap2
      · replace h := h.1 hp3; exact zc hp3 (zs (zq (zl underlying3 (Row.cell (hS.bxr 0 rfl) (i := 0) rfl)) (zq (za (ii cap)) (yaa (yai rfl rfl ⟨_, rfl, (hS.sel [] (by decide)), h⟩)))))
      · replace h := h.2 hp3; refine zd hp3 (yah (yam (zs (zq (zm (ii v)) ?_)))); obtain ⟨hi, h⟩ := h; exact zq (zS hi) (zq (za (ii (v - 1))) (yaa (yai rfl rfl ⟨_, rfl, (hS.sel [] (by decide)), h⟩)))
def ybn (g : Int) (g2 : List E3) (e2 : Int) (R : (List Int) → Int → Prop) : Prop :=
ya9 g g2 e2 (fun r r2 =>
((r2 = 0 →
((0 ≤ e2 ∧ e2 < ((r.length : Nat) : Int)) ∧
((0 ≤ (0 : Int) ∧ (0 : Int) < 2) ∧
((0 ≤ (1 : Int) ∧ (1 : Int) < 2) ∧
(yaB ((gx r e2.toNat).1) ((gx r e2.toNat).2) (fun r3 r4 =>
ybz g (fun x R => yaD x r3 r4 R) (fun r5 =>
R r5 0))))))) ∧
(¬ (r2 = 0) →
R ([]) r2)))
theorem ydt {O : Nat → Prop} {w : World} {g g2 e2 Ag lg cg} {R : (List Int) → Int → Prop} (h : ybn g g2 e2 R) (hO : ∀ k, O k → k < w.heap.size) (hA0 : (FP.sl c3 Ag lg cg g2).P O w) :
    Calls Try.prog 29 #[(.agg #[(ii g), (.slice Ag lg cg)]), (ii e2)] w fun e w' => ∃ r6 r7 Ar3 lr3 cr3, e = .returned (.tuple #[(.slice Ar3 lr3 cr3), (ii r7)]) ∧ Sep w no O w' (rl [Res.own cI 3 Ar3 lr3 cr3 r6]) ∧ R r6 r7 := by
  unfold ybn at h; have hS : Sep w no O w (rl [Res.ro (FP.sl c3 Ag lg cg g2)]) := Sep.startl hO [(FP.sl c3 Ag lg cg g2)] ⟨hA0, trivial⟩; refine yaq (l := [(.agg #[(ii g), (.slice Ag lg cg)]), (ii e2)]) func29 rfl ntmps29 (Nat.le_of_ble_eq_true rfl) (zs (zn (yb5 (v := (.agg #[(ii g), (.slice Ag lg cg)])) rfl ?_))); intro g3 w2 hN; replace hS : Sep w no O w2 (stl _ 1 (Res.box 24 g3 [(ii g), (.slice Ag lg cg)])) := hS.new 1 rfl hN; clear hN; refine zb (zq (za (.slice none 0 0)) (zq (za (ii 0)) (yaa (zs (zq (yaz (vs := [(ii g), (.slice Ag lg cg)]) rfl underlying24 rfl yan ⟨Row.cell (hS.bx 1 rfl) (i := 0) rfl, Row.cell (hS.bx 1 rfl) (i := 1) rfl, trivial⟩) (zq (zm (ii e2)) (zn (yak rfl (am2 rfl rfl) yeI ((ybK h (yaF _) (hS.rdr 0 rfl)).mono ?_))))))))); rintro _ w3 ⟨r, r2, Ar, lr, cr, rfl, hC, h⟩; replace hS := hS.call1 (hC.widen (ybv (yat (fP (fI .i64) (fI .i64)) _ _ _ _ _) ybE) hS.blt) 2 0 rfl; clear hC; refine ⟨_, rfl, ?_⟩; refine zb (zq (zm (.tuple #[(.slice Ar lr cr), (ii r2)])) (zq (zx (.slice Ar lr cr)) (zq (zx (ii r2)) (zq (za (.slice Ar lr cr)) (zq (za (ii r2)) (yaa (yaf (zs (zq (zm (ii r2)) (zq zN (yaa ?_))))))))))); by_cases hp : r2 = 0
  · replace h := h.1 hp; refine ze hp (yah (yaf (ybH [0, 1, 2, 3, 4, 5, 6, 7, 8, 9, 10, 11, 12, 13, 14, 15] (fun i => match i with | 12 => [0, 1] | _ => []) yar (by kernel_rfl) (by kernel_rfl) ?_))); replace hS := hS.drew; refine zp (yao rfl underlying24 rfl yag) (zp (zl underlying3 (Row.cell (hS.bx 1 rfl) (i := 0) rfl)) (zp (zm (.slice Ar lr cr)) (zp (zm (ii e2)) ?_))); obtain ⟨hx, h⟩ := h; refine zp (zi underlying46 yal (yaN (hS.rdo 2 rfl) hx)) ?_; obtain ⟨hx2, h⟩ := h; refine zp (yaA rfl rfl underlying45 yag hx2) (zp (yaK (v := (ii ((gx r e2.toNat).1))) rfl underlying3 rfl (rd_f (hS.rdo 2 rfl) hx (fun q => yaS q) 0 rfl)) ?_); refine zp (zm (.slice Ar lr cr)) (zp (zm (ii e2)) (zp (zi underlying46 yal (yaN (hS.rdo 2 rfl) hx)) ?_)); obtain ⟨hx3, h⟩ := h; refine zp (yaA rfl rfl underlying45 yag hx3) (zp (yaK (v := (ii ((gx r e2.toNat).2))) rfl underlying3 rfl (rd_f (hS.rdo 2 rfl) hx (fun q => yaS q) 1 rfl)) ?_); refine rp_n rfl rfl rfl rfl (yak rfl (am2 rfl rfl) ydK ((ybb h hS.blt).mono ?_)); rintro _ w4 ⟨r3, r4, gr, gr2, rfl, hC, h⟩
    · replace hS := hS.call2 hC 3 0 4 1 rfl rfl (by decide) (by decide); clear hC; refine ⟨_, rfl, ?_⟩; refine ⟨⟨fun hh => Bool.noConfusion (show false = true from hh), ⟨fun hh => Bool.noConfusion (show false = true from hh), ⟨fun hh => Bool.noConfusion (show false = true from hh), ⟨fun hh => Bool.noConfusion (show false = true from hh), ⟨fun hh => Bool.noConfusion (show false = true from hh), ⟨fun hh => Bool.noConfusion (show false = true from hh), ⟨fun hh => Bool.noConfusion (show false = true from hh), ⟨fun hh => Bool.noConfusion (show false = true from hh), ⟨fun hh => Bool.noConfusion (show false = true from hh), ⟨fun hh => Bool.noConfusion (show false = true from hh), ⟨fun _ => (zl underlying3 (Row.cell (hS.bx 1 rfl) (i := 0) rfl)), ⟨fun _ => (yao rfl underlying24 rfl yag), trivial⟩⟩⟩⟩⟩⟩⟩⟩⟩⟩⟩⟩, ?_⟩; replace hS := hS.frzb 3 rfl; replace hS := hS.frzb 4 rfl; refine rp_n rfl rfl rfl rfl (yak rfl (am2 rfl rfl) enter_66 ((ycU h (yaF _) (fun w' hk => ⟨92, #[(.pointer (some (⟨gr, 0, none⟩ : Addr))), (.pointer (some (⟨gr2, 0, none⟩ : Addr)))], rfl, ydl, fun x R hF => yaT (by simp) (yaQ hF (yaF _) (FP.sub _ (FP.keep _ (FP.sub _ (hS.ro 3 rfl) (fun _ _ h => h.elim) : FP.P _ no _) hk) fun _ _ h => h.elim) (FP.sub _ (FP.keep _ (FP.sub _ (hS.ro 4 rfl) (fun _ _ h => h.elim) : FP.P _ no _) hk) fun _ _ h => h.elim))⟩)).mono ?_)); rintro _ w5 ⟨r5, Ar2, lr2, cr2, rfl, hC, h⟩; replace hS := hS.call1 (hC.widen (ybv (yat (fI .i64) _ _ _ _ _) ybE) hS.blt) 5 0 rfl; clear hC; refine ⟨_, rfl, ?_⟩; exact zb (zp (za (.slice Ar2 lr2 cr2)) (zp (za (ii 0)) (ybk (yb4 rfl rfl rfl ⟨_, _, _, _, _, rfl, (hS.sel [5] (by decide)), h⟩))))
  · replace h := h.2 hp; refine zf hp (zs (zq (zm (ii r2)) (zq (za (.slice none 0 0)) (zq (za (ii r2)) (yaa ?_))))); replace hS := hS.nil 3 rfl cI 3; exact yb4 rfl rfl rfl ⟨_, _, _, _, _, rfl, (hS.sel [3] (by decide)), h⟩
def ybj (g : Int) (g2 : List E3) (k : Int) (R : Int → (List E3) → Int → Prop) : Prop :=
ybZ g g2 k (fun r r2 =>
((r2 = 0 →
(∃ I2 : Nat → (List (Int × Int)) → Int → Int → Prop, (∃ m0, I2 m0 ([]) g 0) ∧ ∀ m2 out next v, I2 m2 out next v → 
((v < ((r.length : Nat) : Int) →
((0 ≤ v ∧ v < ((r.length : Nat) : Int)) ∧
((0 ≤ (0 : Int) ∧ (0 : Int) < 2) ∧
(In64 (k - 1) ∧
(∃ I3 : Nat → (List (Int × Int)) → Int → Int → Int → Prop, (∃ m0, I3 m0 out next ((gx r v.toNat).1) 0) ∧ ∀ m3 out2 next2 at2 v2, I3 m3 out2 next2 at2 v2 → 
((v2 < (k - 1) →
(out2.length + 1 ≤ 1000000000 ∧
(In64 (next2 + 1) ∧
(In64 (v2 + 1) ∧
∃ m4, m4 < m3 ∧ I3 m4 (out2 ++ [(at2, next2)]) (next2 + 1) next2 (v2 + 1))))) ∧
(¬ (v2 < (k - 1)) →
((0 ≤ (1 : Int) ∧ (1 : Int) < 2) ∧
(out2.length + 1 ≤ 1000000000 ∧
(In64 (v + 1) ∧
∃ m5, m5 < m2 ∧ I2 m5 (out2 ++ [(at2, (gx r v.toNat).2)]) next2 (v + 1))))))))))) ∧
(¬ (v < ((r.length : Nat) : Int)) →
ybB next out (fun r3 r4 r5 =>
R r3 r4 r5))))) ∧
(¬ (r2 = 0) →
R 0 ([]) r2)))
theorem ydr {O : Nat → Prop} {w : World} {g g2 k Ag lg cg} {R : Int → (List E3) → Int → Prop} (h : ybj g g2 k R) (hO : ∀ k, O k → k < w.heap.size) (hA0 : (FP.sl c3 Ag lg cg g2).P O w) :
    Calls Try.prog 27 #[(.agg #[(ii g), (.slice Ag lg cg)]), (ii k)] w fun e w' => ∃ r6 r7 r8 Ar3 lr3 cr3, e = .returned (.tuple #[(.agg #[(ii r6), (.slice Ar3 lr3 cr3)]), (ii r8)]) ∧ Sep w no O w' (rl [Res.own c3 75 Ar3 lr3 cr3 r7]) ∧ R r6 r7 r8 := by
  unfold ybj at h; have hS : Sep w no O w (rl [Res.ro (FP.sl c3 Ag lg cg g2)]) := Sep.startl hO [(FP.sl c3 Ag lg cg g2)] ⟨hA0, trivial⟩; refine yaq (l := [(.agg #[(ii g), (.slice Ag lg cg)]), (ii k)]) func27 rfl ntmps27 (Nat.le_of_ble_eq_true rfl) (zs (zn (yb5 (v := (.agg #[(ii g), (.slice Ag lg cg)])) rfl ?_))); intro g3 w2 hN; replace hS : Sep w no O w2 (stl _ 1 (Res.box 24 g3 [(ii g), (.slice Ag lg cg)])) := hS.new 1 rfl hN; clear hN; refine zb (zn (ybg yan ?_)); intro g4 w3 hN; replace hS : Sep w no O w3 (stl _ 2 (Res.box 24 g4 [(ii 0), (.slice none 0 0)])) := hS.new 2 rfl hN; clear hN; refine zb (zq (za (ii 0)) (yaa (zs (zq (yaz (vs := [(ii g), (.slice Ag lg cg)]) rfl underlying24 rfl yan ⟨Row.cell (hS.bx 1 rfl) (i := 0) rfl, Row.cell (hS.bx 1 rfl) (i := 1) rfl, trivial⟩) (zq (zm (ii k)) (zn (yak rfl (am2 rfl rfl) enter_75 ((yd7 h (yaF _) (hS.rdr 0 rfl)).mono ?_)))))))); rintro _ w4 ⟨r, r2, Ar, lr, cr, rfl, hC, h⟩; replace hS := hS.call1 (hC.widen (ybv (yat (fP (fI .i64) (fI .i64)) _ _ _ _ _) ybE) hS.blt) 3 0 rfl; clear hC; refine ⟨_, rfl, ?_⟩; refine zb (zq (zm (.tuple #[(.slice Ar lr cr), (ii r2)])) (zq (zx (.slice Ar lr cr)) (zq (zx (ii r2)) (zq (za (.slice Ar lr cr)) (zq (za (ii r2)) (yaa (yaf (zs (zq (zm (ii r2)) (zq zN (yaa ?_))))))))))); by_cases hp : r2 = 0
  · replace h := h.1 hp; refine ze hp (yah (zs (zq (za (.slice none 0 0)) (yaa (zs (zq (yao rfl underlying24 rfl yag) (zq (zl underlying3 (Row.cell (hS.bx 1 rfl) (i := 0) rfl)) (zq (za (ii g)) (yaa (yaf (zs (zq (zm (.slice Ar lr cr)) (zq (yay (n := r.length) rfl underlying46 (yav (hS.rdo 3 rfl))) (zq (zm (ii 0)) (yaa (yaj ?_)))))))))))))))); replace hS := hS.nil 4 rfl c2 45; obtain ⟨I2, ⟨m0, h0⟩, hr⟩ := h; refine yaO (fun m E ds w' => ∃ out next v Aout lout cout, I2 m out next v ∧ ds = [] ∧ E 1 = (ii k) ∧ E 4 = (Value.pointer (some (⟨g4, 0, none⟩ : Addr))) ∧ E 8 = (Value.slice Aout lout cout) ∧ E 9 = (ii next) ∧ E 25 = (Value.slice Ar lr cr) ∧ E 26 = (ii ((r.length : Nat) : Int)) ∧ E 27 = (ii v) ∧ Sep w no O w' (rl [Res.own c2 45 Aout lout cout out, Res.box 24 g4 [(ii 0), (.slice none 0 0)], Res.own c2 45 Ar lr cr r])) m0 ⟨_, _, _, _, _, _, h0, rfl, rfl, rfl, rfl, rfl, rfl, rfl, rfl, (hS.sel [4, 2, 3] (by decide))⟩ ?_; clear h0 hS; rintro m2 E ds w5 ⟨out, next, v, Aout, lout, cout, h, rfl, hE1, hE4, hE8, hE9, hE25, hE26, hE27, hS⟩ again; replace h := hr m2 out next v h; clear hr; refine zs (zq (ycI hE27 hE26) (yaa (yaf ?_))); by_cases hp2 : v < ((r.length : Nat) : Int)
    · replace h := h.1 hp2; refine zc hp2 (yah (yaf (yaj (zs ?_)))); obtain ⟨hx, h⟩ := h; refine zq (ycn hE25 hE27 underlying46 yal (yaN (hS.rdo 2 rfl) hx)) (zq (yaz (vs := [(ii ((gx r v.toNat).1)), (ii ((gx r v.toNat).2))]) rfl underlying45 rfl yal (ydN (hS.rdo 2 rfl) hx (fun q => yaS q))) ?_); refine zn (ybg yal ?_); intro g5 w6 hN; replace hS : Sep w no O w6 (stl _ 3 (Res.box 45 g5 [(ii 0), (ii 0)])) := hS.new 3 rfl hN; clear hN; refine zb (zo (yaJ (b := g5) (o := 0) (cells := #[(ii ((gx r v.toNat).1)), (ii ((gx r v.toNat).2))]) rfl rfl yal rfl rfl (yaC (hS.bx 3 rfl) (Nat.le_of_ble_eq_true rfl)) ?_)); intro w7 e1; replace hS := hS.bstn 3 rfl 0 [(ii ((gx r v.toNat).1)), (ii ((gx r v.toNat).2))] e1; clear e1; refine zb (yaa (zs ?_)); obtain ⟨hx2, h⟩ := h; refine zq (yaA rfl rfl underlying45 yag hx2) (zq (zl underlying3 (Row.cell (hS.bx 3 rfl) (i := 0) rfl)) (zq (za (ii ((gx r v.toNat).1))) (yaa (yaf (zs (zq (yae hE1) ?_)))))); obtain ⟨hi, h⟩ := h; refine zq (zS hi) (zq (zm (ii 0)) (yaa (yaj ?_))); obtain ⟨I3, ⟨m0, h0⟩, hr⟩ := h; refine yaO (fun m E ds w' => ∃ out2 next2 at2 v2 Aout2 lout2 cout2, I3 m out2 next2 at2 v2 ∧ ds = [] ∧ E 1 = (ii k) ∧ E 4 = (Value.pointer (some (⟨g4, 0, none⟩ : Addr))) ∧ E 8 = (Value.slice Aout2 lout2 cout2) ∧ E 9 = (ii next2) ∧ E 11 = (Value.pointer (some (⟨g5, 0, none⟩ : Addr))) ∧ E 12 = (ii at2) ∧ E 25 = (Value.slice Ar lr cr) ∧ E 26 = (ii ((r.length : Nat) : Int)) ∧ E 27 = (ii v) ∧ E 34 = (ii (k - 1)) ∧ E 35 = (ii v2) ∧ Sep w no O w' (rl [Res.own c2 45 Aout2 lout2 cout2 out2, Res.box 24 g4 [(ii 0), (.slice none 0 0)], Res.box 45 g5 [(ii ((gx r v.toNat).1)), (ii ((gx r v.toNat).2))], Res.own c2 45 Ar lr cr r])) m0 ⟨_, _, _, _, _, _, _, h0, rfl, hE1, hE4, hE8, hE9, rfl, rfl, hE25, hE26, hE27, rfl, rfl, (hS.sel [0, 1, 3, 2] (by decide))⟩ ?_; clear h0 hS; rintro m3 E ds w8 ⟨out2, next2, at2, v2, Aout2, lout2, cout2, h, rfl, hE1, hE4, hE8, hE9, hE11, hE12, hE25, hE26, hE27, hE34, hE35, hS⟩ again2; replace h := hr m3 out2 next2 at2 v2 h; clear hr; refine zs (zq (ycI hE35 hE34) (yaa (yaf ?_))); by_cases hp3 : v2 < (k - 1)
      · replace h := h.1 hp3; refine zc hp3 (yah (yaf (yaj (zs (zq (yae hE8) (zq (yae hE12) (zq (yae hE9) (zn (yb9 (l := [(0, (ii at2)), (1, (ii next2))]) (cells := [(ii at2), (ii next2)]) (bp2 rfl rfl) underlying45 yal yag (by kernel_rfl) ?_))))))))); refine zb (zn (yaU (l := [(0, (.agg #[(ii at2), (ii next2)]))]) (cells := [(ii at2), (ii next2)]) (bp1 rfl) underlying46 yal rfl rfl ?_)); intro g6 w9 hN; replace hS := hS.litf (n := 1) 4 rfl (fP (fI .i64) (fI .i64)) hN ([(at2, next2)] : List (Int × Int)) rfl (by decide) rfl; clear hN; refine zb ?_; obtain ⟨hx3, h⟩ := h; refine zn (ydC (c := c2) rfl rfl underlying46 underlying46 yal rfl rfl (by decide) hS 0 rfl (hS.yo 4 rfl) hx3 ?_); clear hS; intro A c w10 hS; refine zb (zq (za (.slice A (lout2 + 1) c)) (yaa (zs (zq (yae hE9) (zq (za (ii next2)) (yaa (zr (zq (yae hE9) ?_)))))))); obtain ⟨hi2, h⟩ := h; refine zq (zA hi2) (zq (za (ii (next2 + 1))) (yaa (yam (zr ?_)))); obtain ⟨hi3, h⟩ := h; refine zq (ycv hE35 rfl hi3) (zq (zm (ii (v2 + 1))) (yaa ?_)); obtain ⟨mq, hlt, h⟩ := h; exact again2 mq _ _ _ ⟨_, _, _, _, _, _, _, h, rfl, hE1, hE4, rfl, rfl, hE11, rfl, hE25, hE26, hE27, hE34, rfl, (hS.sel [0, 1, 2, 3] (by decide))⟩ hlt
      · replace h := h.2 hp3; refine zd hp3 (yaL rfl (zr (zq (yae hE8) (zq (yae hE12) ?_)))); obtain ⟨hx4, h⟩ := h; refine zq (yaA hE11 rfl underlying45 yag hx4) (zq (zl underlying3 (Row.cell (hS.bx 2 rfl) (i := 1) rfl)) (zn (yb9 (l := [(0, (ii at2)), (1, (ii ((gx r v.toNat).2)))]) (cells := [(ii at2), (ii ((gx r v.toNat).2))]) (bp2 rfl rfl) underlying45 yal yag (by kernel_rfl) ?_))); refine zb (zn (yaU (l := [(0, (.agg #[(ii at2), (ii ((gx r v.toNat).2))]))]) (cells := [(ii at2), (ii ((gx r v.toNat).2))]) (bp1 rfl) underlying46 yal rfl rfl ?_)); intro g7 w11 hN; replace hS := hS.litf (n := 1) 4 rfl (fP (fI .i64) (fI .i64)) hN ([(at2, (gx r v.toNat).2)] : List (Int × Int)) rfl (by decide) rfl; clear hN; refine zb ?_; obtain ⟨hx5, h⟩ := h; refine zn (ydC (c := c2) rfl rfl underlying46 underlying46 yal rfl rfl (by decide) hS 0 rfl (hS.yo 4 rfl) hx5 ?_); clear hS; intro A2 c2 w12 hS; refine zb (zq (za (.slice A2 (lout2 + 1) c2)) (yaa (yam (zr ?_)))); obtain ⟨hi4, h⟩ := h; refine zq (ycv hE27 rfl hi4) (zq (zm (ii (v + 1))) (yaa ?_)); obtain ⟨mq, hlt, h⟩ := h; exact again mq _ _ _ ⟨_, _, _, _, _, _, h, rfl, hE1, hE4, rfl, hE9, hE25, hE26, rfl, (hS.sel [0, 1, 3] (by decide))⟩ hlt
    · replace h := h.2 hp2; refine zd hp2 (yaL rfl (zs (zq (yae hE9) (zq (yae hE8) (zn (yak rfl (am2 rfl rfl) ygo ((yc5 h (yaF _) (hS.rdo 0 rfl)).mono ?_))))))); rintro _ w13 ⟨r3, r4, r5, Ar2, lr2, cr2, rfl, hC, h⟩; replace hS := hS.call1 (hC.widen (ybv (yat (fP (fI .i64) (fP (fI .i64) (fI .i64))) _ _ _ _ _) ybE) hS.blt) 3 0 rfl; clear hC; refine ⟨_, rfl, ?_⟩; refine zb (zq (zx (.agg #[(ii r3), (.slice Ar2 lr2 cr2)])) (zq (zx (ii r5)) (zo (yaJ (b := g4) (o := 0) (cells := #[(ii r3), (.slice Ar2 lr2 cr2)]) hE4 rfl yan rfl rfl (yaC (hS.bx 1 rfl) (Nat.le_of_ble_eq_true rfl)) ?_)))); intro w14 e1; replace hS := hS.bstn 1 rfl 0 [(ii r3), (.slice Ar2 lr2 cr2)] e1; clear e1; exact zb (zq (za (ii r5)) (yaa (ych rfl (rv_n (vs := [(ii r3), (.slice Ar2 lr2 cr2)]) hE4 underlying24 rfl yan ⟨Row.cell (hS.bx 1 rfl) (i := 0) rfl, Row.cell (hS.bx 1 rfl) (i := 1) rfl, trivial⟩) (rv_t rfl) ⟨_, _, _, _, _, _, rfl, (hS.sel [3] (by decide)), h⟩)))
  · replace h := h.2 hp; refine zf hp (zs (zn (ybw (l := []) (cells := [(ii 0), (.slice none 0 0)]) (places := [(0, 1), (1, 1)]) (bp0) underlying24 yan (by kernel_rfl) rfl ?_))); refine zb (zq (zm (ii r2)) (zo (yaJ (b := g4) (o := 0) (cells := #[(ii 0), (.slice none 0 0)]) rfl rfl yan rfl rfl (yaC (hS.bx 2 rfl) (Nat.le_of_ble_eq_true rfl)) ?_))); intro w15 e1; replace hS := hS.bstn 2 rfl 0 [(ii 0), (.slice none 0 0)] e1; clear e1; refine zb (zq (za (ii r2)) (yaa ?_)); replace hS := hS.nil 4 rfl c3 75; exact ych rfl (rv_n (vs := [(ii 0), (.slice none 0 0)]) rfl underlying24 rfl yan ⟨Row.cell (hS.bx 2 rfl) (i := 0) rfl, Row.cell (hS.bx 2 rfl) (i := 1) rfl, trivial⟩) (rv_t rfl) ⟨_, _, _, _, _, _, rfl, (hS.sel [4] (by decide)), h⟩
def ybt (d : Int) (d2 : List E3) (i : Int) (a : List Int) (R : (List Int) → Int → Prop) : Prop :=
ya9 d d2 i (fun r r2 =>
((r2 = 0 →
ybF d d2 a (fun r3 =>
((r3 = 0 →
((0 ≤ i ∧ i < ((r.length : Nat) : Int)) ∧
((0 ≤ (0 : Int) ∧ (0 : Int) < 2) ∧
((0 ≤ (1 : Int) ∧ (1 : Int) < 2) ∧
ybf d ((gx r i.toNat).1) ((gx r i.toNat).2) (fun r4 =>
((0 ≤ r4 ∧ r4 ≤ 1000000) ∧
(yaB ((gx r i.toNat).1) ((gx r i.toNat).2) (fun r5 r6 =>
ybz d (fun x R => yaD x r5 r6 R) (fun r7 =>
(∃ I2 : Nat → Int → (List Int) → Prop, (∃ m0, I2 m0 0 (List.replicate r4.toNat (0 : Int))) ∧ ∀ m2 v v2, I2 m2 v v2 → 
((v < ((r7.length : Nat) : Int) →
((0 ≤ v ∧ v < ((r7.length : Nat) : Int)) ∧
((0 ≤ (gi r7 v.toNat) ∧ (gi r7 v.toNat) < ((v2.length : Nat) : Int)) ∧
((0 ≤ v ∧ v < ((a.length : Nat) : Int)) ∧
(In64 ((gi v2 (gi r7 v.toNat).toNat) + (gi a v.toNat)) ∧
(In64 (v + 1) ∧
∃ m3, m3 < m2 ∧ I2 m3 (v + 1) (v2.set (gi r7 v.toNat).toNat ((gi v2 (gi r7 v.toNat).toNat) + (gi a v.toNat))))))))) ∧
(¬ (v < ((r7.length : Nat) : Int)) →
ybF ((v2.length : Nat) : Int) ([]) v2 (fun r8 =>
((r8 = 0 →
R v2 0) ∧
(¬ (r8 = 0) →
R ([]) 11))))))))))))))) ∧
(¬ (r3 = 0) →
R ([]) r3)))) ∧
(¬ (r2 = 0) →
R ([]) r2)))
theorem ydL {O : Nat → Prop} {w : World} {d d2 i a Ad ld cd Aa la ca} {R : (List Int) → Int → Prop} (h : ybt d d2 i a R) (hO : ∀ k, O k → k < w.heap.size) (hA0 : (FP.sl c3 Ad ld cd d2).P O w) (hA1 : (FP.sl cI Aa la ca a).P O w) :
    Calls Try.prog 16 #[(.agg #[(ii d), (.slice Ad ld cd)]), (ii i), (.slice Aa la ca)] w fun e w' => ∃ r9 r10 Ar3 lr3 cr3, e = .returned (.tuple #[(.slice Ar3 lr3 cr3), (ii r10)]) ∧ Sep w no O w' (rl [Res.own cI 3 Ar3 lr3 cr3 r9]) ∧ R r9 r10 := by
  unfold ybt at h; have hS : Sep w no O w (rl [Res.ro (FP.sl c3 Ad ld cd d2), Res.ro (FP.sl cI Aa la ca a)]) := Sep.startl hO [(FP.sl c3 Ad ld cd d2), (FP.sl cI Aa la ca a)] ⟨hA0, hA1, trivial⟩; refine yaq (l := [(.agg #[(ii d), (.slice Ad ld cd)]), (ii i), (.slice Aa la ca)]) func16 rfl ntmps16 (Nat.le_of_ble_eq_true rfl) (zs (zn (yb5 (v := (.agg #[(ii d), (.slice Ad ld cd)])) rfl ?_))); intro g w2 hN; replace hS : Sep w no O w2 (stl _ 2 (Res.box 24 g [(ii d), (.slice Ad ld cd)])) := hS.new 2 rfl hN; clear hN; refine zb (zq (za (.slice none 0 0)) (zq (za (ii 0)) (yaa (zs (zq (yaz (vs := [(ii d), (.slice Ad ld cd)]) rfl underlying24 rfl yan ⟨Row.cell (hS.bx 2 rfl) (i := 0) rfl, Row.cell (hS.bx 2 rfl) (i := 1) rfl, trivial⟩) (zq (zm (ii i)) (zn (yak rfl (am2 rfl rfl) yeI ((ybK h (yaF _) (hS.rdr 0 rfl)).mono ?_))))))))); rintro _ w3 ⟨r, r2, Ar, lr, cr, rfl, hC, h⟩; replace hS := hS.call1 (hC.widen (ybv (yat (fP (fI .i64) (fI .i64)) _ _ _ _ _) ybE) hS.blt) 3 0 rfl; clear hC; refine ⟨_, rfl, ?_⟩; refine zb (zq (zm (.tuple #[(.slice Ar lr cr), (ii r2)])) (zq (zx (.slice Ar lr cr)) (zq (zx (ii r2)) (zq (za (.slice Ar lr cr)) (zq (za (ii r2)) (yaa (yaf (zs (zq (zm (ii r2)) (zq zN (yaa ?_))))))))))); by_cases hp : r2 = 0
  · replace h := h.1 hp; refine ze hp (yah (yaf (zs (zq (yaz (vs := [(ii d), (.slice Ad ld cd)]) rfl underlying24 rfl yan ⟨Row.cell (hS.bx 2 rfl) (i := 0) rfl, Row.cell (hS.bx 2 rfl) (i := 1) rfl, trivial⟩) (zq (zm (.slice Aa la ca)) (zn (yak rfl (am2 rfl rfl) enter_64 ((yc3 h (yaF _) (hS.rdr 0 rfl) (hS.rdr 1 rfl)).mono ?_)))))))); rintro _ w4 ⟨r3, rfl, hC, h⟩; replace hS := hS.pur hC.pure; clear hC; refine ⟨_, rfl, ?_⟩; refine zb (zq (za (ii r3)) (yaa (zs (zq (zm (ii r3)) (zq zN (yaa ?_)))))); by_cases hp2 : r3 = 0
    · replace h := h.1 hp2; refine ze hp2 (yah (yaf (ybH [0, 1, 2, 3, 4, 5, 6, 7, 8, 9, 10, 11] st0 yar (by kernel_rfl) (by kernel_rfl) ?_))); replace hS := hS.drew; refine zp (zm (.slice Ar lr cr)) (zp (zm (ii i)) ?_); obtain ⟨hx, h⟩ := h; refine zp (zi underlying46 yal (yaN (hS.rdo 3 rfl) hx)) ?_; obtain ⟨hx2, h⟩ := h; refine zp (yaA rfl rfl underlying45 yag hx2) (zp (yaK (v := (ii ((gx r i.toNat).1))) rfl underlying3 rfl (rd_f (hS.rdo 3 rfl) hx (fun q => yaS q) 0 rfl)) ?_); refine zp (zm (.slice Ar lr cr)) (zp (zm (ii i)) (zp (zi underlying46 yal (yaN (hS.rdo 3 rfl) hx)) ?_)); obtain ⟨hx3, h⟩ := h; refine zp (yaA rfl rfl underlying45 yag hx3) (zp (yaK (v := (ii ((gx r i.toNat).2))) rfl underlying3 rfl (rd_f (hS.rdo 3 rfl) hx (fun q => yaS q) 1 rfl)) ?_); refine zp (za (ii ((gx r i.toNat).1))) (zp (za (ii ((gx r i.toNat).2))) (ybk (zs (zq (yao rfl underlying24 rfl yag) (zq (zl underlying3 (Row.cell (hS.bx 2 rfl) (i := 0) rfl)) (zq (zm (ii ((gx r i.toNat).1))) (zq (zm (ii ((gx r i.toNat).2))) (zn (yak rfl (am3 rfl rfl rfl) enter_65 ((ycf h (yaF _)).mono ?_)))))))))); rintro _ w5 ⟨r4, rfl, hC, h⟩; replace hS := hS.pur hC.pure; clear hC; refine ⟨_, rfl, ?_⟩; refine zb ?_; obtain ⟨hx4, h⟩ := h; refine zn (ydd rfl rfl underlying35 yag (by decide) rfl hx4 ?_); intro g2 w6 hN; replace hS := hS.made 4 rfl cI (ii 0) (0 : Int) (fun _ _ => rfl) hN (by omega); clear hN; refine zb (zq (za (.slice (some ⟨g2, 0, none⟩) r4.toNat r4.toNat)) (yaa (yaf (yaf (ybH [0, 1, 2, 3, 7, 4, 5, 6] (fun i => match i with | 4 => [0, 1, 7] | 5 => [7] | _ => []) yar (by kernel_rfl) (by kernel_rfl) ?_))))); replace hS := hS.drew; refine zp (yao rfl underlying24 rfl yag) (zp (zl underlying3 (Row.cell (hS.bx 2 rfl) (i := 0) rfl)) (zp (zm (ii ((gx r i.toNat).1))) (zp (zm (ii ((gx r i.toNat).2))) (zp (zm (ii 0)) (rp_n rfl rfl rfl rfl (yak rfl (am2 rfl rfl) ydK ((ybb h hS.blt).mono ?_))))))); rintro _ w7 ⟨r5, r6, gr, gr2, rfl, hC, h⟩
      · replace hS := hS.call2 hC 5 0 6 1 rfl rfl (by decide) (by decide); clear hC; refine ⟨_, rfl, ?_⟩; refine ⟨⟨fun _ => (zm (ii 0)), ⟨fun hh => Bool.noConfusion (show false = true from hh), ⟨fun hh => Bool.noConfusion (show false = true from hh), ⟨fun _ => (zl underlying3 (Row.cell (hS.bx 2 rfl) (i := 0) rfl)), ⟨fun _ => (yao rfl underlying24 rfl yag), trivial⟩⟩⟩⟩⟩, ?_⟩; replace hS := hS.frzb 5 rfl; replace hS := hS.frzb 6 rfl; refine rp_n rfl rfl rfl rfl (yak rfl (am2 rfl rfl) enter_66 ((ycU h (yaF _) (fun w' hk => ⟨92, #[(.pointer (some (⟨gr, 0, none⟩ : Addr))), (.pointer (some (⟨gr2, 0, none⟩ : Addr)))], rfl, ydl, fun x R hF => yaT (by simp) (yaQ hF (yaF _) (FP.sub _ (FP.keep _ (FP.sub _ (hS.ro 5 rfl) (fun _ _ h => h.elim) : FP.P _ no _) hk) fun _ _ h => h.elim) (FP.sub _ (FP.keep _ (FP.sub _ (hS.ro 6 rfl) (fun _ _ h => h.elim) : FP.P _ no _) hk) fun _ _ h => h.elim))⟩)).mono ?_)); rintro _ w8 ⟨r7, Ar2, lr2, cr2, rfl, hC, h⟩; replace hS := hS.call1 (hC.widen (ybv (yat (fI .i64) _ _ _ _ _) ybE) hS.blt) 7 0 rfl; clear hC; refine ⟨_, rfl, ?_⟩; refine ⟨⟨fun _ => (zm (ii 0)), ⟨fun hh => Bool.noConfusion (show false = true from hh), ⟨fun hh => Bool.noConfusion (show false = true from hh), ⟨fun hh => Bool.noConfusion (show false = true from hh), ⟨fun hh => Bool.noConfusion (show false = true from hh), trivial⟩⟩⟩⟩⟩, ?_⟩; refine zp (yay (n := r7.length) rfl underlying27 (yav (hS.rdo 7 rfl))) (ybk (yaj ?_)); obtain ⟨I2, ⟨m0, h0⟩, hr⟩ := h; refine yaO (fun m E ds w' => ∃ v v2, I2 m v v2 ∧ ds = [] ∧ E 2 = (Value.slice Aa la ca) ∧ E 13 = (Value.slice (some ⟨g2, 0, none⟩) r4.toNat r4.toNat) ∧ E 52 = (Value.slice Ar2 lr2 cr2) ∧ E 53 = (ii ((r7.length : Nat) : Int)) ∧ E 54 = (ii v) ∧ Sep w no O w' (rl [Res.ro (FP.sl cI Aa la ca a), Res.own cI 3 (some ⟨g2, 0, none⟩) r4.toNat r4.toNat v2, Res.own cI 3 Ar2 lr2 cr2 r7])) m0 ⟨_, _, h0, rfl, rfl, rfl, rfl, rfl, rfl, (hS.sel [1, 4, 7] (by decide))⟩ ?_; clear h0 hS; rintro m2 E ds w9 ⟨v, v2, h, rfl, hE2, hE13, hE52, hE53, hE54, hS⟩ again; replace h := hr m2 v v2 h; clear hr; refine zs (zq (ycI hE54 hE53) (yaa (yaf ?_))); by_cases hp3 : v < ((r7.length : Nat) : Int)
        · replace h := h.1 hp3; refine zc hp3 (yah (yaf (yaj (zs (zq (yae hE54) ?_))))); obtain ⟨hx5, h⟩ := h; refine zq (ycn hE52 hE54 underlying27 yag (yaN (hS.rdo 2 rfl) hx5)) (zq (yaK (v := (ii (gi r7 v.toNat))) rfl underlying3 rfl (rd_1 (hS.rdo 2 rfl) hx5 (fun q => yby q) rfl)) ?_); refine zq (za (ii v)) (zq (za (ii (gi r7 v.toNat))) (yaa (ybH [0, 1, 2, 3, 4, 5, 6, 7, 8, 9, 10] st0 yar (by kernel_rfl) (by kernel_rfl) ?_))); replace hS := hS.drew; refine zp (yae hE13) (zp (zm (ii (gi r7 v.toNat))) ?_); obtain ⟨hx6, h⟩ := h; refine zp (zi underlying35 yag (yaN (hS.rdo 1 rfl) hx6)) (zp (yaK (v := (ii (gi v2 (gi r7 v.toNat).toNat))) rfl underlying3 rfl (rd_1 (hS.rdo 1 rfl) hx6 (fun q => yby q) rfl)) ?_); refine zp (yae hE2) (zp (zm (ii v)) ?_); obtain ⟨hx7, h⟩ := h; refine zp (zi underlying35 yag (yaN (hS.rdr 0 rfl) hx7)) (zp (yaK (v := (ii (gi a v.toNat))) rfl underlying3 rfl (rd_1 (hS.rdr 0 rfl) hx7 (fun q => yby q) rfl)) ?_); obtain ⟨hi, h⟩ := h; refine zp (zA hi) (zp (zi underlying35 yag (yaN (hS.rdo 1 rfl) hx6)) (ygr rfl rfl rfl (zt (ii ((gi v2 (gi r7 v.toNat).toNat) + (gi a v.toNat))) yag (hS.wr 1 rfl rfl hx6) ?_))); intro w10 e1; replace hS := hS.st 1 rfl rfl hx6 (x := (gi v2 (gi r7 v.toNat).toNat) + (gi a v.toNat)) rfl e1; clear e1; refine zb (ybk (yam (zr ?_))); obtain ⟨hi2, h⟩ := h; refine zq (ycv hE54 rfl hi2) (zq (zm (ii (v + 1))) (yaa ?_)); obtain ⟨mq, hlt, h⟩ := h; exact again mq _ _ _ ⟨_, _, h, rfl, hE2, hE13, hE52, hE53, rfl, (hS.sel [0, 1, 2] (by decide))⟩ hlt
        · replace h := h.2 hp3; refine zd hp3 (yaL rfl (yaf (zs (zq (yae hE13) (zq (yay (n := v2.length) rfl underlying35 (yav (hS.rdo 1 rfl))) (zn (ybw (l := [(0, (ii ((v2.length : Nat) : Int)))]) (cells := [(ii ((v2.length : Nat) : Int)), (.slice none 0 0)]) (places := [(0, 1), (1, 1)]) (bp1 rfl) underlying24 yan (by kernel_rfl) rfl ?_))))))); refine zb (zq (yae hE13) (zn (yak rfl (am2 rfl rfl) enter_64 ((yc3 h (yaF _) (nil_sl _ _ _) (hS.rdo 1 rfl)).mono ?_)))); rintro _ w11 ⟨r8, rfl, hC, h⟩; replace hS := hS.pur hC.pure; clear hC; refine ⟨_, rfl, ?_⟩; refine zb (zq zN (yaa ?_)); by_cases hp4 : r8 = 0
          · replace h := h.1 hp4; exact ze hp4 (yah (zs (zq (yae hE13) (zq (za (.slice (some ⟨g2, 0, none⟩) r4.toNat r4.toNat)) (zq (za (ii 0)) (yaa (yb4 rfl rfl rfl ⟨_, _, _, _, _, rfl, (hS.sel [1] (by decide)), h⟩)))))))
          · replace h := h.2 hp4; refine zf hp4 (zs (zq (za (.slice none 0 0)) (zq (za (ii 11)) (yaa ?_)))); replace hS := hS.nil 3 rfl cI 3; exact yb4 rfl rfl rfl ⟨_, _, _, _, _, rfl, (hS.sel [3] (by decide)), h⟩
    · replace h := h.2 hp2; refine zf hp2 (zs (zq (zm (ii r3)) (zq (za (.slice none 0 0)) (zq (za (ii r3)) (yaa ?_))))); replace hS := hS.nil 4 rfl cI 3; exact yb4 rfl rfl rfl ⟨_, _, _, _, _, rfl, (hS.sel [4] (by decide)), h⟩
  · replace h := h.2 hp; refine zf hp (zs (zq (zm (ii r2)) (zq (za (.slice none 0 0)) (zq (za (ii r2)) (yaa ?_))))); replace hS := hS.nil 4 rfl cI 3; exact yb4 rfl rfl rfl ⟨_, _, _, _, _, rfl, (hS.sel [4] (by decide)), h⟩
def ybi (R : Int → (List E3) → Prop) : Prop :=
R 3 ([(0, 1, 1), (0, 2, 1), (1, 2, 1)])
theorem ybO {O : Nat → Prop} {w : World} {R : Int → (List E3) → Prop} (h : ybi R) (hO : ∀ k, O k → k < w.heap.size) :
    Calls Try.prog 51 #[] w fun e w' => ∃ r r2 Ar lr cr, e = .returned (.agg #[(ii r), (.slice Ar lr cr)]) ∧ Sep w no O w' (rl [Res.own c3 75 Ar lr cr r2]) ∧ R r r2 := by
  unfold ybi at h; have hS : Sep w no O w (rl []) := Sep.start w hO; refine yaq (l := []) func51 rfl ntmps51 (Nat.le_of_ble_eq_true rfl) (zs (zn (ybg yan ?_))); intro g w2 hN; replace hS : Sep w no O w2 (stl _ 0 (Res.box 24 g [(ii 0), (.slice none 0 0)])) := hS.new 0 rfl hN; clear hN; refine zb (yaa (zs (zn (ybw (l := [(0, (ii 0)), (1, (ii 1)), (2, (ii 1))]) (cells := [(ii 0), (ii 1), (ii 1)]) (places := [(0, 1), (1, 1), (2, 1)]) (bp3 rfl rfl rfl) underlying75 yaX (by kernel_rfl) rfl ?_)))); refine zb (zn (ybw (l := [(0, (ii 0)), (1, (ii 2)), (2, (ii 1))]) (cells := [(ii 0), (ii 2), (ii 1)]) (places := [(0, 1), (1, 1), (2, 1)]) (bp3 rfl rfl rfl) underlying75 yaX (by kernel_rfl) rfl ?_)); refine zb (zn (ybw (l := [(0, (ii 1)), (1, (ii 2)), (2, (ii 1))]) (cells := [(ii 1), (ii 2), (ii 1)]) (places := [(0, 1), (1, 1), (2, 1)]) (bp3 rfl rfl rfl) underlying75 yaX (by kernel_rfl) rfl ?_)); refine zb (zn (yaU (l := [(0, (.agg #[(ii 0), (ii 1), (ii 1)])), (1, (.agg #[(ii 0), (ii 2), (ii 1)])), (2, (.agg #[(ii 1), (ii 2), (ii 1)]))]) (cells := [(ii 0), (ii 1), (ii 1), (ii 0), (ii 2), (ii 1), (ii 1), (ii 2), (ii 1)]) (bp3 rfl rfl rfl) underlying22 yaX rfl rfl ?_)); intro g2 w3 hN; replace hS := hS.litf (n := 3) 1 rfl (fP (fI .i64) (fP (fI .i64) (fI .i64))) hN ([(0, 1, 1), (0, 2, 1), (1, 2, 1)] : List E3) rfl (by decide) rfl; clear hN; refine zb (zn (ybw (l := [(0, (ii 3)), (1, (.slice (some ⟨g2, 0, none⟩) 3 3))]) (cells := [(ii 3), (.slice (some ⟨g2, 0, none⟩) 3 3)]) (places := [(0, 1), (1, 1)]) (bp2 rfl rfl) underlying24 yan (by kernel_rfl) rfl ?_)); refine zb (zo (yaJ (b := g) (o := 0) (cells := #[(ii 3), (.slice (some ⟨g2, 0, none⟩) 3 3)]) rfl rfl yan rfl rfl (yaC (hS.bx 0 rfl) (Nat.le_of_ble_eq_true rfl)) ?_)); intro w4 e1; replace hS := hS.bstn 0 rfl 0 [(ii 3), (.slice (some ⟨g2, 0, none⟩) 3 3)] e1; clear e1; exact zb (yaa (yeG rfl (rv_n (vs := [(ii 3), (.slice (some ⟨g2, 0, none⟩) 3 3)]) rfl underlying24 rfl yan ⟨Row.cell (hS.bx 0 rfl) (i := 0) rfl, Row.cell (hS.bx 0 rfl) (i := 1) rfl, trivial⟩) ⟨_, _, _, _, _, rfl, (hS.sel [1] (by decide)), h⟩))
def ygH (g : Int) (g2 : List E3) (e2 : Int) (R : Bool → Prop) : Prop :=
ydI g g2 (fun r =>
((r = true →
ycc g g2 (fun r2 =>
((r2 = 0 →
((0 ≤ e2 →
ycj g g2 (fun r3 =>
R (decide (e2 < r3)))) ∧
(¬ (0 ≤ e2) →
R false))) ∧
(¬ (r2 = 0) →
R false)))) ∧
(¬ (r = true) →
R false)))
theorem yh6 {O : Nat → Prop} {w : World} {g g2 e2 Ag lg cg} {R : Bool → Prop} (h : ygH g g2 e2 R) (hO : ∀ k, O k → k < w.heap.size) (hA0 : (FP.sl c3 Ag lg cg g2).P O w) :
    Calls Try.prog 19 #[(.agg #[(ii g), (.slice Ag lg cg)]), (ii e2)] w fun e w' => ∃ r4, e = .returned (.bool (r4)) ∧ Sep w no O w' (rl []) ∧ R r4 := by
  unfold ygH at h; have hS : Sep w no O w (rl [Res.ro (FP.sl c3 Ag lg cg g2)]) := Sep.startl hO [(FP.sl c3 Ag lg cg g2)] ⟨hA0, trivial⟩; refine yaq (l := [(.agg #[(ii g), (.slice Ag lg cg)]), (ii e2)]) func19 rfl ntmps19 (Nat.le_of_ble_eq_true rfl) (zs (zn (yb5 (v := (.agg #[(ii g), (.slice Ag lg cg)])) rfl ?_))); intro g3 w2 hN; replace hS : Sep w no O w2 (stl _ 1 (Res.box 24 g3 [(ii g), (.slice Ag lg cg)])) := hS.new 1 rfl hN; clear hN; refine zb (zq (za (.bool (false))) (yaa (zs (zq (yaz (vs := [(ii g), (.slice Ag lg cg)]) rfl underlying24 rfl yan ⟨Row.cell (hS.bx 1 rfl) (i := 0) rfl, Row.cell (hS.bx 1 rfl) (i := 1) rfl, trivial⟩) (zn (yak rfl (am1 rfl) enter_11 ((pok_r08_Few h (yaF _) (hS.rdr 0 rfl)).mono ?_))))))); rintro _ w3 ⟨r, rfl, hC, h⟩; replace hS := hS.pur hC.pure; clear hC; refine ⟨_, rfl, ?_⟩; refine zb (zq (zm (.bool (r))) ?_); by_cases hp : r = true
  · replace h := h.1 hp; refine rl_q (yad rfl (yac rfl (congrArg Value.bool hp))) rfl rfl (yaz (vs := [(ii g), (.slice Ag lg cg)]) rfl underlying24 rfl yan ⟨Row.cell (hS.bx 1 rfl) (i := 0) rfl, Row.cell (hS.bx 1 rfl) (i := 1) rfl, trivial⟩) (rl_n (yad rfl (yac rfl (congrArg Value.bool hp))) rfl rfl rfl (yak rfl (am1 rfl) ygS ((yeb h (yaF _) (hS.rdr 0 rfl)).mono ?_))); rintro _ w4 ⟨r2, rfl, hC, h⟩; replace hS := hS.pur hC.pure; clear hC; refine ⟨_, rfl, ?_⟩; refine zb (rl_q (yad rfl (yac rfl (congrArg Value.bool hp))) rfl rfl zE (zq (yaw (v := (.bool (decide (r2 = 0)))) (congrArg Value.bool hp) rfl) (zq (zm (.bool (decide (r2 = 0)))) ?_))); by_cases hp2 : r2 = 0
    · replace h := h.1 hp2; refine rl_q (yad rfl (yac rfl (congrArg Value.bool (decide_eq_true hp2)))) rfl rfl (zm (ii e2)) (rl_q (yad rfl (yac rfl (congrArg Value.bool (decide_eq_true hp2)))) rfl rfl (v_geq rfl rfl) (zq (yaw (v := (.bool (decide (0 ≤ e2)))) (congrArg Value.bool (decide_eq_true hp2)) rfl) (zq (zm (.bool (decide (0 ≤ e2)))) ?_))); by_cases hp3 : 0 ≤ e2
      · replace h := h.1 hp3; refine rl_q (yad rfl (yac rfl (congrArg Value.bool (decide_eq_true hp3)))) rfl rfl (zm (ii e2)) (rl_q (yad rfl (yac rfl (congrArg Value.bool (decide_eq_true hp3)))) rfl rfl (yaz (vs := [(ii g), (.slice Ag lg cg)]) rfl underlying24 rfl yan ⟨Row.cell (hS.bx 1 rfl) (i := 0) rfl, Row.cell (hS.bx 1 rfl) (i := 1) rfl, trivial⟩) (rl_n (yad rfl (yac rfl (congrArg Value.bool (decide_eq_true hp3)))) rfl rfl rfl (yak rfl (am1 rfl) yhd ((yeq h (yaF _) (hS.rdr 0 rfl)).mono ?_)))); rintro _ w5 ⟨r3, rfl, hC, h⟩; replace hS := hS.pur hC.pure; clear hC; refine ⟨_, rfl, ?_⟩; exact zb (rl_q (yad rfl (yac rfl (congrArg Value.bool (decide_eq_true hp3)))) rfl rfl zL (zq (yaw (v := (.bool (decide (e2 < r3)))) (congrArg Value.bool (decide_eq_true hp3)) rfl) (zq (za (.bool (decide (e2 < r3)))) (yaa (yai rfl rfl ⟨_, rfl, (hS.sel [] (by decide)), h⟩)))))
      · replace h := h.2 hp3; exact rl_p (yab rfl (yac rfl (congrArg Value.bool (decide_eq_false hp3))) rfl) rfl (rl_p (yab rfl (yac rfl (congrArg Value.bool (decide_eq_false hp3))) rfl) rfl (rl_p (yab rfl (yac rfl (congrArg Value.bool (decide_eq_false hp3))) rfl) rfl (rl_p (yab rfl (yac rfl (congrArg Value.bool (decide_eq_false hp3))) rfl) rfl (zq (yap (v := (.bool (false))) (congrArg Value.bool (decide_eq_false hp3)) rfl) (zq (za (.bool (false))) (yaa (yai rfl rfl ⟨_, rfl, (hS.sel [] (by decide)), h⟩)))))))
    · replace h := h.2 hp2; exact rl_p (yab rfl (yac rfl (congrArg Value.bool (decide_eq_false hp2))) rfl) rfl (rl_p (yab rfl (yac rfl (congrArg Value.bool (decide_eq_false hp2))) rfl) rfl (zq (yap (v := (.bool (false))) (congrArg Value.bool (decide_eq_false hp2)) rfl) (zq (zm (.bool (false))) (rl_p (yab rfl (yac rfl rfl) rfl) rfl (rl_p (yab rfl (yac rfl rfl) rfl) rfl (rl_p (yab rfl (yac rfl rfl) rfl) rfl (rl_p (yab rfl (yac rfl rfl) rfl) rfl (zq (yap (v := (.bool (false))) rfl rfl) (zq (za (.bool (false))) (yaa (yai rfl rfl ⟨_, rfl, (hS.sel [] (by decide)), h⟩)))))))))))
  · replace h := h.2 hp; exact rl_p (yab rfl (yac rfl (congrArg Value.bool (Bool.eq_false_iff.2 hp))) rfl) rfl (rl_p (yab rfl (yac rfl (congrArg Value.bool (Bool.eq_false_iff.2 hp))) rfl) rfl (rl_p (yab rfl (yac rfl (congrArg Value.bool (Bool.eq_false_iff.2 hp))) rfl) rfl (zq (yap (v := (.bool (false))) (congrArg Value.bool (Bool.eq_false_iff.2 hp)) rfl) (zq (zm (.bool (false))) (rl_p (yab rfl (yac rfl rfl) rfl) rfl (rl_p (yab rfl (yac rfl rfl) rfl) rfl (zq (yap (v := (.bool (false))) rfl rfl) (zq (zm (.bool (false))) (rl_p (yab rfl (yac rfl rfl) rfl) rfl (rl_p (yab rfl (yac rfl rfl) rfl) rfl (rl_p (yab rfl (yac rfl rfl) rfl) rfl (rl_p (yab rfl (yac rfl rfl) rfl) rfl (zq (yap (v := (.bool (false))) rfl rfl) (zq (za (.bool (false))) (yaa (yai rfl rfl ⟨_, rfl, (hS.sel [] (by decide)), h⟩))))))))))))))))
end Go.Proofs.Ytinoedockljfeaa

/- Table, whose rows stay one's own; printed by tab.py. -/
namespace Go.Proofs.Ytinoedockljfeaa
open Go Go.RowKit Go.Shelf Go.Proofs.Try
set_option linter.unusedVariables false
set_option maxRecDepth 100000
end Go.Proofs.Ytinoedockljfeaa
