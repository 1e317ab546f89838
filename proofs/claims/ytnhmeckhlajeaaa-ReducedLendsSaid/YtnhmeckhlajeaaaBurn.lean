/- The walk of the fire that starts at q: the unburnt vertices of a state. -/
import Derived.Test.YtnhmeckhlajeaaaJoins
import Derived.Test.YtnhmeckhlajeaaaBegin
import Derived.Deep.LoopGhost
namespace Go.Proofs.Ytnhmeckhlajeaaa
open Go.RowKit
set_option maxRecDepth 100000
set_option maxHeartbeats 4000000

theorem bool_info : (Try.prog.info? 4).map (fun i => (i.zero, i.size, i.bytes)) = some (some (.bool false), 1, 1) := by kernel_rfl
theorem make_bools (n : Nat) (hn : n ≤ 1000000) (w : World) :
    (Instr.makeSlice 102 (.int .i64 (n : Int)) (.int .i64 (n : Int))).run Try.prog w = .ok (.slice (some ⟨w.heap.size, 0, none⟩) n n) (w.alloc (.cells (Array.replicate n (.bool false)) 4)) := by
  obtain ⟨i0, hi, hz, hs, hb⟩ := info_parts bool_info
  exact run_make_one _ _ i0 _ Try.underlying102 hi hz hs (by omega) rfl n hn w

theorem isBurnt_any (B g n c : Nat) (burnt : List Bool) (u : Nat) (w : World) (hB : Row w B 102 1 [.slice (some ⟨g, 0, none⟩) n c]) (hg : BRow w g 4 c burnt) (hl : burnt.length = n) (hu : u < n) :
    Calls Try.prog 123 #[.int .i64 (u : Int), .pointer (some ⟨B, 0, none⟩)] w fun e w' => e = .returned (.bool (gb burnt u)) ∧ w = w' := by
  have c0 := Row.cell hB (i := 0) rfl
  have c1 := bcell hg (k := u) (by omega)
  have j1 : (0 : Int) ≤ (u : Int) := by omega
  have j2 : (u : Int) < (n : Int) := by omega
  clear hl
  go_enter Try.func123, Try.ntmps123
  go_wp2
  go_ret
  exact ⟨rfl, rfl⟩

/-- How many are not burnt. -/
def cf (b : List Bool) : Nat := (b.filter fun x => !x).length
theorem cf_set {b : List Bool} {v : Nat} (h : v < b.length) (hv : gb b v = false) : cf (b.set v true) + 1 = cf b := by
  unfold cf
  induction b generalizing v with
  | nil => simp at h
  | cons x b ih =>
    cases v with
    | zero =>
      simp [gb] at hv
      subst hv
      simp
    | succ v =>
      have := ih (v := v) (by simpa using h) (by simpa [gb] using hv)
      simp only [List.set_cons_succ, List.filter_cons]
      split
      · simp only [List.length_cons]; omega
      · omega

/-- No vertex catches fire any more. -/
def Closed (n : Nat) (es : List E3) (d : List Int) (b : List Bool) : Prop := ∀ v, v < n → gb b v = false → joinsF es (v : Int) (fun u => gb b u.toNat) ≤ gi d v
/-- What burns had to: a set without q that can fire without a debt does not burn. -/
def Forced (n : Nat) (es : List E3) (q : Nat) (d : List Int) (b : List Bool) : Prop :=
  ∀ S : Nat → Bool, S q = false → (∀ v, v < n → S v = true → joinsF es (v : Int) (fun u => !S u.toNat) ≤ gi d v) → ∀ v, v < n → S v = true → gb b v = false

theorem addF_mono {p p' : Int → Bool} (l : List (Int × Int)) (h : ∀ q ∈ l, 0 ≤ q.2) (hpp : ∀ q ∈ l, p q.1 = true → p' q.1 = true) : addF p l ≤ addF p' l := by
  suffices H : ∀ (l : List (Int × Int)) (a a' : Int), (∀ q ∈ l, 0 ≤ q.2) → (∀ q ∈ l, p q.1 = true → p' q.1 = true) → a ≤ a' → l.foldl (fun n x => if p x.1 then n + x.2 else n) a ≤ l.foldl (fun n x => if p' x.1 then n + x.2 else n) a' from H l 0 0 h hpp (Int.le_refl _)
  intro l
  induction l with
  | nil => intro a a' _ _ h; exact h
  | cons x l ih =>
    intro a a' h hpp hle
    rw [List.foldl_cons, List.foldl_cons]
    refine ih _ _ (fun q hq => h q (by simp [hq])) (fun q hq => hpp q (by simp [hq])) ?_
    have h0 := h x (by simp)
    have h1 := hpp x (by simp)
    by_cases hp : p x.1 = true
    · rw [if_pos hp, if_pos (h1 hp)]; omega
    · rw [if_neg hp]; split <;> omega

theorem linksF_range {es : List E3} {n : Nat} (hE : ∀ x ∈ es, 0 ≤ x.1 ∧ x.1 < n ∧ 0 ≤ x.2.1 ∧ x.2.1 < n ∧ 0 ≤ x.2.2 ∧ x.2.2 ≤ 50) {v u m : Int} (h : (u, m) ∈ linksF es v) : 0 ≤ u ∧ u < n ∧ 0 ≤ m ∧ m ≤ 50 := by
  obtain ⟨x, hx, hl⟩ := List.mem_filterMap.1 h
  have h1 := hE x hx
  unfold link at hl
  split at hl
  · simp only [Option.some.injEq, Prod.mk.injEq] at hl
    omega
  · cases hl

theorem Forced.step {n : Nat} {es : List E3} {q : Nat} {d : List Int} {b : List Bool} (h : Forced n es q d b) (hE : ∀ x ∈ es, 0 ≤ x.1 ∧ x.1 < n ∧ 0 ≤ x.2.1 ∧ x.2.1 < n ∧ 0 ≤ x.2.2 ∧ x.2.2 ≤ 50) {v : Nat} (hv : v < b.length) (hc : gi d v < joinsF es (v : Int) (fun u => gb b u.toNat)) : Forced n es q d (b.set v true) := by
  intro S hq hS u hu hSu
  rw [gb_set hv]
  by_cases e : u = v
  · subst e
    exfalso
    have h1 := hS u hu hSu
    have h2 : joinsF es (u : Int) (fun x => gb b x.toNat) ≤ joinsF es (u : Int) (fun x => !S x.toNat) := by
      unfold joinsF
      refine addF_mono _ (fun q hq => (linksF_range hE (v := (u : Int)) (u := q.1) (m := q.2) hq).2.2.1) (fun y hy hb => ?_)
      have hr := linksF_range hE (v := (u : Int)) (u := y.1) (m := y.2) hy
      cases hs : S y.1.toNat with
      | false => rfl
      | true =>
        have := h S hq hS y.1.toNat (by omega) hs
        simp only [this] at hb
        cases hb
    omega
  · rw [if_neg e]
    exact h S hq hS u hu hSu

def UnburntPost (n : Nat) (es : List E3) (q : Nat) (d : List Int) (w : World) (e : Ending) (w' : World) : Prop :=
  ∃ g left, e = .returned (.tuple #[.slice (some ⟨g, 0, none⟩) n n, .bool (left.any id)]) ∧ w.heap.size ≤ g ∧ BRow w' g 4 n left ∧ left.length = n ∧ Pure w w' ∧
    ∃ burnt : List Bool, burnt.length = n ∧ left = burnt.map (!·) ∧ gb burnt q = true ∧ Closed n es d burnt ∧ Forced n es q d burnt

theorem unburnt_any (X gd gs n : Nat) (A : Option Addr) (es : List E3) (cap cdd cs q : Nat) (d s : List Int) (e : Int) (w : World) (hS : State w X gd gs n A es cap cdd cs q d s e) (hes : Edges w A es)
    (hq : q < n) (hn : n ≤ 12) (hE : ∀ x ∈ es, 0 ≤ x.1 ∧ x.1 < n ∧ 0 ≤ x.2.1 ∧ x.2.1 < n ∧ 0 ≤ x.2.2 ∧ x.2.2 ≤ 50) (hel : es.length ≤ 1000) :
    Calls Try.prog 76 #[.pointer (some ⟨X, 0, none⟩)] w (UnburntPost n es q d w) := by
  obtain ⟨hX, hd, hs, hne, hdl, hsl⟩ := hS
  have hmf : ∀ (fn : Fn) (first cap : Array Value) (w : World), (Instr.makeFunc fn first cap).run Try.prog w = .ok (.func fn first cap) w := fun _ _ _ _ => rfl
  have hmk := make_bools n (by omega)
  have HL := Lib.hid (And.intro hdl hsl)
  have HE := Lib.hid hE
  have HES := Lib.hid hes
  clear hdl hsl hE hes
  have x0 := Row.cell hX (i := 0) rfl
  have x2 := Row.cell hX (i := 2) rfl
  have lX := hX.lt
  have jq1 : (0 : Int) ≤ (q : Int) := by omega
  have jq2 : (q : Int) < (n : Int) := by omega
  go_enter Try.func76, Try.ntmps76
  go_wp2
  go_region
  obtain ⟨W1, hW1⟩ : ∃ W1, ((w.alloc (.cells ((Array.replicate n (.bool false)).setIfInBounds q (.bool true)) 4)).alloc (.cells #[.slice (some ⟨w.heap.size, 0, none⟩) n n] 102)).drew = W1 := ⟨_, rfl⟩
  have rb1 : BRow W1 w.heap.size 4 n ((List.replicate n false).set q true) := by
    rw [← hW1]
    have := Row.alloc (Row.new w ((Array.replicate n (Value.bool false)).setIfInBounds q (.bool true)) 4) (.cells #[.slice (some ⟨w.heap.size, 0, none⟩) n n] 102)
    simp only [Array.size_setIfInBounds, Array.size_replicate, Array.toList_setIfInBounds, Array.toList_replicate] at this
    unfold BRow
    rw [List.map_set, List.map_replicate]
    exact this
  have rB1 : Row W1 (w.heap.size + 1) 102 1 [.slice (some ⟨w.heap.size, 0, none⟩) n n] := by
    rw [← hW1]
    have := Row.new (w.alloc (.cells ((Array.replicate n (Value.bool false)).setIfInBounds q (.bool true)) 4)) #[.slice (some ⟨w.heap.size, 0, none⟩) n n] 102
    rw [World.size_alloc] at this
    exact this
  have p1 : Pure w W1 := by rw [← hW1]; exact (by repeat (first | exact Keeps.refl _ _ | assumption | refine Keeps.drew ?_ | refine Keeps.drewN ?_ _ | refine Keeps.alloc ?_ _ | refine Keeps.setRow ?_ (by simp) _ | refine Keeps.setRow ?_ (by simp; omega) _ | refine Keeps.setCell ?_ (by simp) _ | refine Keeps.setCell ?_ (by simp; omega) _))
  rw [hW1]
  clear hW1 x0 x2
  go_wp2
  have hb0 : Hid (((List.replicate n false).set q true).length = n ∧ gb ((List.replicate n false).set q true) q = true ∧ Forced n es q d ((List.replicate n false).set q true)) := by
    refine ⟨by simp, by rw [gb_set (by simpa using hq), if_pos rfl], fun S hSq hS v hv hSv => ?_⟩
    rw [gb_set (by simpa using hq)]
    split
    · rename_i e; subst e; rw [hSq] at hSv; cases hSv
    · simp [gb, hv]
  go_loopg [6] (2 * n + 2) (fun m again wr => ∃ (ag : Bool) (b : List Bool), again = .bool ag ∧ BRow wr w.heap.size 4 n b ∧ Row wr (w.heap.size + 1) 102 1 [.slice (some ⟨w.heap.size, 0, none⟩) n n] ∧ Pure w wr ∧ Hid (b.length = n ∧ gb b q = true ∧ Forced n es q d b) ∧ Hid (ag = false → Closed n es d b) ∧ Hid (2 * cf b + (if ag then 1 else 0) ≤ m))
  case atStart => exact ⟨true, _, rfl, rb1, rB1, p1, hb0, (fun h => by cases h), by
    have : cf ((List.replicate n false).set q true) ≤ n := by
      unfold cf
      have := List.length_filter_le (fun x => !x) ((List.replicate n false).set q true)
      simpa using this
    simp only [Hid]; simp; omega⟩
  clear rb1 rB1 p1 hb0
  case round =>
    obtain ⟨ag, b, rfl, rb, rB, hp, HI, HC, HM⟩ := hrel
    cases ag with
    | false =>
      have cB := Row.cell rB (i := 0) rfl
      have hXr := hp.row hX id
      have x0 := Row.cell hXr (i := 0) rfl
      have lX := hXr.lt
      have lb := Row.lt rb
      have lB := rB.lt
      go_wp2
      obtain ⟨g2, hg2⟩ : ∃ g2, wr.heap.size = g2 := ⟨_, rfl⟩
      have hl0 := brow_made wr n 4
      have rb2 := Row.alloc rb (.cells (Array.replicate n (.bool false)) 4)
      have rB2 := rB.alloc (.cells (Array.replicate n (.bool false)) 4)
      have p2 : Pure w (wr.alloc (.cells (Array.replicate n (.bool false)) 4)) := hp.alloc _
      have hgl : w.heap.size + 1 < g2 := by omega
      rw [hg2] at hl0 ⊢
      clear x0 cB hXr lX lb lB
      go_loopw [9, 64] (fun sm i wr2 => ∃ (k : Nat) (so : Bool) (left : List Bool), k ≤ n ∧ i = .int .i64 k ∧ sm = .bool so ∧ BRow wr2 g2 4 n left ∧ BRow wr2 w.heap.size 4 n b ∧ Row wr2 (w.heap.size + 1) 102 1 [.slice (some ⟨w.heap.size, 0, none⟩) n n] ∧ Pure w wr2 ∧ Hid (left.length = n ∧ ∀ j, j < k → gb left j = !gb b j) ∧ Hid (so = true ↔ ∃ j, j < k ∧ gb b j = false)) (fun _ i _ => n - (intOf i).toNat)
      case atStart => exact ⟨0, false, List.replicate n false, Nat.zero_le _, rfl, rfl, hl0, rb2, rB2, p2, ⟨by simp, fun j hj => absurd hj (by omega)⟩, by simp [Hid]⟩
      clear hl0 rb2 rB2 p2 hg2
      case round =>
        obtain ⟨k, so, left, hk, rfl, rfl, rl, rb, rB, hp, HLF, HSO⟩ := hrel
        by_cases hlt : k < n
        · have cB := Row.cell rB (i := 0) rfl
          have cb := bcell rb (k := k) (by rw [HI.out.1]; exact hlt)
          have cl := bcell rl (k := k) (by rw [HLF.out.1]; exact hlt)
          have fl := Row.frozen rl k
          have cl2 := bcell (bset rl k (!gb b k)) (k := k) (by rw [List.length_set, HLF.out.1]; exact hlt)
          rw [gb_set (by rw [HLF.out.1]; exact hlt), if_pos rfl] at cl2
          have j1 : (0 : Int) ≤ (k : Int) := by omega
          have j2 : (k : Int) < (n : Int) := by omega
          have hstep : Hid ((left.set k (!gb b k)).length = n ∧ ∀ j, j < k + 1 → gb (left.set k (!gb b k)) j = !gb b j) := by
            refine ⟨by simpa using HLF.out.1, fun j hj => ?_⟩
            rw [gb_set (by rw [HLF.out.1]; exact hlt)]
            split
            · rename_i e; rw [e]
            · exact HLF.out.2 j (by omega)
          have hso1 : Hid ((so || !gb b k) = true ↔ ∃ j, j < k + 1 ∧ gb b j = false) := by
            rw [Hid, Bool.or_eq_true, HSO.out]
            constructor
            · rintro (⟨j, hj, hjb⟩ | h)
              · exact ⟨j, by omega, hjb⟩
              · exact ⟨k, by omega, by simpa using h⟩
            · rintro ⟨j, hj, hjb⟩
              by_cases e : j = k
              · subst e; exact .inr (by simp [hjb])
              · exact .inl ⟨j, by omega, hjb⟩
          obtain ⟨bk, hbk⟩ : ∃ bk, bk = gb b k := ⟨_, rfl⟩
          rw [← hbk] at cb cl2 hstep hso1
          clear hbk
          cases so with
          | true =>
            go_wp2
            go_roundw
            case rel => exact ⟨k + 1, true, _, by omega, by go_num, rfl, bset rl k (!bk), Row.far rb (by simp; omega) _, rB.far (by simp; omega) _, hp.setCell (fun h => absurd h (by simp; omega)) _, hstep, hso1⟩
            case measure => simp [intOf]; omega
          | false =>
            go_wp2
            go_roundw
            case rel => exact ⟨k + 1, !bk, _, by omega, by go_num, rfl, bset rl k (!bk), Row.far rb (by simp; omega) _, rB.far (by simp; omega) _, hp.setCell (fun h => absurd h (by simp; omega)) _, hstep, hso1⟩
            case measure => simp [intOf]; omega
        · obtain rfl : k = n := by omega
          go_wp2
          go_ret2
          have hle : left = b.map (!·) := by
            refine gb_ext (by rw [HLF.out.1, List.length_map, HI.out.1]) (fun j hj => ?_)
            rw [HLF.out.1] at hj
            rw [HLF.out.2 j hj]
            have h1 : j < b.length := by rw [HI.out.1]; exact hj
            have h2 : j < (b.map (!·)).length := by rw [List.length_map]; exact h1
            rw [gb_of_lt h2, List.getElem_map, gb_of_lt h1]
          have hso : so = left.any id := by
            rw [Bool.eq_iff_iff, HSO.out, List.any_eq_true]
            constructor
            · rintro ⟨j, hj, hjb⟩
              refine ⟨gb left j, ?_, by rw [HLF.out.2 j hj, hjb]; rfl⟩
              rw [gb_of_lt (by rw [HLF.out.1]; exact hj)]; exact List.getElem_mem _
            · rintro ⟨x, hx, hxt⟩
              obtain ⟨j, hj, rfl⟩ := List.getElem_of_mem hx
              have hj' : j < k := by rw [← HLF.out.1]; exact hj
              refine ⟨j, hj', ?_⟩
              have := HLF.out.2 j hj'
              rw [gb_of_lt hj] at this
              simp only [id] at hxt
              rw [hxt] at this
              simpa using this.symm
          exact ⟨g2, left, by rw [← hso]; rfl, by omega, rl, HLF.out.1, hp, b, HI.out.1, hle, HI.out.2.1, HC.out trivial, HI.out.2.2⟩
    | true =>
      have hXr := hp.row hX id
      have x0 := Row.cell hXr (i := 0) rfl
      go_wp2
      obtain ⟨wo, rfl⟩ : ∃ wo : World, wo = wr := ⟨_, rfl⟩
      go_loopw [6, 30] (fun again i wr => ∃ (k : Nat) (ag : Bool) (b' : List Bool), k ≤ n ∧ i = .int .i64 k ∧ again = .bool ag ∧ BRow wr w.heap.size 4 n b' ∧ Row wr (w.heap.size + 1) 102 1 [.slice (some ⟨w.heap.size, 0, none⟩) n n] ∧ Pure w wr ∧ Hid (b'.length = n ∧ gb b' q = true ∧ Forced n es q d b') ∧ Hid (ag = false → b' = b ∧ ∀ v, v < k → gb b v = false → joinsF es (v : Int) (fun u => gb b u.toNat) ≤ gi d v) ∧ Hid (cf b' + (if ag then 1 else 0) ≤ cf b)) (fun _ i _ => n - (intOf i).toNat)
      case atStart => exact ⟨0, false, b, Nat.zero_le _, rfl, rfl, rb, rB, hp, HI, fun _ => ⟨rfl, fun v hv => absurd hv (by omega)⟩, by simp [Hid]⟩
      case round =>
        obtain ⟨k, ag, b', hk, rfl, rfl, rb', rB', hp', HI', HA, HM'⟩ := hrel
        by_cases hlt : k < n
        · have cB := Row.cell rB' (i := 0) rfl
          have cb := bcell rb' (k := k) (by rw [HI'.out.1]; exact hlt)
          have hXr := hp'.row hX id
          have hdr := hp'.row hd id
          have x3 := Row.cell hXr (i := 3) rfl
          have cd := icell hdr (k := k) (by rw [HL.out.1]; exact hlt)
          have j1 : (0 : Int) ≤ (k : Int) := by omega
          have j2 : (k : Int) < (n : Int) := by omega
          have j3 : (k : Int) < (d.length : Int) := by rw [HL.out.1]; exact j2
          by_cases hb : gb b' k = true
          · rw [hb] at cb
            have HB := Lib.hid hb
            clear hb
            go_wp2
            go_region
            go_wp2
            go_roundw
            case rel =>
              refine ⟨k + 1, ag, b', by omega, by go_num, rfl, rb', rB', hp'.drew, HI', ?_, HM'⟩
              intro hag
              obtain ⟨e1, e2⟩ := HA.out hag
              refine ⟨e1, fun v hv hvb => ?_⟩
              by_cases e : v = k
              · subst e; rw [← e1, HB.out] at hvb; cases hvb
              · exact e2 v (by omega) hvb
            case measure => simp [intOf]; omega
          · have hb' : gb b' k = false := by simpa using hb
            rw [hb'] at cb
            have HB := Lib.hid hb'
            clear hb hb'
            obtain ⟨J, hJ⟩ : ∃ J, J = joinsF es (k : Int) (fun u => gb b' u.toNat) := ⟨_, rfl⟩
            have hcall : ∀ W, Pure wr W → Calls Try.prog 114 #[.pointer (some ⟨X, 0, none⟩), .int .i64 (k : Int), .func (.func 123) #[] #[.pointer (some ⟨w.heap.size + 1, 0, none⟩)]] W fun e w' => e = .returned (.int .i64 J) ∧ Pure W w' := by
              intro W hpW
              rw [hJ]
              have hpWw : Pure w W := hp'.trans hpW
              refine joins_any X A es cap (k : Int) 123 #[.pointer (some ⟨w.heap.size + 1, 0, none⟩)] (fun u => gb b' u.toNat) W (hpW.cell id (Row.cell hXr (i := 1) rfl)) (HES.out.keep hpWw) (fun x hx => by have := HE.out x hx; omega) (fun x hx => by have := HE.out x hx; omega) j1 (by omega) hel (enters_of Try.func123 (by kernel_rfl) rfl) ?_
              rintro u W2 hp2 ⟨m, hm⟩
              obtain ⟨u1, u2, _, _⟩ := linksF_range HE.out hm
              have := isBurnt_any (w.heap.size + 1) w.heap.size n n b' u.toNat W2 ((hpW.trans hp2).row rB' id) ((hpW.trans hp2).row rb' id) HI'.out.1 (by omega)
              rw [Int.toNat_of_nonneg u1] at this
              exact this
            have HJ := Lib.hid hJ
            have HCA := Lib.hid hcall
            clear hJ hcall
            have fB := bset rb' k true
            by_cases hlt2 : gi d k < J
            · have t1 : decide (gi d k < J) = true := by simpa using hlt2
              go_wp2
              go_region_held3 (fun w' => w'.cell? ⟨w.heap.size + 1, 0, none⟩ = some (.slice (some ⟨w.heap.size, 0, none⟩) n n) ∧ w'.cell? ⟨w.heap.size, k, none⟩ = some (.bool false) ∧ w'.cell? ⟨X, 3, none⟩ = some (.slice (some ⟨gd, 0, none⟩) d.length cdd) ∧ w'.cell? ⟨gd, k, none⟩ = some (.int .i64 (gi d k)))
                (first
                  | go_keep
                  | (go_split_ands
                     exact ⟨hp1.cell id (by assumption), hp1.cell id (by assumption), hp1.cell id (by assumption), hp1.cell id (by assumption)⟩))
                ((first | (go_at_call 114; refine (HCA.out _ (by exact (Keeps.refl _ _).drew)).mono ?_; rintro e w1 ⟨rfl, hp1⟩)))
              have rb1 := hp1.row (Row.drew rb') id
              have rB1 := hp1.row (Row.drew rB') id
              have p1 : Pure w w1 := Pure.after hp'.drew hp1
              have cB1 := Row.cell rB1 (i := 0) rfl
              have cb1 := bcell rb1 (k := k) (by rw [HI'.out.1]; exact hlt)
              have fb1 := Row.frozen rb1 k
              have HP1 := Lib.hid hp1
              clear hp1 cB cb
              go_wp2
              go_roundw
              case rel =>
                refine ⟨k + 1, true, b'.set k true, by omega, by go_num, rfl, bset rb1 k true, rB1.far (by simp) _, p1.setCell (fun h => absurd h (by simp)) _, ⟨by simpa using HI'.out.1, ?_, HI'.out.2.2.step HE.out (by rw [HI'.out.1]; exact hlt) (by rw [← HJ.out]; exact hlt2)⟩, (fun h => by cases h), ?_⟩
                · rw [gb_set (by rw [HI'.out.1]; exact hlt)]
                  split
                  · rfl
                  · exact HI'.out.2.1
                · have h1 := cf_set (b := b') (v := k) (by rw [HI'.out.1]; exact hlt) HB.out
                  have h2 := HM'.out
                  show cf (b'.set k true) + 1 ≤ cf b
                  omega
              case measure => simp [intOf]; omega
            · have t1 : decide (gi d k < J) = false := by simpa using hlt2
              go_wp2
              go_region_held3 (fun w' => w'.cell? ⟨w.heap.size + 1, 0, none⟩ = some (.slice (some ⟨w.heap.size, 0, none⟩) n n) ∧ w'.cell? ⟨w.heap.size, k, none⟩ = some (.bool false) ∧ w'.cell? ⟨X, 3, none⟩ = some (.slice (some ⟨gd, 0, none⟩) d.length cdd) ∧ w'.cell? ⟨gd, k, none⟩ = some (.int .i64 (gi d k)))
                (first
                  | go_keep
                  | (go_split_ands
                     exact ⟨hp1.cell id (by assumption), hp1.cell id (by assumption), hp1.cell id (by assumption), hp1.cell id (by assumption)⟩))
                ((first | (go_at_call 114; refine (HCA.out _ (by exact (Keeps.refl _ _).drew)).mono ?_; rintro e w1 ⟨rfl, hp1⟩)))
              have rb1 := hp1.row (Row.drew rb') id
              have rB1 := hp1.row (Row.drew rB') id
              have p1 : Pure w w1 := Pure.after hp'.drew hp1
              have HP1 := Lib.hid hp1
              clear hp1 cB cb
              go_wp2
              go_roundw
              case rel =>
                refine ⟨k + 1, ag, b', by omega, by go_num, rfl, rb1, rB1, p1, HI', ?_, HM'⟩
                intro hag
                obtain ⟨e1, e2⟩ := HA.out hag
                refine ⟨e1, fun v hv hvb => ?_⟩
                by_cases e : v = k
                · subst e; rw [← e1, ← HJ.out]; omega
                · exact e2 v (by omega) hvb
              case measure => simp [intOf]; omega
        · obtain rfl : k = n := by omega
          go_wp2
          go_roundg (2 * cf b' + (if ag then 1 else 0))
          case rel =>
            refine ⟨ag, b', rfl, rb', rB', hp', HI', ?_, Nat.le_refl _⟩
            intro hag
            obtain ⟨e1, e2⟩ := HA.out hag
            rw [e1]
            exact e2
          case measure =>
            have h1 := HM.out
            have h2 := HM'.out
            simp only [if_true] at h1
            split at h2 <;> simp_all <;> omega
end Go.Proofs.Ytnhmeckhlajeaaa
