/- Texts laid together: Next, Opn, Opn2. -/
import Derived.Test.YtmeoemmemjipdaaGreatRows
import Derived.ProofKit
import Derived.Lib.SmallJoins
import Derived.Deep.Slices
import Derived.Below
import Derived.OpenShut
import Derived.Test.YtmeoemmemjipdaaGreatK3
/- Effective divisors of a degree in lexicographic order: the next one, all of them. No program in sight. -/
namespace Go.Proofs.YtmeoemmemjipdaaGreat
open Go Go.Proofs.Tryz
set_option linter.unusedVariables false
set_option linter.unusedSimpArgs false
def ydB (n : Nat) (k : Int) : List Int := List.replicate (n - 1) 0 ++ [k]
def yeC : List Int → Option (List Int)
  | [] => none
  | k :: t => match yeC t with
    | some t' => some (k :: t')
    | none => if t.sum = 0 then none else some ((k + 1) :: ydB t.length (t.sum - 1))
theorem yfO {k : Int} {t t' : List Int} (h : yeC t = some t') : yeC (k :: t) = some (k :: t') := by simp [yeC, h]
theorem yd4 {k : Int} {t : List Int} (h : yeC t = none) : yeC (k :: t) = if t.sum = 0 then none else some ((k + 1) :: ydB t.length (t.sum - 1)) := by simp [yeC, h]
theorem yg9 : ∀ (d : List Int), (∀ v, v + 2 ≤ d.length → (d.drop (v + 1)).sum = 0) → yeC d = none
  | [], _ => rfl
  | k :: t, h => by
    have h1 : yeC t = none := yg9 t fun v hv => by
      have := h (v + 1) (by simp; omega)
      simpa using this
    rw [yd4 h1]
    cases t with
    | nil => rfl
    | cons a u =>
      have := h 0 (by simp)
      simp only [Nat.zero_add, List.drop_one, List.tail_cons] at this
      rw [if_pos this]
theorem nextF_some : ∀ (d : List Int) (v : Nat), v + 2 ≤ d.length → (d.drop (v + 1)).sum ≠ 0 → (∀ w, v < w → w + 2 ≤ d.length → (d.drop (w + 1)).sum = 0) →
    yeC d = some (d.take v ++ (gi d v + 1) :: ydB (d.length - v - 1) ((d.drop (v + 1)).sum - 1))
  | [], _, h, _, _ => absurd h (by simp)
  | k :: t, 0, h, h1, h2 => by
    have h3 : yeC t = none := yg9 t fun w hw => by
      have := h2 (w + 1) (by omega) (by simp; omega)
      simpa using this
    rw [yd4 h3]
    simp only [Nat.zero_add, List.drop_one, List.tail_cons] at h1 ⊢
    rw [if_neg h1]
    simp [gi]
  | k :: t, v + 1, h, h1, h2 => by
    have ih := nextF_some t v (by simp at h; omega) (by simpa using h1) fun w hw hw2 => by
      have := h2 (w + 1) (by omega) (by simp; omega)
      simpa using this
    rw [yfO ih]
    simp [gi]
theorem ygH {m : Nat} (hm : 1 ≤ m) (z : Int) : (ydB m z).length = m := by unfold ydB; simp; omega
theorem gi_firstF (m : Nat) (z : Int) (i : Nat) : gi (ydB m z) i = if i = m - 1 then z else 0 := by
  unfold ydB gi
  simp only [List.getD_eq_getElem?_getD, List.getElem?_append, List.length_replicate, List.getElem?_replicate]
  by_cases h : i < m - 1
  · rw [if_pos h, if_pos h, if_neg (by omega)]; rfl
  · rw [if_neg h]
    by_cases e : i = m - 1
    · rw [if_pos e, e, Nat.sub_self]; rfl
    · rw [if_neg e, List.getElem?_eq_none (by simp; omega)]; rfl
theorem gi_next {d : List Int} {v : Nat} (hv : v + 2 ≤ d.length) (x z : Int) {i : Nat} (hi : i < d.length) : gi (d.take v ++ x :: ydB (d.length - v - 1) z) i = if i < v then gi d i else if i = v then x else if i + 1 = d.length then z else 0 := by
  have hg : ∀ (l : List Int) k, gi l k = (l[k]?).getD 0 := fun l k => by unfold gi; simp
  rw [hg, List.getElem?_append, List.length_take, Nat.min_eq_left (by omega)]
  by_cases h : i < v
  · rw [if_pos h, if_pos h, List.getElem?_take, if_pos h, ← hg]
  · rw [if_neg h, if_neg h]
    by_cases e : i = v
    · rw [if_pos e, e, Nat.sub_self]; rfl
    · rw [if_neg e, show i - v = (i - v - 1) + 1 by omega, List.getElem?_cons_succ, ← hg, gi_firstF]
      by_cases e2 : i + 1 = d.length
      · rw [if_pos e2, if_pos (by omega)]
      · rw [if_neg e2, if_neg (by omega)]
theorem next_length {d : List Int} {v : Nat} (hv : v + 2 ≤ d.length) (x z : Int) : (d.take v ++ x :: ydB (d.length - v - 1) z).length = d.length := by
  rw [List.length_append, List.length_take, List.length_cons, ygH (by omega)]; omega
def yfq : List (List Int) → Option (List Int) → Prop
  | [], _ => False
  | [x], o => yeC x = o
  | x :: y :: t, o => yeC x = some y ∧ yfq (y :: t) o
theorem yfq.append : ∀ {A : List (List Int)} {b : List Int} {B : List (List Int)} {o : Option (List Int)}, yfq A (some b) → yfq (b :: B) o → yfq (A ++ b :: B) o
  | [], _, _, _, h, _ => h.elim
  | [x], b, B, o, h, h2 => ⟨h, h2⟩
  | x :: y :: t, b, B, o, h, h2 => ⟨h.1, yfq.append (A := y :: t) h.2 h2⟩
theorem yfq.at_ : ∀ {A : List (List Int)} {d : List Int} {B : List (List Int)} {o : Option (List Int)}, yfq (A ++ d :: B) o → yeC d = (B.head?.or o)
  | [], d, [], o, h => h
  | [], d, b :: B, o, h => h.1
  | [x], d, B, o, h => yfq.at_ (A := []) h.2
  | x :: y :: t, d, B, o, h => yfq.at_ (A := y :: t) h.2
theorem yfq.map {s : Int} {m : Nat} (k : Int) : ∀ {L : List (List Int)}, yfq L none → (∀ t ∈ L, t.sum = s ∧ t.length = m) → yfq (L.map (k :: ·)) (if s = 0 then none else some ((k + 1) :: ydB m (s - 1)))
  | [], h, _ => h.elim
  | [x], h, hs => by
    have hx := hs x (by simp)
    show yeC (k :: x) = _
    rw [yd4 h, hx.1, hx.2]
  | x :: y :: t, h, hs => ⟨yfO h.1, yfq.map (L := y :: t) k h.2 fun u hu => hs u (by simp [hu])⟩
def ybG : Nat → Nat → List (List Int)
  | 0, _ => []
  | 1, k => [[(k : Int)]]
  | n + 2, k => (List.range (k + 1)).flatMap fun i => (ybG (n + 1) (k - i)).map ((i : Int) :: ·)
theorem ydW : ∀ (n k : Nat) (x : List Int), x ∈ ybG (n + 1) k ↔ x.length = n + 1 ∧ (∀ a ∈ x, 0 ≤ a) ∧ x.sum = k
  | 0, k, x => by
    show x ∈ [[(k : Int)]] ↔ _
    rw [List.mem_singleton]
    constructor
    · rintro rfl; simp
    · rintro ⟨h1, h2, h3⟩
      obtain ⟨a, rfl⟩ := List.length_eq_one_iff.1 h1
      simpa using h3
  | n + 1, k, x => by
    show x ∈ (List.range (k + 1)).flatMap (fun i => (ybG (n + 1) (k - i)).map ((i : Int) :: ·)) ↔ _
    rw [List.mem_flatMap]
    constructor
    · rintro ⟨i, hi, hx⟩
      rw [List.mem_range] at hi
      obtain ⟨t, ht, rfl⟩ := List.mem_map.1 hx
      obtain ⟨h1, h2, h3⟩ := (ydW n (k - i) t).1 ht
      refine ⟨by simp [h1], fun a ha => ?_, ?_⟩
      · rcases List.mem_cons.1 ha with rfl | ha
        · omega
        · exact h2 a ha
      · rw [List.sum_cons, h3]; omega
    · rintro ⟨h1, h2, h3⟩
      cases x with
      | nil => simp at h1
      | cons a t =>
        have ha := h2 a (by simp)
        have hts : 0 ≤ t.sum := by
          have : ∀ l : List Int, (∀ a ∈ l, 0 ≤ a) → 0 ≤ l.sum := fun l => by
            induction l with
            | nil => simp
            | cons b l ih => intro h; rw [List.sum_cons]; have := h b (by simp); have := ih fun c hc => h c (by simp [hc]); omega
          exact this t fun b hb => h2 b (by simp [hb])
        rw [List.sum_cons] at h3
        refine ⟨a.toNat, by rw [List.mem_range]; omega, List.mem_map.2 ⟨t, (ydW n (k - a.toNat) t).2 ⟨by simpa using h1, fun b hb => h2 b (by simp [hb]), by omega⟩, ?_⟩⟩
        rw [Int.toNat_of_nonneg ha]
theorem firstF_succ (n : Nat) (k : Int) : ydB (n + 2) k = 0 :: ydB (n + 1) k := by
  unfold ydB
  rw [show n + 2 - 1 = n + 1 by omega, show n + 1 - 1 = n by omega, List.replicate_succ]; rfl
theorem ygj : ∀ (n k : Nat), (∃ B, ybG (n + 1) k = ydB (n + 1) k :: B) ∧ yfq (ybG (n + 1) k) none
  | 0, k => ⟨⟨[], rfl⟩, rfl⟩
  | n + 1, k => by
    have blocks : ∀ (j i : Nat), i + j = k → (∃ B, (List.range' i (j + 1)).flatMap (fun i => (ybG (n + 1) (k - i)).map ((i : Int) :: ·)) = ((i : Int) :: ydB (n + 1) ((k - i : Nat) : Int)) :: B) ∧ yfq ((List.range' i (j + 1)).flatMap fun i => (ybG (n + 1) (k - i)).map ((i : Int) :: ·)) none := by
      intro j
      induction j with
      | zero =>
        intro i hi
        have e : k - i = 0 := by omega
        obtain ⟨⟨B, hB⟩, hs⟩ := ygj n (k - i)
        have e0 : List.range' i (0 + 1) = [i] := rfl
        rw [e0, List.flatMap_cons, List.flatMap_nil, List.append_nil]
        refine ⟨⟨B.map ((i : Int) :: ·), by rw [hB]; rfl⟩, ?_⟩
        have := hs.map (s := ((k - i : Nat) : Int)) (m := n + 1) (i : Int) fun t ht => by
          obtain ⟨h1, h2, h3⟩ := (ydW n (k - i) t).1 ht
          exact ⟨h3, h1⟩
        rwa [if_pos (by rw [e]; rfl)] at this
      | succ j ih =>
        intro i hi
        obtain ⟨⟨B, hB⟩, hs⟩ := ygj n (k - i)
        obtain ⟨⟨B2, hB2⟩, hs2⟩ := ih (i + 1) (by omega)
        rw [List.range'_succ, List.flatMap_cons]
        refine ⟨⟨B.map ((i : Int) :: ·) ++ _, by rw [hB]; rfl⟩, ?_⟩
        have := hs.map (s := ((k - i : Nat) : Int)) (m := n + 1) (i : Int) fun t ht => by
          obtain ⟨h1, h2, h3⟩ := (ydW n (k - i) t).1 ht
          exact ⟨h3, h1⟩
        rw [if_neg (by omega)] at this
        rw [hB2] at hs2 ⊢
        have e1 : ((k - i : Nat) : Int) - 1 = ((k - (i + 1) : Nat) : Int) := by omega
        rw [e1] at this
        exact this.append hs2
    obtain ⟨⟨B, hB⟩, hs⟩ := blocks k 0 (by omega)
    have e : ybG (n + 1 + 1) k = (List.range' 0 (k + 1)).flatMap fun i => (ybG (n + 1) (k - i)).map ((i : Int) :: ·) := by
      rw [← List.range_eq_range']; rfl
    rw [e]
    refine ⟨⟨B, ?_⟩, hs⟩
    rw [hB, firstF_succ]; rfl
end Go.Proofs.YtmeoemmemjipdaaGreat

/- What the arguments of the laws read as: numbers, lists, graphs; and what is handed back. -/
namespace Go.Proofs.YtmeoemmemjipdaaGreat
open Go Go.ChangeShapes Go.WideShapes Go.ChangeAt Go.RowKit Go.Joins Go.Deep Go.Proofs.Tryz
theorem own : ownKnob Tryz.prog.godebug = none := by kernel_rfl
theorem laidOut : laidOutB Tryz.prog = true := by kernel_rfl
theorem cells_int : Tryz.prog.cellsOf 3 = 1 := by kernel_rfl
theorem cells_graph : Tryz.prog.cellsOf 24 = 2 := by kernel_rfl
theorem cells_edge : Tryz.prog.cellsOf 76 = 3 := by kernel_rfl
theorem cells3 {w : World} {base : Nat} {a : Addr} {cs : List Value} (h : w.cells? base a 3 = some cs) : ∃ x y z, cs = [x, y, z] ∧ w.cell? a = some x ∧ w.cell? (a.add 1) = some y ∧ w.cell? (a.add 2) = some z := by
  unfold World.cells? at h
  split at h
  · have e : List.range 3 = [0, 1, 2] := rfl
    rw [e] at h
    cases h0 : w.cell? (a.add 0) with
    | none => simp [h0] at h
    | some x =>
      cases h1 : w.cell? (a.add 1) with
      | none => simp [h0, h1] at h
      | some y =>
        cases h2 : w.cell? (a.add 2) with
        | none => simp [h0, h1, h2] at h
        | some z =>
          simp [h0, h1, h2] at h
          exact ⟨x, y, z, h.symm, h0, rfl, rfl⟩
  · cases h
theorem ints_sl {W : World} {A : Option Addr} {xs : List Int} {c : Nat} (hc : xs.length ≤ c) (h : Ints W A xs) : (FP.sl cI A xs.length c xs).P no W := by
  refine ⟨rfl, hc, fun h0 => ?_⟩
  obtain ⟨b, off, e, hb, hcell⟩ := h h0
  refine ⟨b, off, e, hb, id, fun k x hx => ⟨_, rfl, fun j u hj => ?_⟩⟩
  have hk : k < xs.length := (List.getElem?_eq_some_iff.1 hx).1
  have hj0 : j = 0 := by
    have := (List.getElem?_eq_some_iff.1 hj).1
    simp [fI] at this; exact this
  subst hj0
  have hu : u = .int .i64 x := by
    have : (some (Value.int .i64 x)) = some u := hj
    simpa using this.symm
  rw [yaI hk] at hx
  cases hx
  rw [hu]
  have := hcell k hk
  simpa [cI, Fl.cod, fI] using this
theorem edges_sl {W : World} {A : Option Addr} {xs : List E3} {c : Nat} (hc : xs.length ≤ c) (h : ycY W A xs) : (FP.sl c3 A xs.length c xs).P no W := by
  refine ⟨rfl, hc, fun h0 => ?_⟩
  obtain ⟨b, off, e, hb, hcell⟩ := h h0
  refine ⟨b, off, e, hb, id, fun k x hx => ⟨_, rfl, fun j u hj => ?_⟩⟩
  have hk : k < xs.length := (List.getElem?_eq_some_iff.1 hx).1
  rw [ydj hk] at hx
  cases hx
  obtain ⟨q0, q1, q2⟩ := hcell k hk
  match j, hj with
  | 0, hj =>
    have : (some (Value.int .i64 (ge xs k).1)) = some u := hj
    cases this; exact q0
  | 1, hj =>
    have : (some (Value.int .i64 (ge xs k).2.1)) = some u := hj
    cases this; exact q1
  | 2, hj =>
    have : (some (Value.int .i64 (ge xs k).2.2)) = some u := hj
    cases this; exact q2
  | j + 3, hj => cases hj
set_option maxRecDepth 100000
variable {H : Type} {enc : TypeId × Value → H} {W : World} {r : Reach} {b0 : Nat}
theorem open_list {t : TypeId} (ht : Tryz.prog.underlying t = some (.slice 3)) {v : Value} {d : DataW H} {p : List MemPlace} (hv : Value.okWide Tryz.prog W r b0 t v) (h : DataW.Trod enc Tryz.prog W 0 (fun _ => true) true t v d p) :
    ∃ (A : Option Addr) (l : List Int) (c : Nat), v = .slice A l.length c ∧ (FP.sl cI A l.length c l).P no W := by
  suffices h : ∃ (A : Option Addr) (l : List Int) (c : Nat), v = .slice A l.length c ∧ l.length ≤ c ∧ Ints W A l by
    obtain ⟨A, l, c, e, hlc, hi⟩ := h
    exact ⟨A, l, c, e, ints_sl hlc hi⟩
  obtain ⟨a0, len, cap, rfl⟩ := okWide_slice ht hv
  obtain ⟨fuel, hf⟩ := h
  rcases open_ints ht underlying3 cells_int hf with ⟨hcs, hx⟩ | ⟨a, len', cap', zs, hcs, _, hl, hm, hz, hx, hcell, hwz⟩
  · simp [Value.cells] at hcs
    obtain ⟨rfl, rfl, rfl⟩ := hcs
    exact ⟨none, [], 0, rfl, Nat.le_refl _, Ints.nil _ _⟩
  · simp [Value.cells] at hcs
    obtain ⟨rfl, rfl, rfl⟩ := hcs
    simp only [if_true] at hz
    refine ⟨some a, zs.take len, cap, by rw [List.length_take, Nat.min_eq_left (by omega)], by rw [List.length_take]; omega, fun hp => ?_⟩
    rw [List.length_take, Nat.min_eq_left (by omega)] at hp ⊢
    obtain ⟨b, off, rfl, hc⟩ := ints_at hcell (by omega)
    refine ⟨b, off, rfl, ?_, fun k hk => ?_⟩
    · have := hc 0 (by omega)
      apply Nat.lt_of_not_le
      intro hle
      unfold World.cell? at this
      rw [Array.getElem?_eq_none hle] at this
      simp at this
    · rw [hc k (by omega), ybb (by rw [List.length_take]; omega), List.getElem_take, List.getD_eq_getElem?_getD, List.getElem?_eq_getElem (by omega)]
      rfl
theorem open_edge {fuel base : Nat} {spare : Nat → Bool} {held : Bool} {x y z : Value} {o : DataW H × List MemPlace} (h : DataW.trod enc Tryz.prog W base spare held fuel 76 [x, y, z] = some o) : ∃ a b c : Int, x = .int .i64 a ∧ y = .int .i64 b ∧ z = .int .i64 c := by
  obtain ⟨xs, n, _, rfl, hl, hlen, hf⟩ := DataW.trod_struct underlying76 h
  obtain ⟨x0, x1, x2, rfl⟩ : ∃ x0 x1 x2, xs = [x0, x1, x2] := by
    match xs, hlen with
    | [x0, x1, x2], _ => exact ⟨_, _, _, rfl⟩
  have f0 := hf 0 _ rfl
  have f1 := hf 1 _ rfl
  have f2 := hf 2 _ rfl
  simp [cells_int] at f0 f1 f2
  obtain ⟨a, e0, -, -⟩ := DataW.trod_int underlying3 f0
  obtain ⟨b, e1, -, -⟩ := DataW.trod_int underlying3 f1
  obtain ⟨c, e2, -, -⟩ := DataW.trod_int underlying3 f2
  simp at e0 e1 e2
  exact ⟨a, b, c, e0, e1, e2⟩
theorem open_graph {v : Value} {d : DataW H} {p : List MemPlace} (hv : Value.okWide Tryz.prog W r b0 24 v) (h : DataW.Trod enc Tryz.prog W 0 (fun _ => true) true 24 v d p) :
    ∃ (n : Int) (A : Option Addr) (es : List E3) (c : Nat), v = .agg #[.int .i64 n, .slice A es.length c] ∧ (FP.sl c3 A es.length c es).P no W := by
  suffices h : ∃ (n : Int) (A : Option Addr) (es : List E3) (c : Nat), v = .agg #[.int .i64 n, .slice A es.length c] ∧ es.length ≤ c ∧ ycY W A es by
    obtain ⟨n, A, l, c, e, hlc, hi⟩ := h
    exact ⟨n, A, l, c, e, edges_sl hlc hi⟩
  obtain ⟨c0, c1, y0, y1, m, rfl, rfl, rfl, hy0, hy1⟩ := open_agg2 underlying24 (by kernel_rfl) cells_graph hv h
  obtain ⟨n, e0, -, -⟩ := DataW.trod_int underlying3 hy0
  simp at e0
  subst e0
  rcases open_slice underlying22 hy1 with ⟨hcs, -⟩ | ⟨a, len, cap, mm, nn, D, Pl, hcs, -, hl, hm, hmm, -, hel⟩
  · simp at hcs
    subst hcs
    exact ⟨n, none, [], 0, rfl, Nat.le_refl _, fun h => absurd h (by simp)⟩
  · simp at hcs
    subst hcs
    simp only [if_true] at hmm
    have hex : ∀ i, i < len → ∃ e : E3, W.cell? (a.add (i * 3)) = some (.int .i64 e.1) ∧ W.cell? ((a.add (i * 3)).add 1) = some (.int .i64 e.2.1) ∧ W.cell? ((a.add (i * 3)).add 2) = some (.int .i64 e.2.2) := fun i hi => by
      obtain ⟨cs', hc, ht⟩ := hel i (by omega)
      rw [cells_edge] at hc
      obtain ⟨x, y, z, rfl, k0, k1, k2⟩ := cells3 hc
      obtain ⟨xa, xb, xc, rfl, rfl, rfl⟩ := open_edge ht
      exact ⟨(xa, xb, xc), k0, k1, k2⟩
    let f : Nat → E3 := fun i => if h : i < len then Classical.choose (hex i h) else (0, 0, 0)
    have hf : ∀ i, i < len → W.cell? (a.add (i * 3)) = some (.int .i64 (f i).1) ∧ W.cell? ((a.add (i * 3)).add 1) = some (.int .i64 (f i).2.1) ∧ W.cell? ((a.add (i * 3)).add 2) = some (.int .i64 (f i).2.2) := fun i hi => by
      show _ ∧ _ ∧ _
      have e : f i = Classical.choose (hex i hi) := dif_pos hi
      rw [e]
      exact Classical.choose_spec (hex i hi)
    have hlen : ((List.range len).map f).length = len := by simp
    refine ⟨n, some a, (List.range len).map f, cap, by rw [hlen], by rw [hlen]; omega, fun hp => ?_⟩
    rw [hlen] at hp ⊢
    obtain ⟨b, off, spot⟩ := a
    have hspot : spot = none := by simpa [Addr.add] using World.cell?_spot (hf 0 hp).1
    subst hspot
    refine ⟨b, off, rfl, ?_, fun k hk => ?_⟩
    · have := (hf 0 hp).1
      apply Nat.lt_of_not_le
      intro hle
      unfold World.cell? at this
      rw [Array.getElem?_eq_none (by simpa [Addr.add] using hle)] at this
      simp at this
    · have hg : ge ((List.range len).map f) k = f k := by rw [ydR (by rw [hlen]; exact hk)]; simp
      rw [hg]
      have := hf k hk
      simpa [Addr.add_mid] using this
end Go.Proofs.YtmeoemmemjipdaaGreat

/- What arguments read as: lists of lists, pairs of lists. -/
namespace Go.Proofs.YtmeoemmemjipdaaGreat
open Go Go.ChangeShapes Go.WideShapes Go.ChangeAt Go.RowKit Go.Joins Go.Deep Go.Proofs.Tryz
set_option maxRecDepth 100000
set_option linter.unusedVariables false
variable {H : Type} {enc : TypeId × Value → H} {W : World} {r : Reach} {b0 : Nat}
end Go.Proofs.YtmeoemmemjipdaaGreat
