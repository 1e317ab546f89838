/- The contract of distances: a search in breadth from q. -/
import Derived.Test.YtnhmeckhlajeaaaRep
import Derived.Test.YtnhmeckhlajeaaaBfs
namespace Go.Proofs.Ytnhmeckhlajeaaa
open Go Go.RowKit Go.Shelf
set_option linter.unusedVariables false
set_option maxRecDepth 100000
set_option maxHeartbeats 1000000

theorem OwnS.of_row {w : World} {B g : Nat} {e : TypeId} {c : Nat} {xs : List Value} (h : Row w g e c xs) (hB : B ≤ g) (hc : c ≤ maxLen) : OwnS w B e 1 (some ⟨g, 0, none⟩) xs.length c xs := by
  have hle := h.le
  obtain ⟨cur, h1, h2, h3⟩ := h
  exact ⟨by simp, .inr ⟨g, 0, cur, rfl, hB, h1, hle, hc, by simp [h2], by simpa using h3⟩⟩
theorem OwnS.cell {w : World} {B : Nat} {e : TypeId} {A : Option Addr} {l c : Nat} {xs : List Value} (h : OwnS w B e 1 A l c xs) {i : Int} (h0 : 0 ≤ i) {v : Value} (hv : xs[i.toNat]? = some v) : Ix A l i ∧ w.cell? (ixA A i 1) = some v := by
  have hl : xs.length = l := by simpa using h.1
  have hlt : i.toNat < xs.length := (List.getElem?_eq_some_iff.1 hv).1
  rcases h.2 with ⟨rfl, h1, _⟩ | ⟨g, o, cur, rfl, hB, hg, hlc, hcm, hcs, ht⟩
  · omega
  · refine ⟨ix_some h0 (by omega), ?_⟩
    rw [ixA_off, cell_of_row w g _ cur e (0, 0) hg]
    rw [← ht, List.getElem?_take, if_pos (by omega), List.getElem?_drop] at hv
    simpa using hv
theorem OwnS.tail {w : World} {B : Nat} {e : TypeId} {A : Option Addr} {l c : Nat} {x : Value} {xs : List Value} (h : OwnS w B e 1 A l c (x :: xs)) : OwnS w B e 1 (slA A c 1 1) (l - 1) (c - 1) xs := by
  have hl : xs.length + 1 = l := by simpa using h.1
  rcases h.2 with ⟨rfl, h1, _⟩ | ⟨g, o, cur, rfl, hB, hg, hlc, hcm, hcs, ht⟩
  · omega
  · have hd : (cur.toList.drop (o + 1)).take (l - 1) = xs := by
      rw [Nat.mul_one] at ht
      have := congrArg (List.drop 1) ht
      rw [List.drop_take, List.drop_drop] at this
      simpa using this
    refine ⟨by omega, .inr ?_⟩
    unfold slA
    by_cases e1 : c = 1
    · rw [if_pos e1]
      have hx : xs = [] := List.eq_nil_of_length_eq_zero (by omega)
      subst hx
      exact ⟨g, o, cur, rfl, hB, hg, by omega, by omega, by omega, by rw [show (l - 1) * 1 = 0 by omega]; simp⟩
    · rw [if_neg e1]
      refine ⟨g, o + 1, cur, by simp [Addr.add_mid], hB, hg, by omega, by omega, by omega, ?_⟩
      rw [Nat.mul_one]; exact hd
theorem slA_block {A : Option Addr} {c lo sz : Nat} : (slA A c lo sz).map (·.block) = A.map (·.block) := by
  unfold slA
  split
  · rfl
  · cases A with
    | none => rfl
    | some a => simp [Addr.add]; split <;> rfl
theorem OwnS.keep {w w' : World} {B : Nat} {e : TypeId} {sz : Nat} {A : Option Addr} {l c : Nat} {xs : List Value} (h : OwnS w B e sz A l c xs) (hk : ∀ a, A = some a → w'.heap[a.block]? = w.heap[a.block]?) : OwnS w' B e sz A l c xs := by
  refine ⟨h.1, ?_⟩
  rcases h.2 with h1 | ⟨g, o, cur, rfl, hB, hg, rest⟩
  · exact .inl h1
  · exact .inr ⟨g, o, cur, rfl, hB, (hk _ rfl).trans hg, rest⟩
theorem OwnS.lt {w : World} {B : Nat} {e : TypeId} {sz : Nat} {A : Option Addr} {l c : Nat} {xs : List Value} (h : OwnS w B e sz A l c xs) {a : Addr} (ha : A = some a) : B ≤ a.block ∧ a.block < w.heap.size := by
  rcases h.2 with ⟨h1, _⟩ | ⟨g, o, cur, h1, hB, hg, rest⟩
  · rw [h1] at ha; cases ha
  · rw [h1] at ha; cases ha; exact ⟨hB, (Array.getElem?_eq_some_iff.1 hg).1⟩
theorem OwnS.ne_row {w : World} {B : Nat} {e e' : TypeId} {sz : Nat} {A : Option Addr} {l c : Nat} {xs : List Value} (h : OwnS w B e sz A l c xs) {g size : Nat} {ys : List Value} (hr : Row w g e' size ys) (he : e ≠ e') {a : Addr} (ha : A = some a) : a.block ≠ g := by
  rintro rfl
  rcases h.2 with ⟨h1, _⟩ | ⟨g, o, cur, h1, hB, hg, rest⟩
  · rw [h1] at ha; cases ha
  · rw [h1] at ha; cases ha
    obtain ⟨cur', h1', _⟩ := hr
    rw [hg] at h1'
    cases h1'
    exact he rfl
/-- The blocks of S stay. -/
def KpS (S : Nat → Prop) (w w' : World) : Prop := ∀ k, S k → k < w.heap.size → w'.heap[k]? = w.heap[k]?

def DistPost (n : Nat) (es : List E3) (q : Nat) (w : World) (A : Option Addr) (l c : Nat) (w' : World) : Prop :=
  ∃ g o, A = some ⟨g, 0, none⟩ ∧ l = n ∧ c = n ∧ w.heap.size ≤ g ∧ IRow w' g 3 n o ∧ Dist n es q o ∧ Pure w w'

/-- The loop's words: the list of distances, the queue. -/
structure QI (w0 : World) (B gO gQ n : Nat) (es : List E3) (q : Nat) (m : Nat) (w : World) (o : List Int) (Q : List Nat) (A : Option Addr) (l c : Nat) : Prop where
  len : l = Q.length
  mes : 2 * cu o + Q.length ≤ m
  out : IRow w gO 3 n o
  box : Row w gQ 25 1 [.slice A l c]
  own : OwnS w B 3 1 A l c (Q.map fun (x : Nat) => Value.int .i64 (x : Int))
  pure : Pure w0 w

theorem distances_any (X gd gs n : Nat) (A : Option Addr) (es : List E3) (cap cd cs q : Nat) (d s : List Int) (e : Int) (w : World) (hS : State w X gd gs n A es cap cd cs q d s e) (hes : Edges w A es)
    (hq : q < n) (hn : n ≤ 12) (hE : ∀ x ∈ es, 0 ≤ x.1 ∧ x.1 < n ∧ 0 ≤ x.2.1 ∧ x.2.1 < n ∧ 0 ≤ x.2.2 ∧ x.2.2 ≤ 50) (hel : es.length ≤ 1000) :
    Calls Try.prog 111 #[.pointer (some ⟨X, 0, none⟩)] w fun e' w' => ∃ A' l' c', e' = .returned (.slice A' l' c') ∧ DistPost n es q w A' l' c' w' := by
  refine ok_reduced_state_distances _ w (DistPost n es q w) ?_
  unfold sh_reduced_state_distances
  have hE12 : Ends12 es := fun x hx => by have := hE x hx; omega
  have hX := hS.1
  intro g w2 hN1
  have a1 := hN1.at_
  refine ⟨n, by rw [add_zero0, add_zero_]; exact Row.cell (hN1.row_ hX) (i := 0) rfl, ?_⟩
  refine (repeat_any (some ⟨g, 0, none⟩) (-1) 1 n w2 (IRow.ints (xs := [-1]) hN1.row) (by omega) (by omega)).mono ?_
  rintro _ w3 ⟨A3, l3, c3, rfl, gO, rfl, hl3, hc3, hgO, hO3, hp3⟩
  have hl3 := hl3.symm
  have hc3 := hc3.symm
  subst hl3
  subst hc3
  have s2 := hN1.size
  have s3 := hp3.size
  have lO := Row.lt hO3
  refine ⟨_, _, _, rfl, Keeps.kpm_pure hp3, fun g2 w4 hN2 w5 e5 => ?_⟩
  have a2 := hN2.at_
  have s4 := hN2.size
  have p5 : Pure w w5 := by
    rw [e5]; exact (((hN1.keeps _).trans hp3).trans (hN2.keeps _)).setCell (fun h => absurd h (by simp; omega)) _
  have hO5 : IRow w5 gO 3 n (List.replicate n (-1)) := by
    rw [e5]; exact Row.far (hN2.row_ hO3) (by simp; omega) _
  have s5 : w5.heap.size = w4.heap.size := by rw [e5]; simp [World.setCell]
  have hXq : ∀ W, Pure w W → W.cell? ((⟨X, 0, none⟩ : Addr).add 2) = some (.int .i64 (q : Int)) := fun W h => by
    rw [add_zero_]; exact Row.cell (h.row hX id) (i := 2) rfl
  refine ⟨q, hXq _ p5.drew, ix_some (by omega) (by omega), iwr (Row.drew hO5) (by omega) (by simp; omega), by rw [ixA_one]; simp; omega, fun w6 e6 => ?_⟩
  have hO6 : IRow w6 gO 3 n ((List.replicate n (-1)).set q 0) := by
    rw [e6]; simpa using ist (Row.drew hO5) (q : Int) 0
  have p6 : Pure w w6 := by
    rw [e6, ixA_one]; exact p5.drew.setCell (fun h => absurd h (by simp; omega)) _
  have s6 : w6.heap.size = w5.heap.size := by rw [e6]; simp [World.setCell]
  refine ⟨q, hXq _ p6, fun g3 w7 hN3 g4 w8 hN4 => ?_⟩
  have a3 := hN3.at_
  have s7 := hN3.size
  have a4 := hN4.at_
  have s8 := hN4.size
  refine ⟨hN4.row.wr_ 0 (by simp), by simp; omega, fun w9 e9 => ?_⟩
  have s9 : w9.heap.size = w8.heap.size := by rw [e9]; simp [World.setCell]
  have far9 : ∀ {k' : Nat} {e' : TypeId} {sz : Nat} {xs : List Value}, k' ≠ g4 → Row w8 k' e' sz xs → Row w9 k' e' sz xs := fun hne' hr => by
    rw [e9]; exact hr.far (by simpa using hne') _
  have hq9 : Row w9 g3 3 1 [.int .i64 (q : Int)] := far9 (by omega) (hN4.row_ hN3.row)
  have hI0 : QI w g3 gO g4 n es q (2 * cu ((List.replicate n (-1)).set q 0) + 1) w9 ((List.replicate n (-1)).set q 0) [q] (some ⟨g3, 0, none⟩) 1 1 := by
    refine ⟨rfl, Nat.le_refl _, far9 (by omega) (hN4.row_ (hN3.row_ hO6)), ?_, OwnS.of_row (c := 1) hq9 (Nat.le_refl _) (by unfold maxLen; omega), ?_⟩
    · rw [e9]; exact hN4.row.set_ 0 _
    · rw [e9]; exact ((p6.trans (hN3.keeps _)).trans (hN4.keeps _)).setCell (fun h => absurd h (by simp; omega)) _
  have hgg : g2 < g3 ∧ gO < g2 ∧ g4 = g3 + 1 ∧ g4 < w9.heap.size ∧ w.heap.size ≤ gO := by omega
  clear hO5 hO6 p5 p6 hN1 hN2 hN3 hN4 hO3 hp3 far9 hq9 a1 a2 a3 a4 s2 s3 s4 s5 s6 s7 s8 e5 e6 e9
  obtain ⟨gg1, gg2, gg3, gg4, gg5⟩ := hgg
  have hcn : cu ((List.replicate n (-1)).set q 0) ≤ 12 := by
    have := List.length_filter_le (fun x : Int => decide (x < 0)) ((List.replicate n (-1)).set q 0)
    unfold cu; simp at this ⊢; omega
  refine ⟨fun m W => g4 < W.heap.size ∧ m ≤ 100 ∧ ∃ o Q A l c, QI w g3 gO g4 n es q m W o Q A l c ∧ BInv n es q o Q, ⟨_, by omega, by omega, _, _, _, _, _, hI0, BInv.start hq⟩, ?_⟩
  clear hI0 s9 lO
  rintro m w10 ⟨sz10, hm100, o, Q, Aq, lq, cq, ⟨hlen, hmes, hout, hbox, hown, hpure⟩, hB⟩
  refine ⟨Aq, lq, cq, Row.cell hbox (i := 0) rfl, fun hlt => ?_, fun hge => ?_⟩
  · cases Q with
    | nil => simp at hlen; omega
    | cons v Q =>
      obtain ⟨hv1, hv2⟩ := hB.rng v (by simp)
      obtain ⟨hix, hld⟩ := hown.cell (i := 0) (by omega) (v := .int .i64 (v : Int)) rfl
      refine ⟨Aq, lq, cq, Row.cell hbox (i := 0) rfl, hix, v, hld, fun g5 w11 hN5 => ?_⟩
      have a5 := hN5.at_
      have s11 := hN5.size
      refine ⟨by omega, fun w12 e12 => ?_⟩
      have far12 : ∀ {k' : Nat} {e' : TypeId} {sz : Nat} {xs : List Value}, k' ≠ g5 → Row w10 k' e' sz xs → Row w12 k' e' sz xs := fun hne' hr => by
        rw [e12]; exact (hN5.row_ hr).far (by simpa using hne') _
      have s12 : w12.heap.size = w11.heap.size := by rw [e12]; simp [World.setCell]
      have hbox12 := far12 (by omega) hbox
      have hlO := Row.lt hout
      have hout12 : IRow w12 gO 3 n o := far12 (by omega) hout
      have p12 : Pure w w12 := by rw [e12]; exact (hpure.trans (hN5.keeps _)).setCell (fun h => absurd h (by have := hpure.size; simp; omega)) _
      have k12 : ∀ k, k < w10.heap.size → w12.heap[k]? = w10.heap[k]? := fun k hk => by
        rw [e12, Below.heap_setCell _ _ _ _ (by simp; omega)]; rw [hN5.to_]; exact Below.heap_alloc _ _ _ hk
      have hown12 := hown.keep (w' := w12) (fun a ha => k12 _ (hown.lt ha).2)
      refine ⟨Aq, lq, cq, Row.cell hbox12 (i := 0) rfl, by omega, hbox12.wr_ 0 (by simp), by simp; omega, by simp; omega, fun w13 e13 => ?_⟩
      have s13 : w13.heap.size = w12.heap.size := by rw [e13]; simp [World.setCell]
      have far13 : ∀ {k' : Nat} {e' : TypeId} {sz : Nat} {xs : List Value}, k' ≠ g4 → Row w12 k' e' sz xs → Row w13 k' e' sz xs := fun hne' hr => by
        rw [e13]; exact hr.far (by simpa using hne') _
      have hbox13 : Row w13 g4 25 1 [.slice (slA Aq cq 1 1) (lq - 1) (cq - 1)] := by rw [e13]; exact hbox12.set_ 0 _
      have hout13 : IRow w13 gO 3 n o := far13 (by omega) hout12
      have p13 : Pure w w13 := by rw [e13]; exact p12.setCell (fun h => absurd h (by simp; omega)) _
      have hownT := hown12.tail
      have hown13 := hownT.keep (w' := w13) (fun a ha => by
        rw [e13]; exact Below.heap_setCell _ _ _ _ (by
          have := hownT.ne_row hbox12 (by decide) ha; simpa using this))
      have hap : ∀ a, slA Aq cq 1 1 = some a → a.block < g5 := fun a ha => by
        have h1 := congrArg (Option.map Addr.block) ha
        rw [slA_block] at h1
        cases hAq : Aq with
        | none => rw [hAq] at h1; cases h1
        | some a' =>
          rw [hAq] at h1; simp at h1
          have := (hown.lt hAq).2; omega
      refine (links_pure X (v : Int) w13).mono ?_
      rintro _ w14 ⟨bx, bv, rfl, hbx, hbv, rbx, rbv, hp14⟩
      have s14 := hp14.size
      have lbx := rbx.lt
      have lbv := rbv.lt
      have p14 : Pure w w14 := p13.trans hp14
      have hX14 := p14.row hX id
      have hes14 : Edges w14 A es := hes.keep p14
      refine ⟨_, rfl, hp14.kp id, hp14.kp id, Keeps.kpm_pure hp14, ?_⟩
      have hbelow : ∀ (b off : Nat), 0 < es.length → A = some ⟨b, off, none⟩ → b < w.heap.size := fun b off h0 hA => by
        obtain ⟨b', off', hA', hb', _⟩ := hes h0
        rw [hA] at hA'; cases hA'; exact hb'
      have hQ0 : QI w g3 gO g4 n es q (m - 1) w14 o Q (slA Aq cq 1 1) (lq - 1) (cq - 1) := by
        refine ⟨by simp at hlen; omega, by simp at hmes; omega, hp14.row hout13 id, hp14.row hbox13 id, hown13.keep (fun a ha => hp14.block _ (hown13.lt ha).2 id), p14⟩
      have hm1 : 1 ≤ m := by simp at hmes; omega
      refine ⟨LinkOf es (v : Int), encL es (v : Int), _, _, es.length, fun pre W => KpS (fun k => k = g2 ∨ k = g5 ∨ k = bv ∨ k = bx) w14 W ∧ KpM w14 W ∧ ∃ o' Q' A' l' c', QI w g3 gO g4 n es q (m - 1) W o' Q' A' l' c' ∧ (∀ a, A' = some a → a.block ≠ g5 ∧ a.block ≠ bv ∧ a.block ≠ bx ∧ a.block < W.heap.size) ∧ BIn n es q v (pre.map (·.1)) o' Q',
        links_iter X A es cap (v : Int) bx bv w14 rbx rbv (Row.cell hX14 (i := 1) rfl) hes14 hE12 (by omega) (by omega) (by omega), fun _ => rfl, ?_, ⟨fun k _ _ => rfl, KpM.refl _, _, _, _, _, _, hQ0, fun a ha => by have := hap a ha; omega, hB.pop⟩, ?_, ?_, ?_⟩
      · refine stays_of fun pre W W' row h hg hr => ?_
        obtain ⟨h1, h2, o', Q', A', l', c', ⟨q1, q2, q3, q4, q5, q6⟩, h3, h4⟩ := h
        refine ⟨fun k hk hl => ?_, ⟨Nat.le_trans h2.1 hg.size, fun r hr' => ?_⟩, o', Q', A', l', c', ⟨q1, q2, Row.owned q3 hg (fun r e => (hr r e).2), Row.owned q4 hg (fun r e => (hr r e).2), q5.keep (fun a ha => ?_), q6.owned hg p14.size (fun r e => (hr r e).1)⟩, fun a ha => ⟨(h3 a ha).1, (h3 a ha).2.1, (h3 a ha).2.2.1, Nat.lt_of_lt_of_le (h3 a ha).2.2.2 hg.size⟩, h4⟩
        · rw [hg.block k (Nat.lt_of_lt_of_le hl h2.1) (fun e => by have := (hr k e.symm).1; omega)]; exact h1 k hk hl
        · have hl := (Array.getElem?_eq_some_iff.1 hr').1
          rw [hg.block r (Nat.lt_of_lt_of_le hl h2.1) (fun e => by have := (hr r e.symm).1; omega)]; exact h2.2 r hr'
        · refine hg.block _ (h3 a ha).2.2.2 (fun e => ?_)
          obtain ⟨_, ob, hob, hcb⟩ := hr _ e.symm
          rcases q5.2 with ⟨h5, _⟩ | ⟨gq, oq, cur, h5, _, hgq, _⟩
          · rw [h5] at ha; cases ha
          · rw [h5] at ha; cases ha
            rw [hgq] at hob; cases hob; cases hcb
      · intro pr W h
        exact ⟨fun hl => h.1 g2 (.inl rfl) hl, fun hl => h.1 g5 (.inr (.inl rfl)) hl, trivial⟩
      · rintro pre el w15 ⟨hk, hkm, o', Q', A', l', c', ⟨q1, q2, q3, q4, q5, q6⟩, hA', hBI⟩ hlen'
        obtain ⟨eg, heg', hlk⟩ := el.2
        have hmem : el.1 ∈ linksF es (v : Int) := List.mem_filterMap.2 ⟨eg, heg', hlk⟩
        have hr1 := linksF_range hE (v := (v : Int)) (u := el.1.1) (m := el.1.2) hmem
        obtain ⟨u, hu⟩ : ∃ u : Nat, el.1.1 = (u : Int) := ⟨el.1.1.toNat, by omega⟩
        have hun : u < n := by omega
        have help : el.1 = ((u : Int), el.1.2) := by rw [← hu]
        have hadj : Adj es v u := ⟨el.1.2, by rw [← hu]; exact hmem⟩
        have hol := hBI.len
        have ldu := ild q3 (i := (u : Int)) (by omega) (by omega)
        simp only [Int.toNat_natCast] at ldu
        refine ⟨el.1.1, el.1.2, rfl, ix_some (by omega) (by omega), gi o' u, by rw [hu]; exact ldu, fun hneg => ?_, fun hpos => ?_⟩
        · have ldv := ild (Row.drew q3) (i := (v : Int)) (by omega) (by omega)
          simp only [Int.toNat_natCast] at ldv
          have hval := hBI.val v
          refine ⟨ix_some (by omega) (by omega), gi o' v, ldv, in64 (by have := hBI.v0; omega), ix_some (by omega) (by omega), iwr (Row.drew q3) (by omega) (by omega), by rw [ixA_one]; simp; omega, by rw [ixA_one]; simp; omega, fun w17 e17 => ?_⟩
          have hsz15 := hkm.1
          have s17 : w17.heap.size = w15.heap.size := by rw [e17]; simp [World.setCell]
          have hout17 : IRow w17 gO 3 n (o'.set u (gi o' v + 1)) := by
            have := ist (Row.drew q3) el.1.1 (gi o' v + 1)
            rw [e17, hu] at *; simpa using this
          have far17 : ∀ {k' : Nat} {e' : TypeId} {sz : Nat} {xs : List Value}, k' ≠ gO → Row w15 k' e' sz xs → Row w17 k' e' sz xs := fun hne' hr => by
            rw [e17]; exact Row.far_ hr.drew hne' _ _
          have hbox17 := far17 (by omega) q4
          have b17 : ∀ k, k ≠ gO → w17.heap[k]? = w15.heap[k]? := fun k hk' => by
            rw [e17, ixA_one]; exact Below.heap_setCell _ _ _ _ (by simpa using hk')
          have hown17 := q5.keep (w' := w17) (fun a ha => b17 _ (by have := (q5.lt ha).1; omega))
          have p17 : Pure w w17 := by rw [e17, ixA_one]; exact q6.drew.setCell (fun h => absurd h (by simp; omega)) _
          refine ⟨A', l', c', Row.cell hbox17 (i := 0) rfl, fun g6 w18 hN6 => ?_⟩
          have a6 := hN6.at_
          have s18 := hN6.size
          have b18 : ∀ k, k < w17.heap.size → w18.heap[k]? = w17.heap[k]? := fun k hk' => by rw [hN6.to_]; exact Below.heap_alloc _ _ _ hk'
          have hown18 := hown17.keep (w' := w18) (fun a ha => b18 _ (hown17.lt ha).2)
          have hcul := List.length_filter_le (fun x : Int => decide (x < 0)) o'
          have hcu : cu o' ≤ 12 := by unfold cu; omega
          refine ⟨g3, _, [.int .i64 el.1.1], ⟨g6, 0, none⟩, hown18, rfl, rfl, ?_, by simp [Value.oneCell'], by unfold maxLen; omega, by omega, by omega, fun A2 c2 w19 hown19 hgr hbk => ?_⟩
          · intro j x hj
            cases j with
            | zero => simp only [List.getElem?_cons_zero, Option.some.injEq] at hj; subst hj; exact Row.cell hN6.row (i := 0) rfl
            | succ j => simp at hj
          have hown_lt : ∀ k, k < w18.heap.size → (∀ a, A' = some a → a.block ≠ k) → w19.heap[k]? = w18.heap[k]? := fun k hk' hne' => hgr.block k hk' (fun e => by
            cases hA2 : A' with
            | none => rw [hA2] at e; cases e
            | some a => rw [hA2] at e; cases e; exact hne' a hA2 rfl)
          have b19 : ∀ k, k < w15.heap.size → k ≠ gO → (∀ a, A' = some a → a.block ≠ k) → w19.heap[k]? = w15.heap[k]? := fun k h1 h2 h3 =>
            (hown_lt k (by omega) h3).trans ((b18 k (by omega)).trans (b17 k h2))
          have hAk : ∀ k, k < g3 → ∀ a, A' = some a → a.block ≠ k := fun k hk' a ha => by have := (q5.lt ha).1; omega
          have hAg4 : ∀ a, A' = some a → a.block ≠ g4 := fun a ha => q5.ne_row q4 (by decide) ha
          have hg4lt := q4.lt
          have hgOlt := Row.lt q3
          have hbox19 : Row w19 g4 25 1 [.slice A' l' c'] := q4.keep (b19 g4 hg4lt (by omega) hAg4)
          have hA2b : ∀ a, A2 = some a → (∃ a', A' = some a' ∧ a'.block = a.block) ∨ a.block = w18.heap.size := by
            intro a ha
            rw [ha] at hbk
            rcases hbk with h | h
            · cases hA2 : A' with
              | none => rw [hA2] at h; cases h
              | some a' => rw [hA2] at h; simp at h; exact .inl ⟨a', rfl, h.symm⟩
            · simp at h; exact .inr h
          have s19 := hgr.size
          refine ⟨fun hl => hown_lt g2 hl (hAk g2 (by omega)), fun hl => hown_lt g5 hl (fun a ha => (hA' a ha).1), hbox19.wr_ 0 (by simp), by simp; omega, by simp; omega, fun w20 e20 => ?_⟩
          have b20 : ∀ k, k < w15.heap.size → k ≠ gO → k ≠ g4 → (∀ a, A' = some a → a.block ≠ k) → w20.heap[k]? = w15.heap[k]? := fun k h1 h2 h3 h4 => by
            rw [e20, Below.heap_setCell _ _ _ _ (by simpa using h3)]; exact b19 k h1 h2 h4
          have s20 : w20.heap.size = w19.heap.size := by rw [e20]; simp [World.setCell]
          have hob : ∀ (k : Nat) (ob : Obj), w15.heap[k]? = some ob → ob.isCells = false → k ≠ gO ∧ k ≠ g4 ∧ ∀ a, A' = some a → a.block ≠ k := by
            intro k ob hk' hc
            refine ⟨fun e => ?_, fun e => ?_, fun a ha e => ?_⟩
            · subst e; have := Row.cells_ q3 _ hk'; rw [this] at hc; cases hc
            · subst e; have := Row.cells_ q4 _ hk'; rw [this] at hc; cases hc
            · subst e
              rcases q5.2 with ⟨h5, _⟩ | ⟨gq, oq, cur, h5, _, hgq, _⟩
              · rw [h5] at ha; cases ha
              · rw [h5] at ha; cases ha
                rw [hgq] at hk'; cases hk'; cases hc
          have ko : KeepsOthers w15 w20 := ⟨by omega, fun k ob hk' hc => by
            have h3 := hob k ob hk' hc
            rw [b20 k (Array.getElem?_eq_some_iff.1 hk').1 h3.1 h3.2.1 h3.2.2]; exact hk'⟩
          refine ⟨ko, ?_, ?_, ?_, o'.set u (gi o' v + 1), Q' ++ [u], A2, l' + 1, c2, ⟨?_, ?_, ?_, ?_, ?_, ?_⟩, ?_, ?_⟩
          · intro k hk'
            rcases hk' with rfl | ⟨h0, a, ha, rfl⟩
            · exact b20 k (by omega) (by omega) (by omega) (fun a ha => (hA' a ha).2.1)
            · obtain ⟨b, off, hAe, _⟩ := hes14 h0
              rw [hAe] at ha; cases ha
              have := hbelow b off h0 hAe
              have := q6.size
              exact b20 b (by omega) (by omega) (by omega) (fun a ha => by have := (q5.lt ha).1; omega)
          · intro k hk' hl
            rw [b20 k (by omega) (by rcases hk' with rfl | rfl | rfl | rfl <;> omega) (by rcases hk' with rfl | rfl | rfl | rfl <;> omega) (fun a ha => by
              have h1 := hA' a ha
              have h2 := (q5.lt ha).1
              rcases hk' with rfl | rfl | rfl | rfl
              · omega
              · exact h1.1
              · exact h1.2.1
              · exact h1.2.2.1)]
            exact hk k hk' hl
          · exact hkm.trans (KeepsOthers.kpm ko)
          · simp; omega
          · have h1 := cu_set (by omega : u < o'.length) hneg (x := gi o' v + 1) (by have := hBI.v0; omega)
            simp; omega
          · have hO19 : IRow w19 gO 3 n (o'.set u (gi o' v + 1)) := hout17.keep ((hown_lt gO (by omega) (hAk gO (by omega))).trans (b18 gO (by omega)))
            rw [e20]; exact Row.far hO19 (by simp; omega) _
          · rw [e20]; exact hbox19.set_ 0 _
          · rw [List.map_append]
            have := hown19.keep (w' := w20) (fun a ha => by
              rw [e20]; refine Below.heap_setCell _ _ _ _ ?_
              rcases hA2b a ha with ⟨a', ha', hb⟩ | hb
              · have := hAg4 a' ha'; simp; omega
              · simp; omega)
            rw [hu] at this
            exact this
          · rw [e20]
            have p18 : Pure w w18 := p17.trans (hN6.keeps _)
            exact (p18.grown hgr (fun k e hk' => by
              cases hA2 : A' with
              | none => rw [hA2] at e; cases e
              | some a => rw [hA2] at e; cases e; have := (q5.lt hA2).1; omega)).setCell (fun h => absurd h (by simp; omega)) _
          · intro a ha
            rcases hA2b a ha with ⟨a', ha', hb⟩ | hb
            · have h1 := hA' a' ha'; rw [← hb]; exact ⟨h1.1, h1.2.1, h1.2.2.1, by omega⟩
            · have := (hown19.lt ha).2
              exact ⟨by omega, by omega, by omega, by omega⟩
          · rw [List.map_append, List.map_singleton, help]
            exact hBI.push hun hadj hneg
        · refine ⟨KeepsOthers.refl _, KB.refl _ _, hk, hkm, o', Q', A', l', c', ⟨q1, q2, q3, q4, q5, q6⟩, hA', ?_⟩
          rw [List.map_append, List.map_singleton, help]
          exact hBI.pass hun (by omega)
      · rintro xs w16 hxs ⟨hk, hkm, o', Q', A', l', c', hQI, hA', hBI⟩
        rw [hxs] at hBI
        exact ⟨hkm, m - 1, by omega, by have := hkm.1; omega, by omega, o', Q', A', l', c', hQI, hBI.fin⟩
  · have hQ : Q = [] := List.eq_nil_of_length_eq_zero (by omega)
    subst hQ
    intro wz ha
    exact ⟨gO, o, rfl, rfl, rfl, gg5, ha.row hout, hB.dist, ha.keeps hpure⟩
end Go.Proofs.Ytnhmeckhlajeaaa
