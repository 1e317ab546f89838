/- The references' graphs: Check, Between, Ends, Few; their divisors: Check. -/
import Derived.Test.YtnhmeckhlajeaaaAwake
import Derived.Test.YtnhmeckhlajeaaaSa
namespace Go.Proofs.Ytnhmeckhlajeaaa
open Go Go.RowKit Go.Shelf
set_option linter.unusedVariables false
set_option linter.unusedSectionVars false
set_option linter.unusedSimpArgs false

theorem Keeps.setCells {S : Nat → Prop} {a : World} {b : Nat} (hp : b < a.heap.size → S b) : ∀ (vs : List Value) (o : Nat) {w : World}, Keeps S a w → Keeps S a (w.setCells b o vs)
  | [], _, _, h => h
  | v :: vs, o, _, h => Keeps.setCells hp vs (o + 1) (h.setCell (p := ⟨b, o, none⟩) hp v)
/-- A new block, filled anew. -/
theorem New.fill {w w1 w2 : World} {g : Nat} {cs : Array Value} {e : TypeId} (h : New w g w1 cs e) {o : Nat} {vs : List Value} (e2 : w2 = w1.setCells g o vs) : Pure w w2 := by
  rw [e2]
  exact Keeps.setCells (fun hl => by have := h.at_; omega) vs o (h.keeps _)

theorem r08_vertex (A : Option Addr) (l c : Nat) (n v : Int) (w : World) : Calls Try.prog 98 #[.agg #[.int .i64 n, .slice A l c], .int .i64 v] w fun e w' => e = .returned (.bool (decide (0 ≤ v ∧ v < n))) ∧ Pure w w' := by
  refine (ok_r08_Vertex n A l c v w (fun r w' => r = decide (0 ≤ v ∧ v < n) ∧ Pure w w') ?_).mono (by rintro e w' ⟨r, rfl, rfl, p⟩; exact ⟨rfl, p⟩)
  unfold sh_r08_Vertex
  exact fun g2 w2 hN => ⟨fun h => ⟨by simp [h], hN.keeps _⟩, fun h => ⟨by simp [h], hN.keeps _⟩⟩

/-- The error of an edge behind another one. -/
def edgeF (n a b : Int) (x : E3) : Int := if (0 ≤ x.1 ∧ x.1 < n) ∧ (0 ≤ x.2.1 ∧ x.2.1 < n) ∧ 1 ≤ x.2.2 ∧ x.2.2 ≤ 50 then (if x.1 ≤ x.2.1 ∧ pcmpF a b x.1 x.2.1 < 0 then 0 else 9) else 2
theorem gchk_cons (n a b : Int) (x : E3) (t : List E3) : gchk n a b (x :: t) = if edgeF n a b x = 0 then gchk n x.1 x.2.1 t else edgeF n a b x := by
  rw [gchk]
  unfold edgeF
  by_cases c : (0 ≤ x.1 ∧ x.1 < n) ∧ (0 ≤ x.2.1 ∧ x.2.1 < n) ∧ 1 ≤ x.2.2 ∧ x.2.2 ≤ 50
  · rw [if_pos c, if_pos c]
    by_cases c2 : x.1 ≤ x.2.1 ∧ pcmpF a b x.1 x.2.1 < 0
    · rw [if_pos c2, if_pos c2, if_pos rfl]
    · rw [if_neg c2, if_neg c2, if_neg (by omega)]
  · rw [if_neg c, if_neg c, if_neg (by omega)]
theorem pcmp_lt (a b c d : Int) : pcmpF a b c d < 0 ↔ a < c ∨ (a = c ∧ b < d) := by
  unfold pcmpF orF cmpF
  by_cases h1 : a < c
  · simp [h1]
  · by_cases h2 : c < a
    · simp [h1, h2]; omega
    · have : a = c := by omega
      subst this
      simp
      by_cases h3 : b < d
      · simp [h3]
      · by_cases h4 : d < b <;> simp [h3, h4]
/-- What lies ahead of edge k. -/
def pre (es : List E3) (k : Nat) : Int × Int := if k = 0 then (-1, -1) else ((ge es (k - 1)).1, (ge es (k - 1)).2.1)

theorem r08_edge (A : Option Addr) (es : List E3) (c : Nat) (n : Int) (k : Nat) (w : World) (he : Edges w A es) (hk : k < es.length) (hl : es.length ≤ 1000000000) :
    Calls Try.prog 154 #[.agg #[.int .i64 n, .slice A es.length c], .int .i64 (k : Int)] w fun e w' => e = .returned (.int .i64 (edgeF n (pre es k).1 (pre es k).2 (ge es k))) ∧ Pure w w' := by
  refine (ok_r08_edge n A es.length c (k : Int) w (fun r w' => r = edgeF n (pre es k).1 (pre es k).2 (ge es k) ∧ Pure w w') ?_).mono (by rintro e w' ⟨r, rfl, rfl, p⟩; exact ⟨rfl, p⟩)
  unfold sh_r08_edge
  intro g w2 hN
  have p2 : Pure w w2 := hN.keeps _
  have ld := edges_ld (he.keep p2) (i := (k : Int)) (by omega) (by omega)
  simp only [Int.toNat_natCast] at ld
  refine ⟨edges_ix he rfl (by omega) (by omega), _, _, _, ld, fun g2 w3 hN3 => ⟨by have := hN3.at_; have := hN.size; omega, fun w4 e4 => ?_⟩⟩
  have p4 : Pure w w4 := p2.trans (hN3.fill e4)
  have s4 := p4.size
  generalize ge es k = x
  refine ⟨fun w5 => Pure w w5 ∧ (0 ≤ x.1 ∧ x.1 < n) ∧ (0 ≤ x.2.1 ∧ x.2.1 < n) ∧ 1 ≤ x.2.2 ∧ x.2.2 ≤ 50 ∧ g < w5.heap.size ∧ g2 < w5.heap.size, fun w5 hJ => ?_, ?_⟩
  · obtain ⟨p5, r1, r2, r3, r4, l1, l2⟩ := hJ
    have hed : ∀ a b, edgeF n a b x = if x.1 ≤ x.2.1 ∧ pcmpF a b x.1 x.2.1 < 0 then 0 else 9 := fun a b => by unfold edgeF; rw [if_pos ⟨r1, r2, r3, r4⟩]
    rw [hed]
    refine ⟨fun h => ⟨by rw [if_neg (by omega)], p5⟩, fun h => ⟨fun h0 => ?_, fun h0 => ?_⟩⟩
    · have ld2 := edges_ld (he.keep p5) (i := (k : Int) - 1) (by omega) (by omega)
      have e1 : ((k : Int) - 1).toNat = k - 1 := by omega
      rw [e1] at ld2
      refine ⟨in64 (by omega), edges_ix he rfl (by omega) (by omega), _, _, _, ld2, fun g3 w6 hN6 => ⟨by have := hN6.at_; omega, by have := hN6.at_; omega, fun w7 e7 => ?_⟩⟩
      have p7 : Pure w w7 := p5.trans (hN6.fill e7)
      have hp : pre es k = ((ge es (k - 1)).1, (ge es (k - 1)).2.1) := by unfold pre; rw [if_neg (by omega)]
      rw [hp]
      have hc := pcmp_lt (ge es (k - 1)).1 (ge es (k - 1)).2.1 x.1 x.2.1
      refine ⟨fun q => ⟨?_, p7⟩, fun q => ⟨fun q2 => ⟨fun q3 => ⟨?_, p7⟩, fun q3 => ⟨?_, p7⟩⟩, fun q2 => ⟨?_, p7⟩⟩⟩
      · rw [if_neg (fun h => by have := hc.1 h.2; omega)]
      · rw [if_neg (fun h => by have := hc.1 h.2; omega)]
      · rw [if_pos ⟨by omega, hc.2 (by omega)⟩]
      · rw [if_pos ⟨by omega, hc.2 (by omega)⟩]
    · have hp : pre es k = (-1, -1) := by unfold pre; rw [if_pos (by omega)]
      rw [hp, if_pos ⟨by omega, (pcmp_lt _ _ _ _).2 (.inl (by omega))⟩]
      exact ⟨rfl, p5⟩
  · have l0 : g < w4.heap.size ∧ g2 < w4.heap.size := by
      have h1 := (hN3.fill e4).size
      have h2 := hN.size
      have h3 := hN3.at_
      have h4 : w4.heap.size = w3.heap.size := by
        rw [e4]; simp [World.setCells, World.setCell]
      have h5 := hN3.size
      omega
    have hed : ¬ ((0 ≤ x.1 ∧ x.1 < n) ∧ (0 ≤ x.2.1 ∧ x.2.1 < n) ∧ 1 ≤ x.2.2 ∧ x.2.2 ≤ 50) → ∀ a b, 2 = edgeF n a b x := fun h a b => by unfold edgeF; rw [if_neg h]
    refine (r08_vertex A es.length c n x.1 w4).mono ?_
    rintro _ w8 ⟨rfl, p8⟩
    have q8 := p4.trans p8
    refine ⟨_, rfl, p8.kp (by simp), p8.kp (by simp), fun h1 => ?_, fun h1 => ⟨hed (by simp at h1; omega) _ _, q8⟩⟩
    refine (r08_vertex A es.length c n x.2.1 w8).mono ?_
    rintro _ w9 ⟨rfl, p9⟩
    have q9 := q8.trans p9
    simp only [decide_eq_true_eq] at h1
    refine ⟨_, rfl, p9.kp (by simp), p9.kp (by simp), fun h2 => ?_, fun h2 => ⟨hed (by simp at h2; omega) _ _, q9⟩⟩
    simp only [decide_eq_true_eq] at h2
    refine ⟨fun h3 => ⟨hed (by omega) _ _, q9⟩, fun h3 => ⟨fun h4 => ⟨hed (by omega) _ _, q9⟩, fun h4 => ⟨q9, h1, h2, by omega, by omega, ?_⟩⟩⟩
    have := p8.size; have := p9.size; omega

theorem r08_check (A : Option Addr) (es : List E3) (c : Nat) (n : Int) (w : World) (he : Edges w A es) (hl : es.length ≤ 1000000000) :
    Calls Try.prog 120 #[.agg #[.int .i64 n, .slice A es.length c]] w fun e w' => e = .returned (.int .i64 (gcheckF n es)) ∧ Pure w w' := by
  refine (ok_r08_Check n A es.length c w (fun r w' => r = gcheckF n es ∧ Pure w w') ?_).mono (by rintro e w' ⟨r, rfl, rfl, p⟩; exact ⟨rfl, p⟩)
  unfold sh_r08_Check
  intro g w2 hN
  have p2 : Pure w w2 := hN.keeps _
  have hout : ¬ (1 ≤ n ∧ n ≤ 12) → 2 = gcheckF n es := fun h => by unfold gcheckF; rw [if_neg h]
  refine ⟨fun w3 => Pure w w3 ∧ 1 ≤ n ∧ n ≤ 12, fun w3 hJ => ?_, fun h => ⟨hout (by omega), p2⟩, fun h => ⟨fun h2 => ⟨hout (by omega), p2⟩, fun h2 => ⟨p2, by omega, by omega⟩⟩⟩
  obtain ⟨p3, n1, n12⟩ := hJ
  have hg : gcheckF n es = gchk n (-1) (-1) es := by unfold gcheckF; rw [if_pos ⟨n1, n12⟩]
  rw [hg]
  refine ⟨fun m i w4 => ∃ k : Nat, m = es.length - k ∧ i = (k : Int) ∧ k ≤ es.length ∧ gchk n (-1) (-1) es = gchk n (pre es k).1 (pre es k).2 (es.drop k) ∧ Pure w w4, ⟨es.length, 0, rfl, rfl, by omega, rfl, p3⟩, ?_⟩
  rintro m i w4 ⟨k, rfl, rfl, hk, hinv, p4⟩
  refine ⟨fun hlt => ?_, fun hge => ?_⟩
  · have hlt : k < es.length := by omega
    rw [ge_drop hlt, gchk_cons] at hinv
    refine (r08_edge A es c n k w4 (he.keep p4) hlt hl).mono ?_
    rintro _ w5 ⟨rfl, p5⟩
    refine ⟨_, rfl, p5.kp (by simp), fun h0 => ?_, fun h0 => ⟨?_, p4.trans p5⟩⟩
    · rw [if_pos h0] at hinv
      refine ⟨in64 (by omega), es.length - (k + 1), by omega, k + 1, rfl, by omega, by omega, ?_, p4.trans p5⟩
      rw [hinv]
      simp [pre]
    · rw [if_neg h0] at hinv; exact hinv.symm
  · have hk2 : k = es.length := by omega
    refine ⟨?_, p4⟩
    rw [hinv, hk2, List.drop_length]; rfl

theorem r08_between (A : Option Addr) (es : List E3) (c : Nat) (n a b : Int) (w : World) (he : Edges w A es) (hl : es.length ≤ 1000000000) :
    Calls Try.prog 136 #[.agg #[.int .i64 n, .slice A es.length c], .int .i64 a, .int .i64 b] w fun e w' => e = .returned (.int .i64 (((es.find? fun x => decide (x.1 = mnF a b ∧ x.2.1 = mxF a b)).map (·.2.2)).getD 0)) ∧ Pure w w' := by
  refine (ok_r08_Between n A es.length c a b w (fun r w' => r = ((es.find? fun x => decide (x.1 = mnF a b ∧ x.2.1 = mxF a b)).map (·.2.2)).getD 0 ∧ Pure w w') ?_).mono (by rintro e w' ⟨r, rfl, rfl, p⟩; exact ⟨rfl, p⟩)
  unfold sh_r08_Between
  intro g w2 hN
  have p2 : Pure w w2 := hN.keeps _
  have gs := hN.size
  refine ⟨fun m i w4 => ∃ k : Nat, m = es.length - k ∧ i = (k : Int) ∧ k ≤ es.length ∧ es.find? (fun x => decide (x.1 = mnF a b ∧ x.2.1 = mxF a b)) = (es.drop k).find? (fun x => decide (x.1 = mnF a b ∧ x.2.1 = mxF a b)) ∧ Pure w w4 ∧ g < w4.heap.size, ⟨es.length, 0, rfl, rfl, by omega, rfl, p2, by omega⟩, ?_⟩
  rintro m i w3 ⟨k, rfl, rfl, hk, hinv, p3, lg⟩
  refine ⟨fun hlt => ?_, fun hge => ?_⟩
  · have hlt : k < es.length := by omega
    rw [ge_drop hlt, List.find?_cons] at hinv
    have ld := edges_ld (he.keep p3) (i := (k : Int)) (by omega) (by omega)
    simp only [Int.toNat_natCast] at ld
    refine ⟨edges_ix he rfl (by omega) (by omega), _, _, _, ld, fun g3 w4 hN4 => ⟨by have := hN4.at_; omega, fun w5 e5 => ?_⟩⟩
    have p5 : Pure w w5 := p3.trans (hN4.fill e5)
    have s5 := (hN4.fill e5).size
    refine ⟨fun h1 => ⟨fun h2 => ⟨?_, p5⟩, fun h2 => ⟨in64 (by omega), es.length - (k + 1), by omega, k + 1, rfl, by omega, by omega, ?_, p5, by omega⟩⟩, fun h1 => ⟨in64 (by omega), es.length - (k + 1), by omega, k + 1, rfl, by omega, by omega, ?_, p5, by omega⟩⟩
    · rw [hinv]; simp [h1, h2]
    · rw [hinv]; simp [h2]
    · rw [hinv]; simp [h1]
  · have hk2 : k = es.length := by omega
    refine ⟨?_, p3⟩
    rw [hinv, hk2, List.drop_length]; rfl
end Go.Proofs.Ytnhmeckhlajeaaa
