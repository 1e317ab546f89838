/- The references: Ends, Size, Few; the divisors' Check; Between as weights. -/
import Derived.Test.YtnhmeckhlajeaaaRefA
namespace Go.Proofs.Ytnhmeckhlajeaaa
open Go Go.RowKit Go.Shelf
set_option linter.unusedVariables false
set_option linter.unusedSectionVars false
set_option linter.unusedSimpArgs false

theorem gchk_lt {n : Int} : ∀ (es : List E3) (a b : Int), gchk n a b es = 0 → ∀ x ∈ es, (a < x.1 ∨ (a = x.1 ∧ b < x.2.1)) ∧ x.1 ≤ x.2.1
  | [], _, _, _ => by simp
  | x :: t, a, b, h => by
    rw [gchk_cons] at h
    by_cases h0 : edgeF n a b x = 0
    · rw [if_pos h0] at h
      have hx : x.1 ≤ x.2.1 ∧ (a < x.1 ∨ (a = x.1 ∧ b < x.2.1)) := by
        unfold edgeF at h0
        split at h0
        · split at h0
          · rename_i c; exact ⟨c.1, (pcmp_lt _ _ _ _).1 c.2⟩
          · omega
        · omega
      intro y hy
      rcases List.mem_cons.1 hy with rfl | hy
      · exact ⟨hx.2, hx.1⟩
      · have := gchk_lt t _ _ h y hy
        omega
    · rw [if_neg h0] at h; exact absurd h h0
theorem between_W {n : Int} (u v : Nat) (huv : u ≠ v) : ∀ (es : List E3) (a b : Int), gchk n a b es = 0 → ((es.find? fun x => decide (x.1 = mnF (u : Int) v ∧ x.2.1 = mxF (u : Int) v)).map (·.2.2)).getD 0 = W es u v
  | [], _, _, _ => rfl
  | x :: t, a, b, h => by
    have hlt := gchk_lt (x :: t) a b h
    rw [gchk_cons] at h
    by_cases h0 : edgeF n a b x = 0
    · rw [if_pos h0] at h
      have ih := between_W u v huv t _ _ h
      have ht := gchk_lt t _ _ h
      have hx := (hlt x (by simp)).2
      have hmn : mnF (u : Int) v = if (u : Int) < v then (u : Int) else v := by unfold mnF; split <;> (try split) <;> omega
      have hmx : mxF (u : Int) v = if (u : Int) < v then (v : Int) else u := by unfold mxF; split <;> (try split) <;> omega
      rw [List.find?_cons, W_cons]
      by_cases c : x.1 = mnF (u : Int) v ∧ x.2.1 = mxF (u : Int) v
      · have hnone : t.find? (fun x => decide (x.1 = mnF (u : Int) v ∧ x.2.1 = mxF (u : Int) v)) = none := by
          rw [List.find?_eq_none]
          intro y hy
          have := ht y hy
          simp only [decide_eq_true_eq]
          omega
        rw [hnone] at ih
        have hw : w1 x u v = x.2.2 := by
          unfold w1
          rw [if_pos]
          rw [hmn, hmx] at c
          by_cases q : (u : Int) < v
          · rw [if_pos q, if_pos q] at c; omega
          · rw [if_neg q, if_neg q] at c; omega
        rw [decide_eq_true c, hw, ← ih]
        simp
      · have hw : w1 x u v = 0 := by
          unfold w1
          rw [if_neg]
          intro q
          apply c
          rw [hmn, hmx]
          by_cases q2 : (u : Int) < v
          · rw [if_pos q2, if_pos q2]; omega
          · rw [if_neg q2, if_neg q2]; omega
        rw [decide_eq_false c, hw, ← ih]
        simp
    · rw [if_neg h0] at h; exact absurd h h0
theorem gcheck_gchk {n : Int} {es : List E3} (h : gcheckF n es = 0) : gchk n (-1) (-1) es = 0 := by
  unfold gcheckF at h
  split at h
  · exact h
  · omega
theorem r08_betw (A : Option Addr) (es : List E3) (c : Nat) (n : Int) (u v : Nat) (w : World) (he : Edges w A es) (hl : es.length ≤ 1000000000) (hg : gcheckF n es = 0) (huv : u ≠ v) :
    Calls Try.prog 136 #[.agg #[.int .i64 n, .slice A es.length c], .int .i64 (u : Int), .int .i64 (v : Int)] w fun e w' => e = .returned (.int .i64 (W es u v)) ∧ Pure w w' := by
  have := r08_between A es c n u v w he hl
  rwa [between_W u v huv es (-1) (-1) (gcheck_gchk hg)] at this

/-- The single edges of the first k edges. -/
def szF (es : List E3) : Nat → Int
  | 0 => 0
  | k + 1 => szF es k + (ge es k).2.2
theorem szF_sum (es : List E3) : szF es es.length = (es.map (·.2.2)).sum := by
  have H : ∀ k, k ≤ es.length → szF es k = ((es.take k).map (·.2.2)).sum := by
    intro k
    induction k with
    | zero => intro _; simp [szF]
    | succ k ih =>
      intro hk
      rw [szF, ih (by omega), List.take_add_one, List.getElem?_eq_getElem (by omega), ge_of_lt (by omega), List.map_append, List.sum_append]
      have : (List.map (fun x : E3 => x.2.2) (some es[k]).toList).sum = es[k].2.2 := by simp
      rw [this]
  rw [H _ (Nat.le_refl _), List.take_length]
theorem OwnS.grow {w w1 : World} {B : Nat} {A : Option Addr} {e : TypeId} {sz : Nat} {l c : Nat} {xs nw : List Value} (h : OwnS w B e sz A l c xs) {g : Nat} {cs : Array Value} (hN : New w.drew g w1 cs e) (hcs : cs.toList = nw) (hn : nw.length = 1 * sz) (h1 : ∀ u ∈ nw, u.oneCell' = true) (hB : B ≤ w.heap.size) (hl : l + 1 ≤ 1000000000) (b : Nat) (hb : b ≤ 16)
    {K : Option Addr → Nat → World → Prop}
    (hK : ∀ A' c' w2, OwnS w2 B e sz A' (l + 1) c' (xs ++ nw) → w1.grownBy w2 (A.map (·.block)) → K A' c' w2) :
    ∃ (B : Nat) (xs nw : List Value) (ad : Addr), OwnS w1 B e sz A l c xs ∧ (some (⟨g, 0, none⟩ : Addr)) = some ad ∧ nw.length = 1 * sz ∧ (∀ j u, nw[j]? = some u → w1.cell? (ad.add j) = some u) ∧ (∀ u ∈ nw, u.oneCell' = true) ∧ l + 1 ≤ maxLen ∧ (l + 1) * b ≤ 140737488355328 ∧ B ≤ w1.heap.size ∧
      ∀ A' c' w2, OwnS w2 B e sz A' (l + 1) c' (xs ++ nw) → w1.grownBy w2 (A.map (·.block)) → (A'.map (·.block) = A.map (·.block) ∨ A'.map (·.block) = some w1.heap.size) → K A' c' w2 := by
  have s := hN.size
  have at' := hN.at_
  have hd : w.drew.heap = w.heap := rfl
  have hb' : ∀ k, k < w.heap.size → w1.heap[k]? = w.heap[k]? := fun k hk => by rw [hN.to_]; exact Below.heap_alloc w.drew _ _ hk
  have at2 : g = w.heap.size := at'
  refine ⟨B, xs, nw, ⟨g, 0, none⟩, OwnS.keep h (fun a ha => hb' _ (OwnS.lt h ha).2), rfl, hn, fun j u hj => ?_, h1, by unfold maxLen; omega, ?_, by omega, fun A' c' w2 h1 h2 _ => hK A' c' w2 h1 h2⟩
  · have := hN.row.at_ j (v := u) (by rw [hcs]; exact hj)
    exact this
  · have : (l + 1) * b ≤ 1000000000 * 16 := Nat.mul_le_mul hl hb
    omega

theorem r08_ends (A : Option Addr) (es : List E3) (c : Nat) (n : Int) (w : World) (he : Edges w A es) (hl : es.length ≤ 40) (hE : ∀ x ∈ es, 1 ≤ x.2.2 ∧ x.2.2 ≤ 50) :
    Calls Try.prog 170 #[.agg #[.int .i64 n, .slice A es.length c]] w fun e w' => ∃ A' l' c', e = .returned (.slice A' l' c') ∧ (l' : Int) = (es.map (·.2.2)).sum ∧ Pure w w' := by
  refine ok_r08_Ends n A es.length c w (fun A' l' c' w' => (l' : Int) = (es.map (·.2.2)).sum ∧ Pure w w') ?_
  unfold sh_r08_Ends
  intro g w2 hN
  have p2 : Pure w w2 := hN.keeps _
  have gs := hN.size
  have hsz : ∀ k, k ≤ es.length → 0 ≤ szF es k ∧ szF es k ≤ 50 * k := by
    intro k
    induction k with
    | zero => intro _; simp [szF]
    | succ k ih => intro hk; have := ih (by omega); have := hE _ (ge_mem (show k < es.length by omega)); rw [szF]; omega
  refine ⟨fun m Ao lo co i w3 => ∃ k : Nat, m = es.length - k ∧ i = (k : Int) ∧ k ≤ es.length ∧ (lo : Int) = szF es k ∧ (∃ xs, OwnS w3 w2.heap.size 196 2 Ao lo co xs) ∧ Pure w2 w3, ⟨es.length, 0, rfl, rfl, by omega, rfl, ⟨[], OwnS.nil w2 _ _ _⟩, Keeps.refl _ _⟩, ?_⟩
  rintro m Ao lo co i w3 ⟨k, rfl, rfl, hk, hlo, ⟨xs, ho⟩, p3⟩
  have hszk := hsz k hk
  refine ⟨fun hlt => ?_, fun hge => ?_⟩
  · have hlt : k < es.length := by omega
    have hmk := hE _ (ge_mem hlt)
    refine ⟨fun m A2 l2 c2 kk w4 => ∃ j : Nat, m = (ge es k).2.2.toNat - j ∧ kk = (j : Int) ∧ (j : Int) ≤ (ge es k).2.2 ∧ (l2 : Int) = szF es k + j ∧ (∃ xs, OwnS w4 w2.heap.size 196 2 A2 l2 c2 xs) ∧ Pure w2 w4, ⟨_, 0, rfl, rfl, by omega, by omega, ⟨xs, ho⟩, p3⟩, ?_⟩
    rintro m A2 l2 c2 kk w4 ⟨j, rfl, rfl, hj, hl2, ⟨xs2, ho2⟩, p4⟩
    have hes4 := he.keep (p2.trans p4)
    have ld := edges_ld hes4 (i := (k : Int)) (by omega) (by omega)
    simp only [Int.toNat_natCast] at ld
    obtain ⟨ld0, ld1, ld2, -⟩ := ld
    have s4 := p4.size
    refine ⟨edges_ix he rfl (by omega) (by omega), _, ld2, fun hjl => ?_, fun hjl => ⟨in64 (by omega), es.length - (k + 1), by omega, k + 1, rfl, by omega, by omega, by rw [szF]; omega, ⟨xs2, ho2⟩, p4⟩⟩
    refine ⟨edges_ix he rfl (by omega) (by omega), _, ld0, edges_ix he rfl (by omega) (by omega), _, ld1, fun g3 w5 hN5 => ?_⟩
    refine OwnS.grow ho2 hN5 rfl rfl (by simp [Value.oneCell']) s4 (by omega) 16 (by omega) (fun A3 c3 w6 ho6 hgr => ?_)
    have p6 : Pure w2 w6 := (p4.drew.trans (hN5.keeps _)).grown hgr (fun r hr hlt => by
      cases hA2 : A2 with
      | none => rw [hA2] at hr; cases hr
      | some a =>
        have := (OwnS.lt ho2 hA2).1
        rw [hA2] at hr
        simp at hr
        omega)
    refine ⟨?_, in64 (by omega), (ge es k).2.2.toNat - (j + 1), by omega, j + 1, rfl, by omega, by omega, by omega, ⟨_, ho6⟩, p6⟩
    intro hlg
    have e1 := p6.block g (by omega) id
    have e2 := p4.block g (by omega) id
    have e3 : w5.heap[g]? = w4.heap[g]? := by rw [hN5.to_]; exact Below.heap_alloc w4.drew _ _ (show g < w4.heap.size by omega)
    rw [e1, e3, e2]
  · have hk2 : k = es.length := by omega
    subst hk2
    exact ⟨by rw [hlo, szF_sum], p2.trans p3⟩

theorem r08_size (A : Option Addr) (es : List E3) (c : Nat) (n : Int) (w : World) (he : Edges w A es) (hl : es.length ≤ 40) (hE : ∀ x ∈ es, 1 ≤ x.2.2 ∧ x.2.2 ≤ 50) :
    Calls Try.prog 161 #[.agg #[.int .i64 n, .slice A es.length c]] w fun e w' => e = .returned (.int .i64 ((es.map (·.2.2)).sum)) ∧ Pure w w' := by
  refine (ok_r08_Size n A es.length c w (fun r w' => r = (es.map (·.2.2)).sum ∧ Pure w w') ?_).mono (by rintro e w' ⟨r, rfl, rfl, p⟩; exact ⟨rfl, p⟩)
  unfold sh_r08_Size
  intro g w2 hN
  have p2 : Pure w w2 := hN.keeps _
  refine (r08_ends A es c n w2 (he.keep p2) hl hE).mono ?_
  rintro _ w3 ⟨A', l', c', rfl, h1, p3⟩
  exact ⟨_, _, _, rfl, p3.kp (by simp), h1, p2.trans p3⟩
/-- A small graph, or one with an error. -/
def smallF (n : Int) (es : List E3) (a b : Int) : Bool := decide (es.length ≤ 40 ∧ (gcheckF n es = 0 → n ≤ a ∧ (es.map (·.2.2)).sum ≤ b))
theorem r08_small (A : Option Addr) (es : List E3) (c : Nat) (n a b : Int) (w : World) (he : Edges w A es) :
    Calls Try.prog 145 #[.agg #[.int .i64 n, .slice A es.length c], .int .i64 a, .int .i64 b] w fun e w' => e = .returned (.bool (smallF n es a b)) ∧ Pure w w' := by
  refine (ok_r08_small n A es.length c a b w (fun r w' => r = smallF n es a b ∧ Pure w w') ?_).mono (by rintro e w' ⟨r, rfl, rfl, p⟩; exact ⟨rfl, p⟩)
  unfold sh_r08_small smallF
  intro g w2 hN
  have p2 : Pure w w2 := hN.keeps _
  refine ⟨fun h => ⟨by symm; rw [decide_eq_false_iff_not]; omega, p2⟩, fun h => ?_⟩
  refine (r08_check A es c n w2 (he.keep p2) (by omega)).mono ?_
  rintro _ w3 ⟨rfl, p3⟩
  have q3 := p2.trans p3
  refine ⟨_, rfl, p3.kp (by simp), fun h0 => ⟨fun ha => ?_, fun ha => ⟨?_, q3⟩⟩, fun h0 => ⟨?_, q3⟩⟩
  · have hE := gchk_ok es _ _ (gcheck_gchk h0)
    refine (r08_size A es c n w3 (he.keep q3) (by omega) (fun x hx => (hE x hx).2.2.2.2)).mono ?_
    rintro _ w4 ⟨rfl, p4⟩
    refine ⟨_, rfl, p4.kp (by simp), ?_, q3.trans p4⟩
    rw [decide_eq_decide]
    constructor
    · intro h1; exact ⟨by omega, fun _ => ⟨ha, h1⟩⟩
    · intro h1; exact (h1.2 h0).2
  · symm; rw [decide_eq_false_iff_not]; intro h1; exact ha (h1.2 h0).1
  · symm; rw [decide_eq_true_eq]; exact ⟨by omega, fun h1 => absurd h1 h0⟩
theorem r08_few (A : Option Addr) (es : List E3) (c : Nat) (n : Int) (w : World) (he : Edges w A es) :
    Calls Try.prog 109 #[.agg #[.int .i64 n, .slice A es.length c]] w fun e w' => e = .returned (.bool (smallF n es 6 9)) ∧ Pure w w' := by
  refine (ok_r08_Few n A es.length c w (fun r w' => r = smallF n es 6 9 ∧ Pure w w') ?_).mono (by rintro e w' ⟨r, rfl, rfl, p⟩; exact ⟨rfl, p⟩)
  unfold sh_r08_Few
  intro g w2 hN
  have p2 : Pure w w2 := hN.keeps _
  refine (r08_small A es c n 6 9 w2 (he.keep p2)).mono ?_
  rintro _ w3 ⟨rfl, p3⟩
  exact ⟨_, rfl, p3.kp (by simp), rfl, p2.trans p3⟩
theorem r25_few (A : Option Addr) (es : List E3) (c : Nat) (n : Int) (w : World) (he : Edges w A es) :
    Calls Try.prog 61 #[.agg #[.int .i64 n, .slice A es.length c]] w fun e w' => e = .returned (.bool (smallF n es 6 9)) ∧ Pure w w' := by
  refine (ok_r25_Few n A es.length c w (fun r w' => r = smallF n es 6 9 ∧ Pure w w') ?_).mono (by rintro e w' ⟨r, rfl, rfl, p⟩; exact ⟨rfl, p⟩)
  unfold sh_r25_Few
  intro g w2 hN
  have p2 : Pure w w2 := hN.keeps _
  refine (r08_few A es c n w2 (he.keep p2)).mono ?_
  rintro _ w3 ⟨rfl, p3⟩
  exact ⟨_, rfl, p3.kp (by simp), rfl, p2.trans p3⟩
theorem r34_few (A : Option Addr) (es : List E3) (c : Nat) (n : Int) (w : World) (he : Edges w A es) :
    Calls Try.prog 14 #[.agg #[.int .i64 n, .slice A es.length c]] w fun e w' => e = .returned (.bool (smallF n es 6 9)) ∧ Pure w w' := by
  refine (ok_r34_Few n A es.length c w (fun r w' => r = smallF n es 6 9 ∧ Pure w w') ?_).mono (by rintro e w' ⟨r, rfl, rfl, p⟩; exact ⟨rfl, p⟩)
  unfold sh_r34_Few
  intro g w2 hN
  have p2 : Pure w w2 := hN.keeps _
  refine (r25_few A es c n w2 (he.keep p2)).mono ?_
  rintro _ w3 ⟨rfl, p3⟩
  exact ⟨_, rfl, p3.kp (by simp), rfl, p2.trans p3⟩

theorem r17_in (k : Int) (w : World) : Calls Try.prog 73 #[.int .i64 k] w fun e w' => e = .returned (.bool (inF k)) ∧ w = w' := by
  refine (ok_r17_In k w (fun r w' => r = inF k ∧ w = w') ?_).mono (by rintro e w' ⟨r, rfl, rfl, p⟩; exact ⟨rfl, p⟩)
  unfold sh_r17_In inF
  exact ⟨fun h => ⟨by simp [h], rfl⟩, fun h => ⟨by simp [h], rfl⟩⟩
theorem r17_check (D : Option Addr) (d : List Int) (c : Nat) (n : Int) (w : World) (hd : Ints w D d) (hl : d.length ≤ 1000000000) :
    Calls Try.prog 26 #[.slice D d.length c, .int .i64 n] w fun e w' => e = .returned (.int .i64 (checkF d n)) ∧ w = w' := by
  refine (ok_r17_Check D d.length c n w (fun r w' => r = checkF d n ∧ w = w') ?_).mono (by rintro e w' ⟨r, rfl, rfl, p⟩; exact ⟨rfl, p⟩)
  unfold sh_r17_Check
  have hout : ¬ (1 ≤ n ∧ n ≤ 12) → 2 = checkF d n := fun h => by unfold checkF vertsF; rw [if_neg h, if_neg (by omega)]
  refine ⟨fun w2 => w = w2 ∧ 1 ≤ n ∧ n ≤ 12, fun w2 hJ => ?_, fun h => ⟨hout (by omega), rfl⟩, fun h => ⟨fun h2 => ⟨hout (by omega), rfl⟩, fun h2 => ⟨rfl, by omega, by omega⟩⟩⟩
  obtain ⟨rfl, n1, n12⟩ := hJ
  have hc : checkF d n = if (d.length : Int) = n then (if d.all inF then 0 else 2) else 8 := by unfold checkF; rw [if_pos (by unfold vertsF; rw [if_pos ⟨n1, n12⟩])]
  rw [hc]
  refine ⟨fun hln => ?_, fun hln => ⟨by rw [if_neg hln], rfl⟩⟩
  rw [if_pos hln]
  refine ⟨fun m i w3 => ∃ k : Nat, m = d.length - k ∧ i = (k : Int) ∧ k ≤ d.length ∧ (∀ j, j < k → inF (gi d j) = true) ∧ w = w3, ⟨d.length, 0, rfl, rfl, by omega, fun j hj => absurd hj (by omega), rfl⟩, ?_⟩
  rintro m i w3 ⟨k, rfl, rfl, hk, hinv, rfl⟩
  refine ⟨fun hlt => ?_, fun hge => ?_⟩
  · have ld := ints_ld hd (i := (k : Int)) (by omega) (by omega)
    simp only [Int.toNat_natCast] at ld
    refine ⟨ints_ix hd rfl (by omega) (by omega), _, ld, (r17_in _ w).mono ?_⟩
    rintro _ w4 ⟨rfl, rfl⟩
    refine ⟨_, rfl, fun h => ⟨in64 (by omega), d.length - (k + 1), by omega, k + 1, rfl, by omega, by omega, fun j hj => ?_, rfl⟩, fun h => ⟨?_, rfl⟩⟩
    · by_cases e : j = k
      · subst e; exact h
      · exact hinv j (by omega)
    · rw [if_neg]
      intro hall
      exact h ((all_iff_gi inF d).1 hall k (by omega))
  · have hk2 : k = d.length := by omega
    subst hk2
    exact ⟨by rw [if_pos ((all_iff_gi inF d).2 hinv)], rfl⟩
end Go.Proofs.Ytnhmeckhlajeaaa
