/- The contract of fire: a set of vertices fires some times. -/
import Derived.Test.YtnhmeckhlajeaaaUse
import Derived.Test.YtnhmeckhlajeaaaSb
namespace Go.Proofs.Ytnhmeckhlajeaaa
open Go Go.RowKit Go.Shelf
set_option linter.unusedVariables false
set_option maxRecDepth 100000
set_option maxHeartbeats 1000000

theorem Edges.keepL {S : Nat → Prop} {w w' : World} {A : Option Addr} {es : List E3} (h : Edges w A es) (hk : Keeps S w w') (hs : ∀ b off, A = some ⟨b, off, none⟩ → 0 < es.length → ¬ S b) : Edges w' A es := fun hl => by
  obtain ⟨b, off, e, hb, hc⟩ := h hl
  exact ⟨b, off, e, Nat.lt_of_lt_of_le hb hk.size, fun k h1 => ⟨hk.cell (hs b off e hl) (hc k h1).1, hk.cell (hs b off e hl) (hc k h1).2.1, hk.cell (hs b off e hl) (hc k h1).2.2⟩⟩

/-- One link is paid: chips go from v to the other end. -/
def pay (t : Int) (v : Nat) (d : List Int) (x : Int × Int) : List Int := (d.set v (gi d v - x.2 * t)).set x.1.toNat (gi (d.set v (gi d v - x.2 * t)) x.1.toNat + x.2 * t)
def payAll (t : Int) (v : Nat) (l : List (Int × Int)) (d : List Int) : List Int := l.foldl (pay t v) d
/-- The chips when the vertices below k have fired. -/
def fireD (es : List E3) (inn : List Bool) (t : Int) (d : List Int) : Nat → List Int
  | 0 => d
  | k + 1 => if gb inn k then payAll t k (linksF es k) (fireD es inn t d k) else fireD es inn t d k
/-- The script when the vertices below k have fired. -/
def fireS (inn : List Bool) (t : Int) (s : List Int) : Nat → List Int
  | 0 => s
  | k + 1 => if gb inn k then (fireS inn t s k).set k (gi (fireS inn t s k) k + t) else fireS inn t s k
theorem payAll_length (t : Int) (v : Nat) (l : List (Int × Int)) : ∀ d, (payAll t v l d).length = d.length := by
  unfold payAll
  induction l with
  | nil => intro d; rfl
  | cons x l ih => intro d; rw [List.foldl_cons, ih]; simp [pay]
theorem payAll_snoc (t : Int) (v : Nat) (l : List (Int × Int)) (x : Int × Int) (d : List Int) : payAll t v (l ++ [x]) d = pay t v (payAll t v l d) x := by unfold payAll; rw [List.foldl_append]; rfl
theorem fireD_length (es : List E3) (inn : List Bool) (t : Int) (d : List Int) : ∀ k, (fireD es inn t d k).length = d.length
  | 0 => rfl
  | k + 1 => by
    rw [fireD]; split
    · rw [payAll_length, fireD_length es inn t d k]
    · exact fireD_length es inn t d k
theorem fireS_length (inn : List Bool) (t : Int) (s : List Int) : ∀ k, (fireS inn t s k).length = s.length
  | 0 => rfl
  | k + 1 => by
    rw [fireS]; split
    · rw [List.length_set, fireS_length inn t s k]
    · exact fireS_length inn t s k
theorem fireS_gi (inn : List Bool) (t : Int) (s : List Int) : ∀ k i, k ≤ s.length → gi (fireS inn t s k) i = if i < k ∧ gb inn i = true then gi s i + t else gi s i
  | 0, i, _ => by simp [fireS]
  | k + 1, i, hk => by
    have ih := fireS_gi inn t s k
    rw [fireS]
    by_cases hb : gb inn k = true
    · rw [if_pos hb, gi_set (by rw [fireS_length]; omega)]
      by_cases e : i = k
      · subst e; rw [if_pos rfl, if_pos ⟨by omega, hb⟩, ih i (by omega), if_neg (by omega)]
      · rw [if_neg e, ih i (by omega)]
        by_cases h2 : i < k ∧ gb inn i = true
        · rw [if_pos h2, if_pos ⟨by omega, h2.2⟩]
        · rw [if_neg h2, if_neg (fun h => h2 ⟨by omega, h.2⟩)]
    · rw [if_neg hb, ih i (by omega)]
      by_cases h2 : i < k ∧ gb inn i = true
      · rw [if_pos h2, if_pos ⟨by omega, h2.2⟩]
      · rw [if_neg h2, if_neg (fun h => by
          by_cases e : i = k
          · subst e; exact hb h.2
          · exact h2 ⟨by omega, h.2⟩)]
/-- All numbers of a list lie between -M and M. -/
def Bnd (M : Int) (d : List Int) : Prop := ∀ i, -M ≤ gi d i ∧ gi d i ≤ M
theorem pay_bnd {t C M : Int} {v : Nat} {x : Int × Int} {d : List Int} (h : Bnd M d) (h0 : 0 ≤ x.2 * t) (h1 : x.2 * t ≤ C) (hv : v < d.length) (hu : x.1.toNat < d.length) : Bnd (M + 2 * C) (pay t v d x) := by
  intro i
  unfold pay
  rw [gi_set (by simpa using hu)]
  have hi := h i
  have hv' := h v
  have hu' := h x.1.toNat
  split
  · rw [gi_set hv]; split <;> omega
  · rw [gi_set hv]; split <;> omega
/-- A number beyond the limit at vertex j. -/
def bigAt (d s : List Int) (j : Nat) : Bool := decide (2097152 < gi d j ∨ 2097152 < -gi d j ∨ 2097152 < gi s j ∨ 2097152 < -gi s j)
/-- The state's error when the vertices below j have been looked at. -/
def fireE (d s : List Int) (e : Int) : Nat → Int
  | 0 => e
  | j + 1 => if bigAt d s j = true ∧ fireE d s e j = 0 then 11 else fireE d s e j
theorem mxF4_gt (a b c d L : Int) : L < mxF4 a b c d ↔ L < a ∨ L < b ∨ L < c ∨ L < d := by
  unfold mxF4 mxF
  split <;> split <;> split <;> omega

def FirePost (X gd gs n : Nat) (A : Option Addr) (es : List E3) (cap cd cs : Nat) (q : Int) (d s : List Int) (e : Int) (inn : List Bool) (t : Int) (w w' : World) : Prop :=
  State w' X gd gs n A es cap cd cs q (fireD es inn t d n) (fireS inn t s n) (fireE (fireD es inn t d n) (fireS inn t s n) e n) ∧ Keeps (fun j => j = gd ∨ j = gs ∨ j = X) w w'

theorem fire_any (X gd gs Gin n ci : Nat) (A : Option Addr) (es : List E3) (cap cd cs : Nat) (q : Int) (d s : List Int) (e t : Int) (inn : List Bool) (w : World) (hS : State w X gd gs n A es cap cd cs q d s e) (hes : Edges w A es)
    (heg : ∀ b off, A = some ⟨b, off, none⟩ → 0 < es.length → b ≠ gd ∧ b ≠ gs ∧ b ≠ X) (hin : BRow w Gin 4 ci inn) (hil : inn.length = n) (hn : n ≤ 12) (hE : ∀ x ∈ es, 0 ≤ x.1 ∧ x.1 < n ∧ 0 ≤ x.2.1 ∧ x.2.1 < n ∧ 0 ≤ x.2.2 ∧ x.2.2 ≤ 50) (hel : es.length ≤ 1000)
    (ht0 : 0 ≤ t) (ht1 : t ≤ 2147483648) (hbd : Bnd 2147483648 d) (hbs : Bnd 2147483648 s) :
    Calls Try.prog 112 #[.pointer (some ⟨X, 0, none⟩), .slice (some ⟨Gin, 0, none⟩) n ci, .int .i64 t] w fun e' w' => e' = .returned (.tuple #[]) ∧ FirePost X gd gs n A es cap cd cs q d s e inn t w w' := by
  refine (ok_reduced_state_fire _ _ _ _ _ w (fun w' => FirePost X gd gs n A es cap cd cs q d s e inn t w w') ?_)
  unfold sh_reduced_state_fire
  have hE12 : Ends12 es := fun x hx => by have := hE x hx; omega
  obtain ⟨hX, hd, hs, hne, hdl, hsl⟩ := hS
  have hXd : X ≠ gd := hX.ne_ hd (by decide)
  have hXs : X ≠ gs := hX.ne_ hs (by decide)
  have hGd : Gin ≠ gd := Row.ne_ hin hd (by decide)
  have hGs : Gin ≠ gs := Row.ne_ hin hs (by decide)
  have lX := hX.lt
  have ld := Row.lt hd
  have ls := Row.lt hs
  intro g w2 hN1 g2 w3 hN2
  have ag := hN1.at_
  have sg := hN1.size
  have ag2 := hN2.at_
  have sg2 := hN2.size
  have K3 : Keeps (fun j => j = gd ∨ j = gs) w w3 := (hN1.keeps _).trans (hN2.keeps _)
  have hS3 : State w3 X gd gs n A es cap cd cs q (fireD es inn t d 0) (fireS inn t s 0) e := ⟨hN2.row_ (hN1.row_ hX), hN2.row_ (hN1.row_ hd), hN2.row_ (hN1.row_ hs), hne, hdl, hsl⟩
  refine ⟨fun m i w4 => ∃ k : Nat, m = n - k ∧ k ≤ n ∧ i = (k : Int) ∧ State w4 X gd gs n A es cap cd cs q (fireD es inn t d k) (fireS inn t s k) e ∧ Keeps (fun j => j = gd ∨ j = gs) w w4 ∧ g2 < w4.heap.size ∧ Bnd (2147483648 * (1 + (k : Int) * 100000)) (fireD es inn t d k), ⟨n, 0, rfl, Nat.zero_le _, rfl, hS3, K3, by omega, by intro i; have := hbd i; simp only [fireD]; omega⟩, ?_⟩
  clear hS3 K3
  rintro m i w4 ⟨k, rfl, hk, rfl, ⟨hX4, hd4, hs4, _, hdl4, hsl4⟩, K4, hsz4, hbk⟩
  have hin4 : BRow w4 Gin 4 ci inn := K4.row hin (by omega)
  have lX4 := hX4.lt
  have ld4 := Row.lt hd4
  have ls4 := Row.lt hs4
  refine ⟨fun hlt => ?_, fun hge => ?_⟩
  · refine ⟨ix_some (by omega) hlt, gb inn k, by simpa using bld hin4 (i := (k : Int)) (by omega) (by omega), fun g3 w5 hN3 => ?_⟩
    have ag3 := hN3.at_
    have sg3 := hN3.size
    refine ⟨by omega, by omega, fun w6 e6 => ?_⟩
    have K6 : Keeps (fun j => j = gd ∨ j = gs) w w6 := by
      rw [e6]; exact (K4.trans (hN3.keeps _)).setCell (fun h => absurd h (by have := K4.size; simp; omega)) _
    have s6 : w6.heap.size = w5.heap.size := by rw [e6]; simp [World.setCell]
    have far6 : ∀ {k' : Nat} {e' : TypeId} {sz : Nat} {xs : List Value}, k' ≠ g3 → Row w4 k' e' sz xs → Row w6 k' e' sz xs := fun hne' hr => by
      rw [e6]; exact (hN3.row_ hr).far (by simpa using hne') _
    have hX6 := far6 (by omega) hX4
    have hd6 : IRow w6 gd _ _ _ := far6 (by omega) hd4
    have hs6 : IRow w6 gs _ _ _ := far6 (by omega) hs4
    refine ⟨fun hb => ?_, fun hb => ?_⟩
    · refine ⟨_, _, _, hX6.at_ 4 rfl, ix_some (by omega) (by omega), _, ild hs6 (i := (k : Int)) (by omega) (by omega), ?_, ix_some (by omega) (by omega), iwr hs6 (by omega) (by omega), by rw [ixA_one]; simp; omega, by rw [ixA_one]; simp; omega, by rw [ixA_one]; simp; omega, fun w7 e7 => ?_⟩
      · have := hbs k
        have h9 := fireS_gi inn t s k k (by omega)
        rw [if_neg (by omega)] at h9
        simp only [Int.toNat_natCast]
        rw [h9]; exact in64 (by omega)
      have hs7 : IRow w7 gs 3 cs (fireS inn t s (k + 1)) := by
        have := ist hs6.drew (k : Int) (gi (fireS inn t s k) (k : Int).toNat + t)
        rw [e7, fireS, if_pos hb]; simpa using this
      have far7 : ∀ {k' : Nat} {e' : TypeId} {sz : Nat} {xs : List Value}, k' ≠ gs → Row w6 k' e' sz xs → Row w7 k' e' sz xs := fun hne' hr => by
        rw [e7]; exact Row.far_ hr.drew hne' _ _
      have hX7 := far7 hXs hX6
      have hd7 := far7 hne hd6
      have K7 : Keeps (fun j => j = gd ∨ j = gs) w w7 := by rw [e7]; exact K6.drew.set_ (.inr rfl) _ _
      have s7 : w7.heap.size = w6.heap.size := by rw [e7]; simp [World.setCell]
      refine (links_pure X (k : Int) w7).mono ?_
      rintro _ w8 ⟨bx, bv, rfl, hbx, hbv, rbx, rbv, hp8⟩
      have s8 := hp8.size
      have K8 : Keeps (fun j => j = gd ∨ j = gs) w w8 := Pure.after K7 hp8
      have hX8 := hp8.row hX7 id
      have hd8 := hp8.row hd7 id
      have hs8 := hp8.row hs7 id
      have hes8 : Edges w8 A es := hes.keepL K8 (fun b off h h0 => by have := heg b off h h0; omega)
      have lbx := rbx.lt
      have lbv := rbv.lt
      refine ⟨_, rfl, hp8.kp id, hp8.kp id, hp8.kp id, Keeps.kpm_pure hp8, ?_⟩
      refine ⟨LinkOf es (k : Int), encL es (k : Int), _, _, es.length, fun pre W => IRow W gd 3 cd (payAll t k (pre.map (·.1)) (fireD es inn t d k)) ∧ Bnd (2147483648 * (1 + (k : Int) * 100000 + (pre.length : Int) * 100)) (payAll t k (pre.map (·.1)) (fireD es inn t d k)) ∧ Keeps (fun j => j = gd) w8 W,
        links_iter X A es cap (k : Int) bx bv w8 rbx rbv (Row.cell hX8 (i := 1) rfl) hes8 hE12 (by omega) (by omega) (by omega), fun _ => rfl, ?_, ⟨hd8, by simpa [payAll] using hbk, Keeps.refl _ _⟩, ?_, ?_, ?_⟩
      · exact stays_of fun pre W W' row h hg hr => ⟨Row.owned h.1 hg (fun r e => (hr r e).2), h.2.1, h.2.2.owned hg (Nat.le_refl _) (fun r e => (hr r e).1)⟩
      · intro pr W h
        exact ⟨h.2.2.kp (by omega), h.2.2.kp (by omega), h.2.2.kp (by omega), trivial⟩
      · rintro pre el w9 ⟨rd9, hb9, K9⟩ hlen
        obtain ⟨eg, heg', hlk⟩ := el.2
        have hxx : 0 ≤ el.1.1 ∧ el.1.1 < n ∧ 0 ≤ el.1.2 ∧ el.1.2 ≤ 50 := by
          have h2 := hE eg heg'
          unfold link at hlk
          split at hlk
          · rename_i hc
            simp only [Option.some.injEq] at hlk
            rw [← hlk]
            omega
          · cases hlk
        obtain ⟨u1, u2, u3, u4⟩ := hxx
        have hmt0 : 0 ≤ el.1.2 * t := Int.mul_nonneg u3 ht0
        have hmt1 : el.1.2 * t ≤ 50 * 2147483648 := Int.mul_le_mul u4 ht1 ht0 (by omega)
        have hX9 := K9.row hX8 hXd
        obtain ⟨dd, hdd⟩ : ∃ dd, dd = payAll t k (pre.map (·.1)) (fireD es inn t d k) := ⟨_, rfl⟩
        have hdlen : dd.length = n := by rw [hdd, payAll_length, fireD_length]; exact hdl
        rw [← hdd] at rd9 hb9
        have hpl : pre.length ≤ 1000 := by omega
        refine ⟨el.1.1, el.1.2, rfl, _, _, _, hX9.at_ 3 rfl, ix_some (by omega) (by omega), _, ild rd9 (i := (k : Int)) (by omega) (by omega), in64 (by omega), ?_, ix_some (by omega) (by omega), iwr (Row.drew rd9) (by omega) (by omega), by rw [ixA_one]; simp; omega, by rw [ixA_one]; simp; omega, by rw [ixA_one]; simp; omega, fun w11 e11 => ?_⟩
        · have := hb9 (k : Int).toNat
          exact in64 (by omega)
        have rd11 : IRow w11 gd 3 cd (dd.set k (gi dd k - el.1.2 * t)) := by
          have := ist (Row.drew rd9) (k : Int) (gi dd (k : Int).toNat - el.1.2 * t)
          rw [e11]; simpa using this
        have far11 : ∀ {k' : Nat} {e' : TypeId} {sz : Nat} {xs : List Value}, k' ≠ gd → Row w9 k' e' sz xs → Row w11 k' e' sz xs := fun hne' hr => by
          rw [e11]; exact Row.far_ hr.drew hne' _ _
        have hX11 := far11 hXd hX9
        have K11 : Keeps (fun j => j = gd) w8 w11 := by rw [e11]; exact K9.drew.set_ rfl _ _
        have ko11 : KeepsOthers w9 w11 := by rw [e11]; exact (KeepsOthers.drew w9).trans (KeepsOthers.setCell _ _ _)
        have kd11 : Keeps (fun j => j = gd) w9 w11 := by rw [e11]; exact ((Keeps.refl (fun j => j = gd) w9).drew).set_ rfl _ _
        refine ⟨_, _, _, hX11.at_ 3 rfl, ix_some (by omega) (by omega), _, ild rd11 (i := el.1.1) (by omega) (by simp; omega), in64 (by omega), ?_, ix_some (by omega) (by omega), iwr (Row.drew rd11) (by omega) (by simp; omega), by rw [ixA_one]; simp; omega, by rw [ixA_one]; simp; omega, by rw [ixA_one]; simp; omega, fun w12 e12 => ?_⟩
        · have h1 := hb9 el.1.1.toNat
          have h2 := hb9 k
          rw [gi_set (by omega)]
          split <;> exact in64 (by omega)
        have rd12 : IRow w12 gd 3 cd (pay t k dd el.1) := by
          have := ist (Row.drew rd11) el.1.1 (gi (dd.set k (gi dd k - el.1.2 * t)) el.1.1.toNat + el.1.2 * t)
          rw [e12]; exact this
        have kd12 : Keeps (fun j => j = gd) w9 w12 := by rw [e12]; exact kd11.drew.set_ rfl _ _
        have hpa : payAll t k ((pre ++ [el]).map (·.1)) (fireD es inn t d k) = pay t k dd el.1 := by rw [List.map_append, List.map_singleton, payAll_snoc, ← hdd]
        refine ⟨?_, ?_, ?_, ?_, ?_⟩
        · rw [e12]; exact ko11.trans ((KeepsOthers.drew w11).trans (KeepsOthers.setCell _ _ _))
        · intro j hj
          have h5 := K9.size
          refine kd12.block j ?_ ?_
          · rcases hj with rfl | ⟨h0, a, ha, rfl⟩
            · omega
            · obtain ⟨b, off, hA, hb, _⟩ := hes8 h0
              rw [hA] at ha; cases ha; simp; omega
          · rcases hj with rfl | ⟨h0, a, ha, rfl⟩
            · omega
            · obtain ⟨b, off, hA, hb, _⟩ := hes8 h0
              rw [hA] at ha; cases ha
              have := heg b off hA (List.length_pos_of_mem heg'); simp; omega
        · rw [hpa]; exact rd12
        · rw [hpa]
          have h6 := pay_bnd (C := 50 * 2147483648) hb9 hmt0 hmt1 (by omega : k < dd.length) (by omega : el.1.1.toNat < dd.length)
          intro i
          have h7 := h6 i
          have h8 : (((pre ++ [el]).length : Nat) : Int) = (pre.length : Int) + 1 := by rw [List.length_append]; rfl
          rw [h8]
          omega
        · rw [e12]; exact K11.drew.set_ rfl _ _
      · rintro xs w10 hxs ⟨rd10, hb10, K10⟩
        have hDE : fireD es inn t d (k + 1) = payAll t k (xs.map (·.1)) (fireD es inn t d k) := by rw [fireD, if_pos hb, hxs]
        have hxl : xs.length ≤ es.length := by
          have h := congrArg List.length hxs
          rw [List.length_map] at h
          rw [h]
          exact List.length_filterMap_le _ _
        refine ⟨K10.kpm (fun j hj o ho => by subst hj; exact Row.cells_ hd8 o ho), in64 (by omega), n - (k + 1), by omega, k + 1, rfl, by omega, by omega, ⟨by have := K10.row hX8 hXd; rw [fireD_length, fireS_length] at this ⊢; exact this, by rw [hDE]; exact rd10, K10.row hs8 (Ne.symm hne), hne, by rw [fireD_length]; exact hdl, by rw [fireS_length]; exact hsl⟩, K8.trans (K10.mono (fun _ _ h => .inl h)), by have := K10.size; omega, ?_⟩
        rw [hDE]
        intro i
        have := hb10 i
        omega
    · refine ⟨in64 (by omega), n - (k + 1), by omega, k + 1, rfl, by omega, by omega, ⟨by rw [fireD, if_neg hb, fireS, if_neg hb]; exact hX6, by rw [fireD, if_neg hb]; exact hd6, by rw [fireS, if_neg hb]; exact hs6, hne, by rw [fireD_length]; exact hdl, by rw [fireS_length]; exact hsl⟩, K6, by omega, ?_⟩
      rw [fireD, if_neg hb]; intro i; have := hbk i; omega
  · obtain rfl : k = n := by omega
    obtain ⟨D, hD⟩ : ∃ D, D = fireD es inn t d k := ⟨_, rfl⟩
    obtain ⟨S, hSS⟩ : ∃ S, S = fireS inn t s k := ⟨_, rfl⟩
    have hDl : D.length = k := by rw [hD, fireD_length]; exact hdl
    have hSl : S.length = k := by rw [hSS, fireS_length]; exact hsl
    have hbS : Bnd 4294967296 S := by
      intro i
      rw [hSS, fireS_gi inn t s k i (by omega)]
      have := hbs i
      split <;> omega
    unfold FirePost
    rw [← hD] at hX4 hd4 hbk ⊢
    rw [← hSS] at hX4 hs4 ⊢
    refine ⟨_, _, _, hX4.at_ 3 rfl, ?_⟩
    refine ⟨fun m i w13 => ∃ j : Nat, m = k - j ∧ j ≤ k ∧ i = (j : Int) ∧ State w13 X gd gs k A es cap cd cs q D S (fireE D S e j) ∧ Keeps (fun j => j = gd ∨ j = gs ∨ j = X) w w13, ⟨k, 0, rfl, Nat.zero_le _, rfl, ⟨hX4, hd4, hs4, hne, hDl, hSl⟩, K4.mono (fun _ _ h => by rcases h with h | h; exact .inl h; exact .inr (.inl h))⟩, ?_⟩
    rintro m i w13 ⟨j, rfl, hj, rfl, ⟨hX5, hd5, hs5, _, _, _⟩, K5⟩
    refine ⟨fun hlt => ?_, fun hge => ?_⟩
    · have hb1 := hbk j
      have hb2 := hbS j
      have e1 := fun h0 h1 => ild (Row.drew hd5) (i := (j : Int)) h0 h1
      have e2 := fun h0 h1 => ild (Row.drew hs5) (i := (j : Int)) h0 h1
      simp only [Int.toNat_natCast] at e1 e2
      refine ⟨_, _, _, hX5.drew.at_ 3 rfl, ix_some (by omega) (by omega), _, e1 (by omega) (by omega), _, _, _, hX5.drew.at_ 3 rfl, ix_some (by omega) (by omega), _, e1 (by omega) (by omega), in64 (by omega), _, _, _, hX5.drew.at_ 4 rfl, ix_some (by omega) (by omega), _, e2 (by omega) (by omega), _, _, _, hX5.drew.at_ 4 rfl, ix_some (by omega) (by omega), _, e2 (by omega) (by omega), in64 (by omega), fun hbig => ?_, fun hbig => ?_⟩
      · have hba : bigAt D S j = true := by rw [mxF4_gt] at hbig; unfold bigAt; simpa using hbig
        refine ⟨_, hX5.drew.at_ 5 rfl, fun he => ?_, fun he => ?_⟩
        · have K13 := K5.size
          refine ⟨hX5.drew.wr_ 5 (by simp), by simp [add_zero_]; omega, by simp [add_zero_]; omega, fun w14 e14 => ⟨in64 (by omega), k - (j + 1), by omega, j + 1, rfl, by omega, by omega, ?_, ?_⟩⟩
          · rw [e14, add_zero_, fireE, if_pos ⟨hba, he⟩]
            exact ⟨hX5.drew.set_ 5 _, Row.far (Row.drew hd5) (by simp; omega) _, Row.far (Row.drew hs5) (by simp; omega) _, hne, hDl, hSl⟩
          · rw [e14, add_zero_]; exact K5.drew.setCell (fun _ => .inr (.inr rfl)) _
        · refine ⟨in64 (by omega), k - (j + 1), by omega, j + 1, rfl, by omega, by omega, ?_, K5.drew⟩
          rw [fireE, if_neg (fun h => he h.2)]
          exact ⟨hX5.drew, Row.drew hd5, Row.drew hs5, hne, hDl, hSl⟩
      · have hba : ¬ bigAt D S j = true := by rw [mxF4_gt] at hbig; unfold bigAt; simpa using hbig
        refine ⟨in64 (by omega), k - (j + 1), by omega, j + 1, rfl, by omega, by omega, ?_, K5.drew⟩
        rw [fireE, if_neg (fun h => hba h.1)]
        exact ⟨hX5.drew, Row.drew hd5, Row.drew hs5, hne, hDl, hSl⟩
    · obtain rfl : j = k := by omega
      intro wz ha
      exact ⟨⟨ha.row hX5, ha.row hd5, ha.row hs5, hne, hDl, hSl⟩, ha.keeps K5⟩
end Go.Proofs.Ytnhmeckhlajeaaa
