/- The contracts of slices.Max and of lend: from the farthest vertices on, the nearer ones fire. What fires well is a premise (Good). -/
import Derived.Test.YtnhmeckhlajeaaaDist
import Derived.Test.YtnhmeckhlajeaaaSettle
namespace Go.Proofs.Ytnhmeckhlajeaaa
open Go Go.RowKit Go.Shelf
set_option linter.unusedVariables false
set_option maxRecDepth 100000
set_option maxHeartbeats 1000000

/-- The greatest of the first k numbers and of the first one. -/
def maxTo (l : List Int) : Nat → Int
  | 0 => gi l 0
  | k + 1 => mxF (maxTo l k) (gi l k)
theorem maxTo_ge (l : List Int) : ∀ (k j : Nat), j < k → gi l j ≤ maxTo l k
  | k + 1, j, h => by
    rw [maxTo, mxF_eq]
    by_cases e : j = k
    · subst e; exact Int.le_max_right _ _
    · exact Int.le_trans (maxTo_ge l k j (by omega)) (Int.le_max_left _ _)
theorem maxTo_mem (l : List Int) : ∀ k, k ≤ l.length → 0 < l.length → ∃ j, j < l.length ∧ maxTo l k = gi l j
  | 0, _, h => ⟨0, h, rfl⟩
  | k + 1, h, h0 => by
    obtain ⟨j, hj, e⟩ := maxTo_mem l k (by omega) h0
    rw [maxTo]
    unfold mxF
    split
    · exact ⟨k, by omega, rfl⟩
    · exact ⟨j, hj, e⟩
theorem max_any (A : Option Addr) (l : List Int) (c : Nat) (w : World) (hl : Ints w A l) (h0 : 0 < l.length) (hn : l.length ≤ 1000000) :
    Calls Try.prog 113 #[.slice A l.length c] w fun e w' => ∃ r, e = .returned (.int .i64 r) ∧ r = maxTo l l.length ∧ Pure w w' := by
  refine ok_slices_Max_ A l.length c w (fun r w' => r = maxTo l l.length ∧ Pure w w') ?_
  unfold sh_slices_Max_
  refine ⟨fun w' => w' = w, ?_, fun h => absurd h (by omega), fun _ => rfl⟩
  intro w2 hw2
  have hw2 := hw2.symm
  subst hw2
  refine ⟨ints_ix hl rfl (by omega) (by omega), _, ints_ld hl (by omega) (by omega), fun m v i w3 => ∃ k : Nat, m = l.length - k ∧ 1 ≤ k ∧ k ≤ l.length ∧ i = (k : Int) ∧ v = maxTo l k ∧ Pure w w3, ⟨l.length - 1, 1, rfl, by omega, by omega, rfl, ?_, Keeps.refl _ _⟩, ?_⟩
  · rw [maxTo, maxTo, mxF_eq]; simp
  · rintro m v i w3 ⟨k, rfl, hk1, hk2, rfl, rfl, hp⟩
    refine ⟨fun hlt => ?_, fun hge => ?_⟩
    · have := ints_ld (hl.keep hp) (i := (k : Int)) (by omega) (by omega)
      simp only [Int.toNat_natCast] at this
      exact ⟨ints_ix hl rfl (by omega) (by omega), _, this, in64 (by omega), l.length - (k + 1), by omega, k + 1, rfl, by omega, by omega, by omega, rfl, hp⟩
    · obtain rfl : k = l.length := by omega
      exact ⟨rfl, hp⟩
def nearOf (o : List Int) (k : Int) : List Bool := o.map fun x => decide (x < k)
theorem gb_near {o : List Int} {k : Int} {j : Nat} (h : j < o.length) : gb (nearOf o k) j = decide (gi o j < k) := by
  rw [gb_of_lt (by simpa [nearOf] using h), gi_of_lt h]
  simp [nearOf]
/-- How often the vertices nearer than k have to fire, by the vertices below j. -/
def timesL (es : List E3) (o : List Int) (k : Int) (d : List Int) : Nat → Int
  | 0 => 0
  | j + 1 => if gi o j = k ∧ gi d j < 0 then mxF (timesL es o k d j) ((-gi d j + joinsF es (j : Int) (fun u => gb (nearOf o k) u.toNat) - 1).tdiv (joinsF es (j : Int) (fun u => gb (nearOf o k) u.toNat))) else timesL es o k d j

theorem addF_pos {p : Int → Bool} {l : List (Int × Int)} (h : ∀ q ∈ l, 0 ≤ q.2) {x : Int × Int} (hx : x ∈ l) (hp : p x.1 = true) (hx1 : 1 ≤ x.2) : 1 ≤ addF p l := by
  suffices H : ∀ (l : List (Int × Int)) (a : Int), (∀ q ∈ l, 0 ≤ q.2) → a ≤ l.foldl (fun n x => if p x.1 then n + x.2 else n) a ∧ (x ∈ l → a + 1 ≤ l.foldl (fun n x => if p x.1 then n + x.2 else n) a) by
    have := (H l 0 h).2 hx
    unfold addF; omega
  intro l
  induction l with
  | nil => intro a _; simp
  | cons y l ih =>
    intro a h
    have h1 := ih (if p y.1 then a + y.2 else a) (fun q hq => h q (by simp [hq]))
    have hy := h y (by simp)
    rw [List.foldl_cons]
    refine ⟨?_, fun hm => ?_⟩
    · split at h1 <;> rename_i hpy <;> simp only [hpy] at h1 ⊢ <;> simp at h1 ⊢ <;> omega
    · rcases List.mem_cons.1 hm with rfl | hm
      · rw [if_pos hp] at h1 ⊢; omega
      · have h2 := h1.2 hm
        split at h2 <;> rename_i hpy <;> simp only [hpy] at h2 ⊢ <;> simp at h2 ⊢ <;> omega
theorem near_pos {n : Nat} {es : List E3} {q : Nat} {o : List Int} (hD : Dist n es q o) (hE1 : ∀ x ∈ es, 1 ≤ x.2.2) {v k : Nat} (hv : v < n) (hk : gi o v = (k : Int) + 1) : 1 ≤ joinsF es (v : Int) (fun u => gb (nearOf o ((k : Int) + 1)) u.toNat) := by
  obtain ⟨u, hu, ⟨m, hm⟩, ho⟩ := hD.par v hv (by omega)
  have hpos : ∀ p ∈ linksF es (v : Int), 1 ≤ p.2 := fun p hp => by
    obtain ⟨x, hx, _, _, _, h4⟩ := (mem_linksF (u := p.1) (m := p.2)).1 hp
    rw [h4]; exact hE1 x hx
  refine addF_pos (fun p hp => by have := hpos p hp; omega) hm ?_ (hpos _ hm)
  simp only [Int.toNat_natCast]
  rw [gb_near (by rw [hD.len]; exact hu)]
  simp; omega

theorem lend1_any (B g n c : Nat) (l : List Bool) (u : Nat) (w : World) (hB : Row w B 102 1 [.slice (some ⟨g, 0, none⟩) n c]) (hg : BRow w g 4 c l) (hl : l.length = n) (hu : u < n) :
    Calls Try.prog 115 #[.int .i64 (u : Int), .pointer (some ⟨B, 0, none⟩)] w fun e w' => e = .returned (.bool (gb l u)) ∧ w = w' := by
  refine (ok_reduced_state_lend_1 (u : Int) ⟨B, 0, none⟩ w (fun r w' => r = gb l u ∧ w = w') ?_).mono ?_
  · unfold sh_reduced_state_lend_1
    have := bld hg (i := (u : Int)) (by omega) (by omega)
    exact ⟨_, _, _, Row.cell hB (i := 0) rfl, ix_some (by omega) (by omega), gb l u, by simpa using this, rfl, rfl⟩
  · rintro e w' ⟨r, rfl, rfl, rfl⟩; exact ⟨rfl, rfl⟩

def LendPost (Good : List Int → Nat → List Int → List Int → Int → Prop) (X gd gs n : Nat) (A : Option Addr) (es : List E3) (cap cd cs q : Nat) (w w' : World) : Prop :=
  ∃ o k d s e, Dist n es q o ∧ Good o k d s e ∧ State w' X gd gs n A es cap cd cs q d s e ∧ (k = 0 ∨ e ≠ 0) ∧ Keeps (fun j => j = gd ∨ j = gs ∨ j = X) w w'

theorem lend_any (Good : List Int → Nat → List Int → List Int → Int → Prop) (X gd gs n : Nat) (A : Option Addr) (es : List E3) (cap cd cs q : Nat) (d s : List Int) (e : Int) (w : World) (hS : State w X gd gs n A es cap cd cs q d s e) (hes : Edges w A es)
    (heg : ∀ b off, A = some ⟨b, off, none⟩ → 0 < es.length → b ≠ gd ∧ b ≠ gs ∧ b ≠ X) (hq : q < n) (hn : n ≤ 12) (hE : ∀ x ∈ es, 0 ≤ x.1 ∧ x.1 < n ∧ 0 ≤ x.2.1 ∧ x.2.1 < n ∧ 0 ≤ x.2.2 ∧ x.2.2 ≤ 50) (hE1 : ∀ x ∈ es, 1 ≤ x.2.2) (hel : es.length ≤ 1000)
    (hG0 : ∀ o, Dist n es q o → Good o (maxTo o n).toNat d s e)
    (hG : ∀ o k d s e, Good o k d s e → Bnd 2147483647 d ∧ Bnd 2147483648 s)
    (hG2 : ∀ o k d s, Dist n es q o → Good o (k + 1) d s 0 → d.length = n → s.length = n → timesL es o ((k : Int) + 1) d n ≤ 2147483648 ∧
      (0 < timesL es o ((k : Int) + 1) d n → Good o k (fireD es (nearOf o ((k : Int) + 1)) (timesL es o ((k : Int) + 1) d n) d n) (fireS (nearOf o ((k : Int) + 1)) (timesL es o ((k : Int) + 1) d n) s n)
        (fireE (fireD es (nearOf o ((k : Int) + 1)) (timesL es o ((k : Int) + 1) d n) d n) (fireS (nearOf o ((k : Int) + 1)) (timesL es o ((k : Int) + 1) d n) s n) 0 n)) ∧
      (¬ 0 < timesL es o ((k : Int) + 1) d n → Good o k d s 0)) :
    Calls Try.prog 65 #[.pointer (some ⟨X, 0, none⟩)] w fun e' w' => e' = .returned (.tuple #[]) ∧ LendPost Good X gd gs n A es cap cd cs q w w' := by
  refine ok_reduced_state_lend _ w (LendPost Good X gd gs n A es cap cd cs q w) ?_
  unfold sh_reduced_state_lend
  have hE12 : Ends12 es := fun x hx => by have := hE x hx; omega
  refine (distances_any X gd gs n A es cap cd cs q d s e w hS hes hq hn hE hel).mono ?_
  rintro _ w2 ⟨Ao, lo, co, rfl, go, o, rfl, hlo, hco, hgo, ho2, hD, p2⟩
  have hlo := hlo.symm
  have hco := hco.symm
  subst hlo
  subst hco
  have hol := hD.len
  have hmx := max_any (some ⟨go, 0, none⟩) o n w2 (IRow.ints ho2) (by omega) (by omega)
  rw [hol] at hmx
  refine ⟨_, _, _, rfl, hmx.mono ?_⟩
  clear hmx
  rintro _ w3 ⟨r, rfl, hr, p3⟩
  have hr0 : 0 ≤ r := by
    have := maxTo_ge o n q hq
    rw [hD.q0] at this; omega
  have hrn : r ≤ (n : Int) - 1 := by
    obtain ⟨j, hj, hjr⟩ := maxTo_mem o n (by omega) (by omega)
    rw [hr, hjr]; exact hD.high j
  have hp3 : Pure w w3 := p2.trans p3
  refine ⟨r, rfl, fun m i w4 => ∃ k d s e, m = k ∧ i = (k : Int) ∧ k ≤ 12 ∧ Good o k d s e ∧ State w4 X gd gs n A es cap cd cs q d s e ∧ Keeps (fun j => j = gd ∨ j = gs ∨ j = X) w3 w4, ⟨r.toNat, r.toNat, d, s, e, rfl, by omega, by omega, by rw [hr]; exact hG0 o hD, ⟨hp3.row hS.1 id, hp3.row hS.2.1 id, hp3.row hS.2.2.1 id, hS.2.2.2⟩, Keeps.refl _ _⟩, ?_⟩
  have hS0 := hS
  clear hG0 hS
  have hes3 := hes.keep hp3
  have ho3 := p3.row ho2 id
  have lgo := Row.lt ho3
  have lX0 := hS0.1.lt
  have ld0 := Row.lt hS0.2.1
  have ls0 := Row.lt hS0.2.2.1
  rintro m i w4 ⟨k, d, s, e, hmk, rfl, hk12, hg, hS4, K4⟩
  have hmk := hmk.symm
  subst hmk
  have hX4 := hS4.1
  have hS4' := hS4
  obtain ⟨_, hd4, hs4, hne, hdl, hsl⟩ := hS4'
  refine ⟨fun w' => w' = w4 ∧ 0 < k ∧ e = 0, ?_, fun hpos => ⟨e, hX4.at_ 5 rfl, fun he => ⟨rfl, by omega, he⟩, fun he => ⟨o, k, d, s, e, hD, hg, hS4, .inr he, Pure.to hp3 |>.trans K4⟩⟩, fun hpos => ⟨o, k, d, s, e, hD, hg, hS4, .inl (by omega), Pure.to hp3 |>.trans K4⟩⟩
  rintro w5 ⟨hw5, hk0, he0⟩
  have hw5 := hw5.symm
  subst hw5
  subst he0
  obtain ⟨k, rfl⟩ : ∃ k', k = k' + 1 := ⟨k - 1, by omega⟩
  have ho4 : IRow w4 go 3 n o := K4.row ho3 (by omega)
  obtain ⟨ht1, hgy, hgn⟩ := hG2 o k d s hD hg hdl hsl
  obtain ⟨hbd, hbs⟩ := hG o (k + 1) d s 0 hg
  have hkc : ((k + 1 : Nat) : Int) = (k : Int) + 1 := by omega
  rw [hkc]
  refine ⟨n, by rw [add_zero0, add_zero_]; exact Row.cell hX4 (i := 0) rfl, by omega, fun g w6 hN g2 w7 hN2 => ⟨hN2.row.wr_ 0 (by simp), fun w8 e8 => ?_⟩⟩
  have a1 := hN.at_
  have s1 := hN.size
  have a2 := hN2.at_
  have s2 := hN2.size
  have s8 : w8.heap.size = w7.heap.size := by rw [e8]; simp [World.setCell]
  have far8 : ∀ {k' : Nat} {e' : TypeId} {sz : Nat} {xs : List Value}, k' ≠ g2 → Row w7 k' e' sz xs → Row w8 k' e' sz xs := fun hne' hr => by
    rw [e8]; exact hr.far (by simpa using hne') _
  have hg6 : BRow w6 g 4 n (List.replicate n false) := by
    have := hN.row
    simpa [BRow] using this
  have hg8 : BRow w8 g 4 n (List.replicate n false) := far8 (by omega) (hN2.row_ hg6)
  have hv8 : Row w8 g2 102 1 [.slice (some ⟨g, 0, none⟩) n n] := by rw [e8]; simpa using hN2.row.set_ 0 (.slice (some ⟨g, 0, none⟩) n n)
  have p8 : Pure w4 w8 := by rw [e8]; exact ((hN.keeps _).trans (hN2.keeps _)).setCell (fun h => absurd h (by simp; omega)) _
  refine ⟨_, _, _, Row.cell hv8 (i := 0) rfl, ?_⟩
  refine ⟨fun mm i2 w9 => ∃ (j : Nat) (l : List Bool), mm = n - j ∧ j ≤ n ∧ i2 = (j : Int) ∧ l.length = n ∧ (∀ x, x < j → gb l x = decide (gi o x < (k : Int) + 1)) ∧ BRow w9 g 4 n l ∧ Row w9 g2 102 1 [.slice (some ⟨g, 0, none⟩) n n] ∧ Pure w4 w9, ⟨n, 0, _, rfl, by omega, rfl, by simp, fun x hx => absurd hx (by omega), hg8, hv8, p8⟩, ?_⟩
  rintro mm i2 w9 ⟨j, l, rfl, hj, rfl, hll, hlf, hg9, hv9, p9⟩
  refine ⟨fun hlt => ?_, fun hge => ?_⟩
  · have ho9 := (p9.row ho4 id).drew
    have ldo := ild ho9 (i := (j : Int)) (by omega) (by omega)
    simp only [Int.toNat_natCast] at ldo
    refine ⟨_, _, _, Row.cell hv9.drew (i := 0) rfl, ix_some (by omega) (by omega), _, ldo, ix_some (by omega) (by omega), bwr (Row.drew hg9) (by omega) (by omega), fun w10 e10 => ⟨in64 (by omega), n - (j + 1), by omega, j + 1, l.set j (decide (gi o j < (k : Int) + 1)), rfl, by omega, by omega, by simpa using hll, fun x hx => ?_, ?_, ?_, ?_⟩⟩
    · rw [gb_set (by omega)]
      split
      · rename_i hxe; rw [hxe]
      · exact hlf x (by omega)
    · rw [e10]; simpa using bst (Row.drew hg9) (j : Int) (decide (gi o j < (k : Int) + 1))
    · rw [e10]; exact Row.far_ hv9.drew (by omega) _ _
    · rw [e10, ixA_one]; exact p9.drew.setCell (fun h => absurd h (by simp; omega)) _
  · obtain rfl : j = n := by omega
    have hln : l = nearOf o ((k : Int) + 1) := gb_ext (by rw [hll]; simp [nearOf, hol]) (fun x hx => by rw [hlf x (by omega), gb_near (by omega)])
    subst hln
    refine ⟨fun mm t i4 w11 => ∃ x : Nat, mm = j - x ∧ x ≤ j ∧ i4 = (x : Int) ∧ t = timesL es o ((k : Int) + 1) d x ∧ 0 ≤ t ∧ Pure w9 w11, ⟨j, 0, rfl, by omega, rfl, rfl, by omega, Keeps.refl _ _⟩, ?_⟩
    rintro mm t i4 w11 ⟨x, rfl, hx, rfl, rfl, ht0, p11⟩
    have p411 := p9.trans p11
    have ho11 := p411.row ho4 id
    have hX11 := p411.row hX4 id
    have hd11 := p411.row hd4 id
    have hs11 := p411.row hs4 id
    have hes11 : Edges w11 A es := (hes3.keepL K4 (fun b off h h0 => by have := heg b off h h0; omega)).keep p411
    refine ⟨fun hlt => ?_, fun hge => ?_⟩
    · have ldo := ild ho11 (i := (x : Int)) (by omega) (by omega)
      have ldd := ild hd11 (i := (x : Int)) (by omega) (by omega)
      simp only [Int.toNat_natCast] at ldo ldd
      refine ⟨ix_some (by omega) (by omega), _, ldo, fun w' => w' = w11 ∧ gi o x = (k : Int) + 1 ∧ gi d x < 0, ?_, fun h1 => ⟨_, _, _, hX11.at_ 3 rfl, ix_some (by omega) (by omega), _, ldd, fun h2 => ⟨rfl, h1, h2⟩, fun h2 => ?_⟩, fun h1 => ?_⟩
      · rintro w12 ⟨hw12, h1, h2⟩
        have hw12 := hw12.symm
        subst hw12
        have hv11 := p11.row hv9 id
        have hg11 := p11.row hg9 id
        refine (joins_any X A es cap (x : Int) 115 #[.pointer (some ⟨g2, 0, none⟩)] (fun u => gb (nearOf o ((k : Int) + 1)) u.toNat) w11 (Row.cell hX11 (i := 1) rfl) hes11 hE12 (fun y hy => by have := hE y hy; omega) (by omega) (by omega) hel enter_115 (fun u W hW hm => ?_)).mono ?_
        · obtain ⟨mu, hmu⟩ := hm
          have hr1 := linksF_range hE hmu
          obtain ⟨un, rfl⟩ : ∃ un : Nat, u = (un : Int) := ⟨u.toNat, by omega⟩
          simp only [Int.toNat_natCast]
          exact lend1_any g2 g j j _ un W (hW.row hv11 id) (hW.row hg11 id) hll (by omega)
        · rintro _ w13 ⟨rfl, p13⟩
          have hX13 := p13.row hX11 id
          have hd13 := p13.row hd11 id
          have ldd13 := ild hd13 (i := (x : Int)) (by omega) (by omega)
          simp only [Int.toNat_natCast] at ldd13
          have hpos := near_pos hD hE1 (by omega : x < j) h1
          have hlkb : ∀ p ∈ linksF es (x : Int), 0 ≤ p.2 ∧ p.2 ≤ 50 := fun p hp => by
            have := linksF_range hE (v := (x : Int)) (u := p.1) (m := p.2) hp; omega
          have hjb := (addF_bound (p := fun u => gb (nearOf o ((k : Int) + 1)) u.toNat) (linksF es (x : Int)) hlkb).2
          have hll2 : (linksF es (x : Int)).length ≤ es.length := List.length_filterMap_le _ _
          have hbx := hbd x
          obtain ⟨J, hJ⟩ : ∃ J, J = joinsF es (x : Int) (fun u => gb (nearOf o ((k : Int) + 1)) u.toNat) := ⟨_, rfl⟩
          have hjb' : J ≤ 50000 := by rw [hJ]; unfold joinsF; omega
          have hstep : timesL es o ((k : Int) + 1) d (x + 1) = mxF (timesL es o ((k : Int) + 1) d x) ((-gi d x + J - 1).tdiv J) := by rw [timesL, if_pos ⟨h1, h2⟩, hJ]
          rw [← hJ] at hpos ⊢
          have hq0 : 0 ≤ -gi d x + J - 1 := by omega
          have hq1 : (-gi d x + J - 1).tdiv J = (-gi d x + J - 1) / J := Int.tdiv_eq_ediv_of_nonneg hq0
          have hq2 : 0 ≤ (-gi d x + J - 1) / J := Int.ediv_nonneg hq0 (by omega)
          have hq3 : (-gi d x + J - 1) / J ≤ -gi d x + J - 1 := Int.ediv_le_self _ hq0
          refine ⟨_, rfl, _, _, _, hX13.at_ 3 rfl, ix_some (by omega) (by omega), _, ldd13, in64 (by omega), in64 (by omega), in64 (by omega), by omega, by rw [hq1]; exact in64 (by omega), in64 (by omega), j - (x + 1), by omega, x + 1, rfl, by omega, by omega, hstep.symm, ?_, p11.trans p13⟩
          rw [mxF_eq]; omega
      · exact ⟨in64 (by omega), j - (x + 1), by omega, x + 1, rfl, by omega, by omega, by rw [timesL, if_neg (fun h => h2 h.2)], ht0, p11⟩
      · exact ⟨in64 (by omega), j - (x + 1), by omega, x + 1, rfl, by omega, by omega, by rw [timesL, if_neg (fun h => h1 h.1)], ht0, p11⟩
    · obtain rfl : x = j := by omega
      have K11 : Keeps (fun j => j = gd ∨ j = gs ∨ j = X) w3 w11 := Pure.after K4 p411
      refine ⟨fun hpos => ?_, fun hpos => ?_⟩
      · refine ⟨_, _, _, Row.cell (p11.row hv9 id) (i := 0) rfl, ?_⟩
        refine (fire_any X gd gs g x x A es cap cd cs q d s 0 _ (nearOf o ((k : Int) + 1)) w11 ⟨hX11, hd11, hs11, hne, hdl, hsl⟩ hes11 heg (p11.row hg9 id) hll hn hE hel ht0 ht1 (fun i => by have := hbd i; omega) hbs).mono ?_
        rintro _ w14 ⟨rfl, hS14, K14⟩
        exact ⟨rfl, in64 (by omega), k, by omega, k, _, _, _, rfl, by omega, by omega, hgy hpos, hS14, K11.trans K14⟩
      · exact ⟨in64 (by omega), k, by omega, k, d, s, 0, rfl, by omega, by omega, hgn hpos, ⟨hX11, hd11, hs11, hne, hdl, hsl⟩, K11⟩
end Go.Proofs.Ytnhmeckhlajeaaa
