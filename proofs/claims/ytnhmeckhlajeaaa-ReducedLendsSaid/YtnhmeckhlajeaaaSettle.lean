/- The contract of settle: unburnt sets fire until there are none. What fires well is a premise (Good), so that the numbers are plain Lean elsewhere. -/
import Derived.Test.YtnhmeckhlajeaaaFire2
namespace Go.Proofs.Ytnhmeckhlajeaaa
open Go Go.RowKit Go.Shelf
set_option linter.unusedVariables false
set_option maxRecDepth 100000
set_option maxHeartbeats 1000000

/-- How often the set may fire, by the vertices below k (0: none has an edge out). -/
def timesS (es : List E3) (left : List Bool) (d : List Int) : Nat → Int
  | 0 => 0
  | k + 1 => if gb left k = true ∧ 0 < joinsF es (k : Int) (fun u => !gb left u.toNat) then
      (if timesS es left d k = 0 ∨ (gi d k).tdiv (joinsF es (k : Int) (fun u => !gb left u.toNat)) < timesS es left d k then (gi d k).tdiv (joinsF es (k : Int) (fun u => !gb left u.toNat)) else timesS es left d k)
    else timesS es left d k
/-- A fire from q has burnt these. -/
structure Burns (n : Nat) (es : List E3) (q : Nat) (d : List Int) (burnt : List Bool) : Prop where
  len : burnt.length = n
  at_q : gb burnt q = true
  closed : Closed n es d burnt
  forced : Forced n es q d burnt
def leftOf (burnt : List Bool) : List Bool := burnt.map (!·)

theorem settle1_any (B g n c : Nat) (left : List Bool) (u : Nat) (w : World) (hB : Row w B 102 1 [.slice (some ⟨g, 0, none⟩) n c]) (hg : BRow w g 4 c left) (hl : left.length = n) (hu : u < n) :
    Calls Try.prog 116 #[.int .i64 (u : Int), .pointer (some ⟨B, 0, none⟩)] w fun e w' => e = .returned (.bool (!gb left u)) ∧ w = w' := by
  refine (ok_reduced_state_settle_1 (u : Int) ⟨B, 0, none⟩ w (fun r w' => r = (!gb left u) ∧ w = w') ?_).mono ?_
  · unfold sh_reduced_state_settle_1
    have := bld hg (i := (u : Int)) (by omega) (by omega)
    exact ⟨_, _, _, Row.cell hB (i := 0) rfl, ix_some (by omega) (by omega), gb left u, by simpa using this, rfl, rfl⟩
  · rintro e w' ⟨r, rfl, rfl, rfl⟩; exact ⟨rfl, rfl⟩

def SettlePost (Good : Nat → List Int → List Int → Int → Prop) (X gd gs n : Nat) (A : Option Addr) (es : List E3) (cap cd cs q : Nat) (w w' : World) : Prop :=
  ∃ m d s e, Good m d s e ∧ State w' X gd gs n A es cap cd cs q d s e ∧ (e ≠ 0 ∨ ∃ burnt, Burns n es q d burnt ∧ (leftOf burnt).any id = false) ∧ Keeps (fun j => j = gd ∨ j = gs ∨ j = X) w w'

theorem settle_any (Good : Nat → List Int → List Int → Int → Prop) (X gd gs n : Nat) (A : Option Addr) (es : List E3) (cap cd cs q : Nat) (m : Nat) (d s : List Int) (e : Int) (w : World) (hS : State w X gd gs n A es cap cd cs q d s e) (hes : Edges w A es)
    (heg : ∀ b off, A = some ⟨b, off, none⟩ → 0 < es.length → b ≠ gd ∧ b ≠ gs ∧ b ≠ X) (hq : q < n) (hn : n ≤ 12) (hE : ∀ x ∈ es, 0 ≤ x.1 ∧ x.1 < n ∧ 0 ≤ x.2.1 ∧ x.2.1 < n ∧ 0 ≤ x.2.2 ∧ x.2.2 ≤ 50) (hel : es.length ≤ 1000)
    (hG0 : Good m d s e)
    (hG : ∀ m d s e, Good m d s e → Bnd 2147483648 d ∧ Bnd 2147483648 s)
    (hG2 : ∀ m d s burnt, Good m d s 0 → d.length = n → s.length = n → Burns n es q d burnt → (leftOf burnt).any id = true →
      0 ≤ timesS es (leftOf burnt) d n ∧ timesS es (leftOf burnt) d n ≤ 2147483648 ∧ (∀ v, v < n → gb (leftOf burnt) v = true → 0 ≤ gi d v) ∧
      ∃ m', m' < m ∧ Good m' (fireD es (leftOf burnt) (timesS es (leftOf burnt) d n) d n) (fireS (leftOf burnt) (timesS es (leftOf burnt) d n) s n)
        (fireE (fireD es (leftOf burnt) (timesS es (leftOf burnt) d n) d n) (fireS (leftOf burnt) (timesS es (leftOf burnt) d n) s n) 0 n)) :
    Calls Try.prog 66 #[.pointer (some ⟨X, 0, none⟩)] w fun e' w' => e' = .returned (.tuple #[]) ∧ SettlePost Good X gd gs n A es cap cd cs q w w' := by
  refine ok_reduced_state_settle _ w (SettlePost Good X gd gs n A es cap cd cs q w) ?_
  unfold sh_reduced_state_settle
  have hE12 : Ends12 es := fun x hx => by have := hE x hx; omega
  refine ⟨fun m W => ∃ d s e, Good m d s e ∧ State W X gd gs n A es cap cd cs q d s e ∧ Keeps (fun j => j = gd ∨ j = gs ∨ j = X) w W, ⟨m, d, s, e, hG0, hS, Keeps.refl _ _⟩, ?_⟩
  clear hG0 hS
  rintro m w2 ⟨d, s, e, hg, hS2, K2⟩
  obtain ⟨hX2, hd2, hs2, hne, hdl, hsl⟩ := hS2
  refine ⟨e, hX2.at_ 5 rfl, fun he => ?_, fun he => ⟨m, d, s, e, hg, ⟨hX2, hd2, hs2, hne, hdl, hsl⟩, .inl he, K2⟩⟩
  subst he
  have hes2 : Edges w2 A es := hes.keepL K2 (fun b off h h0 => by have := heg b off h h0; omega)
  refine (unburnt_any X gd gs n A es cap cd cs q d s 0 w2 ⟨hX2, hd2, hs2, hne, hdl, hsl⟩ hes2 hq hn hE hel).mono ?_
  rintro _ w3 ⟨gl, left, rfl, hgl, hl3, hll, hp3, burnt, b1, b2, b3, b4, b5⟩
  have hb : Burns n es q d burnt := ⟨b1, b3, b4, b5⟩
  have hlo : left = leftOf burnt := b2
  refine ⟨_, _, _, _, rfl, fun g w4 hN => ⟨hN.row.wr_ 0 (by simp), fun w5 e5 => ?_⟩⟩
  have ag := hN.at_
  have sg := hN.size
  have s3 := hp3.size
  have s2 := K2.size
  have far5 : ∀ {k' : Nat} {e' : TypeId} {sz : Nat} {xs : List Value}, k' ≠ g → Row w4 k' e' sz xs → Row w5 k' e' sz xs := fun hne' hr => by
    rw [e5]; exact hr.far (by simpa using hne') _
  have hg5 : Row w5 g 102 1 [.slice (some ⟨gl, 0, none⟩) n n] := by rw [e5]; exact hN.row.set_ 0 _
  have lgl := Row.lt hl3
  have lX := hX2.lt
  have ld := Row.lt hd2
  have ls := Row.lt hs2
  have hl5 : BRow w5 gl 4 n left := far5 (by omega) (hN.row_ hl3)
  have p35 : Pure w2 w5 := by
    rw [e5]; exact (hp3.trans (hN.keeps _)).setCell (fun h => absurd h (by simp; omega)) _
  have hX5 := p35.row hX2 id
  have hd5 := p35.row hd2 id
  have hs5 := p35.row hs2 id
  have hes5 := hes2.keep p35
  have K5 := Pure.after K2 p35
  refine ⟨fun hany => ?_, fun hany => ?_⟩
  · rw [hlo] at hany
    obtain ⟨t0, t1, hd0, m', hm', hg'⟩ := hG2 m d s burnt hg hdl hsl hb hany
    rw [← hlo] at t0 t1 hd0 hg'
    obtain ⟨hbd, hbs⟩ := hG m d s 0 hg
    refine ⟨_, _, _, hg5.at_ 0 rfl, ?_⟩
    refine ⟨fun mm times i w6 => ∃ k : Nat, mm = n - k ∧ k ≤ n ∧ i = (k : Int) ∧ times = timesS es left d k ∧ Pure w5 w6, ⟨n, 0, rfl, Nat.zero_le _, rfl, rfl, Keeps.refl _ _⟩, ?_⟩
    rintro mm times i w6 ⟨k, rfl, hk, rfl, rfl, p6⟩
    have hl6 := p6.row hl5 id
    refine ⟨fun hlt => ?_, fun hge => ?_⟩
    · have hkn : k < n := by omega
      have ldk := bld hl6 (i := (k : Int)) (by omega) (by omega)
      simp only [Int.toNat_natCast] at ldk
      refine ⟨ix_some (by omega) (by omega), gb left k, ldk, fun hb1 => ?_, fun hb1 => ?_⟩
      · have hg6 := p6.row hg5 id
        have hX6 := p6.row hX5 id
        refine (joins_any X A es cap (k : Int) 116 #[.pointer (some ⟨g, 0, none⟩)] (fun u => !gb left u.toNat) w6 (Row.cell hX6 (i := 1) rfl) (hes5.keep p6) hE12 (fun x hx => by have := hE x hx; omega) (by omega) (by omega) hel enter_116 (fun u W hW hm => ?_)).mono ?_
        · obtain ⟨mu, hmu⟩ := hm
          have hr1 := linksF_range hE hmu
          obtain ⟨un, rfl⟩ : ∃ un : Nat, u = (un : Int) := ⟨u.toNat, by omega⟩
          simp only [Int.toNat_natCast]
          exact settle1_any g gl n n left un W (hW.row hg6 id) (hW.row hl6 id) hll (by omega)
        · rintro _ w7 ⟨rfl, p7⟩
          refine ⟨_, rfl, fun hpos => ?_, fun hpos => ?_⟩
          · have hX7 := p7.row hX6 id
            have hd7 := p7.row (p6.row hd5 id) id
            have ldd := ild hd7 (i := (k : Int)) (by omega) (by omega)
            simp only [Int.toNat_natCast] at ldd
            have h0 := hd0 k hkn hb1
            have hbk := hbd k
            have hq1 : (gi d k).tdiv (joinsF es (k : Int) (fun u => !gb left u.toNat)) = gi d k / joinsF es (k : Int) (fun u => !gb left u.toNat) := Int.tdiv_eq_ediv_of_nonneg h0
            have hq2 : 0 ≤ gi d k / joinsF es (k : Int) (fun u => !gb left u.toNat) := Int.ediv_nonneg h0 (by omega)
            have hq3 : gi d k / joinsF es (k : Int) (fun u => !gb left u.toNat) ≤ gi d k := Int.ediv_le_self _ h0
            have hstep : ∀ t, timesS es left d (k + 1) = t ↔ (if timesS es left d k = 0 ∨ (gi d k).tdiv (joinsF es (k : Int) (fun u => !gb left u.toNat)) < timesS es left d k then (gi d k).tdiv (joinsF es (k : Int) (fun u => !gb left u.toNat)) else timesS es left d k) = t := fun t => by rw [timesS, if_pos ⟨hb1, hpos⟩]
            refine ⟨_, _, _, hX7.at_ 3 rfl, ix_some (by omega) (by omega), _, ldd, by omega, by rw [hq1]; exact in64 (by omega), fun ht => ?_, fun ht => ⟨fun hlt2 => ?_, fun hlt2 => ?_⟩⟩
            · exact ⟨in64 (by omega), n - (k + 1), by omega, k + 1, rfl, by omega, by omega, ((hstep _).2 (if_pos (.inl ht))).symm, p6.trans p7⟩
            · exact ⟨in64 (by omega), n - (k + 1), by omega, k + 1, rfl, by omega, by omega, ((hstep _).2 (if_pos (.inr hlt2))).symm, p6.trans p7⟩
            · exact ⟨in64 (by omega), n - (k + 1), by omega, k + 1, rfl, by omega, by omega, ((hstep _).2 (if_neg (fun h => h.elim ht hlt2))).symm, p6.trans p7⟩
          · exact ⟨in64 (by omega), n - (k + 1), by omega, k + 1, rfl, by omega, by omega, by rw [timesS, if_neg (fun h => hpos h.2)], p6.trans p7⟩
      · exact ⟨in64 (by omega), n - (k + 1), by omega, k + 1, rfl, by omega, by omega, by rw [timesS, if_neg (fun h => hb1 h.1)], p6⟩
    · obtain rfl : k = n := by omega
      have K6 := Pure.after K5 p6
      have s5 : w5.heap.size = w4.heap.size := by rw [e5]; simp [World.setCell]
      refine ⟨_, _, _, (p6.row hg5 id).at_ 0 rfl, ?_⟩
      refine (fire_any X gd gs gl k k A es cap cd cs q d s 0 _ left w6 ⟨p6.row hX5 id, p6.row hd5 id, p6.row hs5 id, hne, hdl, hsl⟩ (hes5.keep p6) heg hl6 hll hn hE hel t0 t1 hbd hbs).mono ?_
      rintro _ w8 ⟨rfl, hS8, K8⟩
      exact ⟨rfl, m', hm', _, _, _, hg', hS8, K6.trans K8⟩
  · exact ⟨m, d, s, 0, hg, ⟨hX5, hd5, hs5, hne, hdl, hsl⟩, .inr ⟨burnt, hb, by rw [← hlo]; simpa using hany⟩, K5⟩
end Go.Proofs.Ytnhmeckhlajeaaa
