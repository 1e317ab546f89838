/- The package's own functions: Reduce, Lend. -/
import Derived.Test.YtnhmeckhlajeaaaCon
import Derived.Test.YtnhmeckhlajeaaaRed
import Derived.Test.YtnhmeckhlajeaaaBegin
import Derived.Test.YtnhmeckhlajeaaaBurn
import Derived.Test.YtnhmeckhlajeaaaSb
namespace Go.Proofs.Ytnhmeckhlajeaaa
open Go
set_option linter.unusedVariables false
set_option linter.unusedSectionVars false

theorem checkF_ok {d : List Int} {n : Nat} (h : checkF d n = 0) : d.length = n ∧ 1 ≤ n ∧ n ≤ 12 ∧ ∀ j, j < n → -1048576 ≤ gi d j ∧ gi d j ≤ 1048576 := by
  unfold checkF vertsF at h
  by_cases c : 1 ≤ (n : Int) ∧ (n : Int) ≤ 12
  · rw [if_pos c, if_pos rfl] at h
    by_cases c2 : (d.length : Int) = n
    · rw [if_pos c2] at h
      by_cases c3 : d.all inF = true
      · refine ⟨by omega, by omega, by omega, fun j hj => ?_⟩
        have := (all_iff_gi inF d).1 c3 j (by omega)
        simpa [inF] using this
      · rw [if_neg c3] at h; omega
    · rw [if_neg c2] at h; omega
  · rw [if_neg c, if_neg (by omega)] at h; omega
theorem checkF_of {d : List Int} {n : Nat} (hl : d.length = n) (h1 : 1 ≤ n) (h12 : n ≤ 12) (h : ∀ j, j < n → -1048576 ≤ gi d j ∧ gi d j ≤ 1048576) : checkF d n = 0 := by
  unfold checkF vertsF
  rw [if_pos (show 1 ≤ (n : Int) ∧ (n : Int) ≤ 12 by omega), if_pos rfl, if_pos (show (d.length : Int) = n by omega), if_pos]
  rw [all_iff_gi]
  intro j hj
  have := h j (by omega)
  simpa [inF] using this
theorem givenF_ok {n : Int} {es : List E3} {q : Int} {d : List Int} (h : givenF n es q d = 0) : gcheckF n es = 0 ∧ connF n es = true ∧ 0 ≤ q ∧ q < n ∧ checkF d n = 0 := by
  unfold givenF at h
  split at h
  · rename_i c1
    split at h
    · rename_i c2
      split at h
      · rename_i c3; exact ⟨c1, c2, c3.1, c3.2, h⟩
      · omega
    · omega
  · exact absurd h (by assumption)

/-- A result that a script leads to. -/
structure Leads (n : Nat) (es : List E3) (q : Nat) (d d' s' : List Int) : Prop where
  dl : d'.length = n
  sl : s'.length = n
  lp : ∀ v, v < n → gi d' v = gi d v - Lp n es (gi s') v
  sq : gi s' q = 0
  pos : ∀ v, v < n → v ≠ q → 0 ≤ gi d' v
  bd : ∀ v, v < n → -600000 ≤ gi d' v ∧ gi d' v ≤ 600000
  bs : ∀ v, v < n → -600000 ≤ gi s' v ∧ gi s' v ≤ 600000
structure Lends (n : Nat) (es : List E3) (q : Nat) (d d' s' : List Int) : Prop extends Leads n es q d d' s' where
  same : (∀ v, v < n → v ≠ q → 0 ≤ gi d v) → d' = d
structure Reduces (n : Nat) (es : List E3) (q : Nat) (d d' s' : List Int) : Prop extends Leads n es q d d' s' where
  red : Red n es q d'

theorem Lp_norm {n : Nat} {es : List E3} {s : List Int} {q : Nat} (hs : s.length = n) {v : Nat} (hv : v < n) : Lp n es (gi (normS s q)) v = Lp n es (gi s) v := by
  rw [Lp_congr (b := fun i => gi s i + (- gi s q)) (fun i hi => by show gi (normS s q) i = gi s i + - gi s q; rw [gi_norm (by omega)]; omega) hv, Lp_add, Lp_const]; omega
theorem normS_length (s : List Int) (q : Nat) : (normS s q).length = s.length := by simp [normS]

/-- What the package's functions with a script answer. -/
def OutPost (P : Nat → Nat → List Int → List Int → Prop) (n : Int) (es : List E3) (q : Int) (d : List Int) (w : World) (A1 : Option Addr) (l1 c1 : Nat) (A2 : Option Addr) (l2 c2 : Nat) (er : Int) (w' : World) : Prop :=
  Pure w w' ∧ er = givenF n es q d ∧ (er ≠ 0 → ResNil A1 l1 c1 A2 l2 c2) ∧ (er = 0 → ∃ gd gs cd cs d' s', P n.toNat q.toNat d' s' ∧ ResOk gd gs n.toNat cd cs d' s' A1 l1 c1 A2 l2 c2 w' ∧ w.heap.size ≤ gd ∧ w.heap.size ≤ gs ∧ gd ≠ gs ∧ cd ≤ maxLen ∧ cs ≤ maxLen)

/-- The bounds of a statement: few vertices, few edges, few chips. -/
structure Small (n : Int) (es : List E3) (d : List Int) : Prop where
  el : es.length ≤ 40
  g : gcheckF n es = 0 → n ≤ 6 ∧ (es.map (·.2.2)).sum ≤ 9
  d : checkF d n = 0 → ∀ v : Nat, (v : Int) < n → -200 ≤ gi d v ∧ gi d v ≤ 200

theorem GS.leads {n : Nat} {es : List E3} {q : Nat} {d0 : List Int} (hE : EOk n es) (hn : n ≤ 6) (hq : q < n) (hC : Conn n es q) (hd0 : ∀ v, v < n → -200 ≤ gi d0 v ∧ gi d0 v ≤ 200) {m : Nat} {d s : List Int} {e : Int} (h : GS n es q 200 d0 m d s e) :
    Leads n es q d0 d (normS s q) := by
  obtain ⟨-, h0, -⟩ := h
  obtain ⟨b1, b2, b3⟩ := h0.bnd hE hn hq (by omega) (by omega) hC hd0
  have hsq := h0.sq
  refine ⟨h0.dl, by rw [normS_length, h0.sl], fun v hv => by rw [Lp_norm h0.sl hv]; exact h0.lp v hv, by rw [gi_norm (by rw [h0.sl]; exact hq)]; omega, h0.pos, fun v hv => ?_, fun v hv => ?_⟩
  · have := b2 v hv; omega
  · have := b1 v hv; have := h0.s0 v hv; rw [gi_norm (by rw [h0.sl]; exact hv)]; omega

section
variable {n : Nat} {es : List E3} {q : Nat} {d0 : List Int} (hE : EOk n es) (hn : n ≤ 6) (hn1 : 1 ≤ n) (hq : q < n) (hC : Conn n es q) (hsum : (es.map (·.2.2)).sum ≤ 9) (hel : es.length ≤ 40) (hd0 : ∀ v, v < n → -200 ≤ gi d0 v ∧ gi d0 v ≤ 200) (hdl : d0.length = n)
include hE hn hn1 hq hC hsum hel hd0 hdl
/-- Lending from the begun state. -/
theorem lend_state (X gd gs : Nat) (A : Option Addr) (cap cd cs : Nat) (w : World) (hS : State w X gd gs n A es cap cd cs q d0 (List.replicate n 0) 0) (hes : Edges w A es) (heg : ∀ b off, A = some ⟨b, off, none⟩ → 0 < es.length → b ≠ gd ∧ b ≠ gs ∧ b ≠ X) :
    Calls Try.prog 65 #[.pointer (some ⟨X, 0, none⟩)] w fun e' w' => e' = .returned (.tuple #[]) ∧
      ∃ m d s, GS n es q 200 d0 m d s 0 ∧ ((∀ v, v < n → v ≠ q → 0 ≤ gi d0 v) → d = d0) ∧ State w' X gd gs n A es cap cd cs q d s 0 ∧ Keeps (fun j => j = gd ∨ j = gs ∨ j = X) w w' := by
  have hc : ∀ o, Dist n es q o → ∀ v, v < n → 0 ≤ gi o v := fun o hD => dist_pos hE hn1 (by omega) hC hD
  have ht : tot n es ≤ 18 := by have := tot_le hE hn1 (by omega); omega
  refine (lend_any (fun o k d s e => GL n es q 200 d0 o k d s e) X gd gs n A es cap cd cs q d0 (List.replicate n 0) 0 w hS hes heg hq (by omega) hE.range (fun x hx => (hE x hx).2.2.2.2.1) (by omega)
    (fun o hD => GL.start hE hn hq ht (by omega) (by omega) hc hd0 hdl o hD)
    (fun o k d s e h => ?_) (fun o k d s hD h hl hl2 => GL.step hE hn hq ht (by omega) (by omega) hc hd0 hdl hD h)).mono ?_
  · have := GL.bnd hE hn hq ht (by omega) (by omega) hc hd0 hdl h
    exact ⟨fun i => by have := this.1 i; omega, fun i => by have := this.2 i; omega⟩
  · rintro _ w1 ⟨rfl, o, k, d, s, e, hD, hg, hS1, hk, K⟩
    have he := hg.e0
    subst he
    have hk0 : k = 0 := by rcases hk with h | h
                           · exact h
                           · exact absurd rfl h
    subst hk0
    exact ⟨rfl, _, d, s, hg.settle hE hn hq (by omega) (by omega) hC hd0 hD (hc o hD) ht, fun h => (hg.same h).1, hS1, K⟩
/-- Settling from the state that lending ends with. -/
theorem settle_state (X gd gs : Nat) (A : Option Addr) (cap cd cs : Nat) (m : Nat) (d s : List Int) (w : World) (hG : GS n es q 200 d0 m d s 0) (hS : State w X gd gs n A es cap cd cs q d s 0) (hes : Edges w A es) (heg : ∀ b off, A = some ⟨b, off, none⟩ → 0 < es.length → b ≠ gd ∧ b ≠ gs ∧ b ≠ X) :
    Calls Try.prog 66 #[.pointer (some ⟨X, 0, none⟩)] w fun e' w' => e' = .returned (.tuple #[]) ∧
      ∃ m d s, GS n es q 200 d0 m d s 0 ∧ Red n es q d ∧ State w' X gd gs n A es cap cd cs q d s 0 ∧ Keeps (fun j => j = gd ∨ j = gs ∨ j = X) w w' := by
  refine (settle_any (fun m d s e => GS n es q 200 d0 m d s e) X gd gs n A es cap cd cs q m d s 0 w hS hes heg hq (by omega) hE.range (by omega) hG (fun m d s e h => ?_)
    (fun m d s burnt h hl hl2 hB hany => GS.step hE hn hq (by omega) (by omega) hC hd0 h hB hany)).mono ?_
  · have := GS.bnd hE hn hq (by omega) (by omega) hC hd0 h
    exact ⟨fun i => by have := this.1 i; omega, fun i => by have := this.2 i; omega⟩
  · rintro _ w1 ⟨rfl, m, d, s, e, hg, hS1, hb, K⟩
    have he := hg.1
    subst he
    rcases hb with h | ⟨burnt, hB, hany⟩
    · exact absurd rfl h
    · exact ⟨rfl, m, d, s, hg, hg.2.1.red hE hn hq (by omega) (by omega) hC hd0 hB hany, hS1, K⟩
/-- The result of a good state. -/
theorem result_state (X gd gs : Nat) (A : Option Addr) (cap cd cs : Nat) (m : Nat) (d s : List Int) (w : World) (hG : GS n es q 200 d0 m d s 0) (hS : State w X gd gs n A es cap cd cs q d s 0) :
    Calls Try.prog 67 #[.pointer (some ⟨X, 0, none⟩)] w fun e' w' => ∃ A1 l1 c1 A2 l2 c2, e' = .returned (.tuple #[.slice A1 l1 c1, .slice A2 l2 c2, .int .i64 0]) ∧
      Keeps (fun j => j = gs) w w' ∧ ResOk gd gs n cd cs d (normS s q) A1 l1 c1 A2 l2 c2 w' ∧ Leads n es q d0 d (normS s q) := by
  have hL := hG.leads hE hn hq hC hd0
  have hb := GS.bnd hE hn hq (by omega) (by omega) hC hd0 hG
  refine (result_any X gd gs n A es cap cd cs q d s 0 w hS hq (by omega) (fun _ i => by have := hb.2 i; omega)).mono ?_
  rintro _ w1 ⟨A1, l1, c1, A2, l2, c2, er, rfl, K, h⟩
  have k1 : checkF d n = 0 := checkF_of hL.dl hn1 (by omega) (fun j hj => by have := hL.bd j hj; omega)
  have k2 : checkF (normS s q) n = 0 := checkF_of hL.sl hn1 (by omega) (fun j hj => by have := hL.bs j hj; omega)
  rcases h with h | h | h
  · exact absurd rfl h.1
  · rcases h.2.1 with h | h
    · exact absurd k1 h
    · exact absurd k2 h
  · obtain ⟨-, -, -, rfl, hr⟩ := h
    exact ⟨A1, l1, c1, A2, l2, c2, rfl, K, hr, hL⟩
end

theorem reduce_any (A D : Option Addr) (es : List E3) (d : List Int) (cap cd : Nat) (n q : Int) (w : World) (he : Edges w A es) (hd : Ints w D d) (hdl : d.length ≤ 1000000000) (hsm : Small n es d) :
    Calls Try.prog 17 #[.agg #[.int .i64 n, .slice A es.length cap], .int .i64 q, .slice D d.length cd] w fun e w' => ∃ A1 l1 c1 A2 l2 c2 er, e = .returned (.tuple #[.slice A1 l1 c1, .slice A2 l2 c2, .int .i64 er]) ∧
      OutPost (fun n q d' s' => Reduces n es q d d' s') n es q d w A1 l1 c1 A2 l2 c2 er w' := by
  refine ok_reduced_Reduce n A es.length cap q D d.length cd w (OutPost (fun n q d' s' => Reduces n es q d d' s') n es q d w) ?_
  unfold sh_reduced_Reduce
  intro g2 w2 hN
  have pN : Pure w w2 := hN.keeps _
  refine (given_any A D es d cap cd n q w2 (he.keep pN) (by have := hsm.el; omega) (hd.keep pN) hdl).mono ?_
  rintro _ w3 ⟨rfl, p3⟩
  have p03 := pN.trans p3
  refine ⟨_, rfl, p3.kp (by simp), fun h0 => ?_, fun h0 => ⟨p03, rfl, fun _ => ⟨rfl, rfl, rfl, rfl, rfl, rfl⟩, fun h => absurd h h0⟩⟩
  obtain ⟨k1, k2, k3, k4, k5⟩ := givenF_ok h0
  have hs6 := hsm.g k1
  obtain ⟨n, rfl⟩ : ∃ n' : Nat, n = (n' : Int) := ⟨n.toNat, by omega⟩
  obtain ⟨q, rfl⟩ : ∃ q' : Nat, q = (q' : Int) := ⟨q.toNat, by omega⟩
  obtain ⟨hE, hn1, hn12⟩ := gcheck_ok k1
  obtain ⟨hdn, -, -, -⟩ := checkF_ok k5
  have hC : Conn n es q := (conn_iff hE hn1 hn12 (by omega)).1 k2
  have hd0 : ∀ v, v < n → -200 ≤ gi d v ∧ gi d v ≤ 200 := fun v hv => hsm.d k5 v (by omega)
  have hes3 := he.keep p03
  refine (begin_any A D es d cap cd n q w3 (hd.keep p03) hdn hn1 hn12).mono ?_
  rintro _ w4 ⟨X, gd, gs, cd', rfl, hX, hgd, hgs, hS, p4, hcm⟩
  have sz := hN.size
  have ag := hN.at_
  have s3 := p3.size
  refine ⟨_, rfl, p4.kp (by simp), ?_⟩
  have heg : ∀ b off, A = some ⟨b, off, none⟩ → 0 < es.length → b ≠ gd ∧ b ≠ gs ∧ b ≠ X := fun b off hA h0 => by
    obtain ⟨b', off', hA', hb, -⟩ := hes3 h0
    rw [hA] at hA'; cases hA'; omega
  have hes4 := hes3.keep p4
  have ks : ∀ {S : Nat → Prop} {a b : World}, Keeps S a b → (∀ k, S k → w3.heap.size ≤ k) → Kp a b g2 := fun K hS => K.kp (fun h => by have := hS _ h; omega)
  have hfr : ∀ k, (k = gd ∨ k = gs ∨ k = X) → w3.heap.size ≤ k := fun k hk => by rcases hk with rfl | rfl | rfl <;> omega
  refine (lend_state hE (by omega) hn1 (by omega) hC hs6.2 hsm.el hd0 hdn X gd gs A cap cd' n w4 hS hes4 heg).mono ?_
  rintro _ w5 ⟨rfl, m, d5, s5, hG5, -, hS5, K5⟩
  refine ⟨rfl, ks K5 hfr, ?_⟩
  have hes5 := hes4.keepL K5 (fun b off h h0 => by have := heg b off h h0; omega)
  refine (settle_state hE (by omega) hn1 (by omega) hC hs6.2 hsm.el hd0 hdn X gd gs A cap cd' n m d5 s5 w5 hG5 hS5 hes5 heg).mono ?_
  rintro _ w6 ⟨rfl, m6, d6, s6, hG6, hR6, hS6, K6⟩
  refine ⟨rfl, ks K6 hfr, ?_⟩
  refine (result_state hE (by omega) hn1 (by omega) hC hs6.2 hsm.el hd0 hdn X gd gs A cap cd' n m6 d6 s6 w6 hG6 hS6).mono ?_
  rintro _ w7 ⟨A1, l1, c1, A2, l2, c2, rfl, K7, hr, hL⟩
  refine ⟨_, _, _, _, _, _, _, rfl, ks K7 (fun k hk => by rw [hk]; omega), ?_⟩
  have pf : ∀ {S : Nat → Prop} {a b c : World}, Pure a b → Keeps S b c → (∀ k, S k → a.heap.size ≤ k) → Pure a c := fun p K h => (p.mono (fun _ _ => False.elim)).then K (fun k hk hs => by have := h k hs; omega)
  have sw := p03.size
  have hfr0 : ∀ k, (k = gd ∨ k = gs ∨ k = X) → w.heap.size ≤ k := fun k hk => by have := hfr k hk; omega
  refine ⟨pf (pf (pf (p03.trans p4) K5 hfr0) K6 hfr0) K7 (fun k hk => by rw [hk]; omega), h0.symm, fun h => absurd rfl h, fun _ => ⟨gd, gs, cd', n, d6, normS s6 q, ⟨?_, hR6⟩, ?_, by omega, by omega, hS.2.2.2.1, hcm, by unfold maxLen; omega⟩⟩
  · simpa using hL
  · simpa using hr

theorem lendp_any (A D : Option Addr) (es : List E3) (d : List Int) (cap cd : Nat) (n q : Int) (w : World) (he : Edges w A es) (hd : Ints w D d) (hdl : d.length ≤ 1000000000) (hsm : Small n es d) :
    Calls Try.prog 23 #[.agg #[.int .i64 n, .slice A es.length cap], .int .i64 q, .slice D d.length cd] w fun e w' => ∃ A1 l1 c1 A2 l2 c2 er, e = .returned (.tuple #[.slice A1 l1 c1, .slice A2 l2 c2, .int .i64 er]) ∧
      OutPost (fun n q d' s' => Lends n es q d d' s') n es q d w A1 l1 c1 A2 l2 c2 er w' := by
  refine ok_reduced_Lend n A es.length cap q D d.length cd w (OutPost (fun n q d' s' => Lends n es q d d' s') n es q d w) ?_
  unfold sh_reduced_Lend
  intro g2 w2 hN
  have pN : Pure w w2 := hN.keeps _
  refine (given_any A D es d cap cd n q w2 (he.keep pN) (by have := hsm.el; omega) (hd.keep pN) hdl).mono ?_
  rintro _ w3 ⟨rfl, p3⟩
  have p03 := pN.trans p3
  refine ⟨_, rfl, p3.kp (by simp), fun h0 => ?_, fun h0 => ⟨p03, rfl, fun _ => ⟨rfl, rfl, rfl, rfl, rfl, rfl⟩, fun h => absurd h h0⟩⟩
  obtain ⟨k1, k2, k3, k4, k5⟩ := givenF_ok h0
  have hs6 := hsm.g k1
  obtain ⟨n, rfl⟩ : ∃ n' : Nat, n = (n' : Int) := ⟨n.toNat, by omega⟩
  obtain ⟨q, rfl⟩ : ∃ q' : Nat, q = (q' : Int) := ⟨q.toNat, by omega⟩
  obtain ⟨hE, hn1, hn12⟩ := gcheck_ok k1
  obtain ⟨hdn, -, -, -⟩ := checkF_ok k5
  have hC : Conn n es q := (conn_iff hE hn1 hn12 (by omega)).1 k2
  have hd0 : ∀ v, v < n → -200 ≤ gi d v ∧ gi d v ≤ 200 := fun v hv => hsm.d k5 v (by omega)
  have hes3 := he.keep p03
  refine (begin_any A D es d cap cd n q w3 (hd.keep p03) hdn hn1 hn12).mono ?_
  rintro _ w4 ⟨X, gd, gs, cd', rfl, hX, hgd, hgs, hS, p4, hcm⟩
  have sz := hN.size
  have ag := hN.at_
  have s3 := p3.size
  refine ⟨_, rfl, p4.kp (by simp), ?_⟩
  have heg : ∀ b off, A = some ⟨b, off, none⟩ → 0 < es.length → b ≠ gd ∧ b ≠ gs ∧ b ≠ X := fun b off hA h0 => by
    obtain ⟨b', off', hA', hb, -⟩ := hes3 h0
    rw [hA] at hA'; cases hA'; omega
  have hes4 := hes3.keep p4
  have ks : ∀ {S : Nat → Prop} {a b : World}, Keeps S a b → (∀ k, S k → w3.heap.size ≤ k) → Kp a b g2 := fun K hS => K.kp (fun h => by have := hS _ h; omega)
  have hfr : ∀ k, (k = gd ∨ k = gs ∨ k = X) → w3.heap.size ≤ k := fun k hk => by rcases hk with rfl | rfl | rfl <;> omega
  refine (lend_state hE (by omega) hn1 (by omega) hC hs6.2 hsm.el hd0 hdn X gd gs A cap cd' n w4 hS hes4 heg).mono ?_
  rintro _ w5 ⟨rfl, m, d5, s5, hG5, hsame, hS5, K5⟩
  refine ⟨rfl, ks K5 hfr, ?_⟩
  refine (result_state hE (by omega) hn1 (by omega) hC hs6.2 hsm.el hd0 hdn X gd gs A cap cd' n m d5 s5 w5 hG5 hS5).mono ?_
  rintro _ w7 ⟨A1, l1, c1, A2, l2, c2, rfl, K7, hr, hL⟩
  refine ⟨_, _, _, _, _, _, _, rfl, ks K7 (fun k hk => by rw [hk]; omega), ?_⟩
  have pf : ∀ {S : Nat → Prop} {a b c : World}, Pure a b → Keeps S b c → (∀ k, S k → a.heap.size ≤ k) → Pure a c := fun p K h => (p.mono (fun _ _ => False.elim)).then K (fun k hk hs => by have := h k hs; omega)
  have sw := p03.size
  have hfr0 : ∀ k, (k = gd ∨ k = gs ∨ k = X) → w.heap.size ≤ k := fun k hk => by have := hfr k hk; omega
  refine ⟨pf (pf (p03.trans p4) K5 hfr0) K7 (fun k hk => by rw [hk]; omega), h0.symm, fun h => absurd rfl h, fun _ => ⟨gd, gs, cd', n, d5, normS s5 q, ⟨?_, ?_⟩, ?_, by omega, by omega, hS.2.2.2.1, hcm, by unfold maxLen; omega⟩⟩
  · simpa using hL
  · simpa using hsame
  · simpa using hr
end Go.Proofs.Ytnhmeckhlajeaaa
