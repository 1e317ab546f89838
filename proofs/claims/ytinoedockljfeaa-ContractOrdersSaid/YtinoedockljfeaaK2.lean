/- Texts laid together: Dr, Men, Cpk, Cut, Kt, Ret, Chips, Graph, Slices, Forest, Links, Joins, Begin, Burn, Use, Sb, Sc, Rep, Bfs, Dist, Fire2, Settle, Lend, Sum, Result, Math, GoodL, GoodS, GoodT, Connect, Parts, Conn2, Con, Red, Reduce, Unb, Awake, Rm, RedIn, Wr, Tab, Ot, Arr, Cnt, Opn, Opn2, Alt. -/
import Derived.Test.YtinoedockljfeaaProg
import Derived.ChangeAlike
import Derived.Handy
import Derived.Deep.QuietTactic
import Derived.BigQuiet
import Derived.Deep.RegionHeld3
import Derived.Laws.OwnMore
import Derived.Deep.Draws
import Derived.RangeFuncNested
import Derived.RangeFuncBound
import Derived.RangeFuncCalls
import Derived.RangeFuncLeaves
import Derived.RangeFuncFrom
import Derived.Shelf.Abstract
import Derived.Shelf.RegionOpen
import Derived.OwnWalkIn
import Derived.TacticsInMore
import Derived.LoopNIn
import Derived.LoopIn
import Derived.Deep.RegionWith
import Derived.Deep.LoopGhost
import Derived.Maps.Own
import Derived.Maps.OwnOps
import Derived.Deep.AppendLies
import Derived.Deep.RegionLaw
import Derived.Test.YtinoedockljfeaaRows
import Derived.ProofKit
import Derived.Lib.SmallJoins
import Derived.Deep.Slices
import Derived.Below
import Derived.OpenShut
import Derived.Test.YtinoedockljfeaaK1
/- A drawn region in which two operations, each with effects, stand in an order that is open: both orders are walked. -/
namespace Go.Proofs.Ytinoedockljfeaa
open Go Go.Proofs.Try
set_option linter.unusedVariables false
set_option linter.unusedSimpArgs false
section
variable {P : Program} {ops : Array Oper} {Q : Act → World → Prop} {F : Fence} {n : Nat} {Q' : Exit → Act → World → Prop}
theorem ye3 {st : Nat → List Nat} (hF : ∀ f, F.fn f) (hD : F.depth = none) (hC : ∀ f args w R, Calls P f args w R → CallsIn F (n - 1) P f args w R) (hRd : ∀ l f tmps assign body w R, RoundIn Fence.wide 0 P l f tmps assign body w R → RoundIn F (n - 1) P l f tmps assign body w R)
    {i : Nat} {R : List Nat} {pend : List (Nat × Sem Next × Value)} {a : Act} {w : World} {K : Act → World → Prop} (h1 : seqS P ops st Q (i :: R) pend a w) (hrec : ∀ pend a w, seqS P ops st Q R pend a w → K a w) : wpOpIn F n P ops Q' i K a w := by
  unfold wpOpIn
  cases hoi : ops[i]? with
  | none => simp only [seqS, hoi] at h1; exact hrec _ _ _ h1
  | some oi =>
    simp only [seqS, hoi] at h1 ⊢
    split
    · rename_i c
      rw [if_pos c] at h1
      split at h1
      · rename_i q
        obtain ⟨v, hv, h1⟩ := h1
        refine ⟨fun f _ => hF f, ?_⟩
        rw [Oper.semAt_eq _ _ _ (yax.defer q), hv]
        exact hrec _ _ _ h1
      · obtain ⟨hn, h1⟩ := h1
        refine ⟨fun f _ => hF f, ?_⟩
        rw [Oper.semAt_eq _ _ _ (ya6.defer hn)]
        unfold ya3 at h1
        split at h1
        · rename_i v w' hr
          rw [hr]
          exact hrec _ _ _ h1.2
        · rename_i w' hr
          rw [hr]
          exact hrec _ _ _ h1.2
        · rename_i f args w' hr
          rw [hr]
          refine ⟨fun hd => (by rw [hD] at hd; cases hd), (hC _ _ _ _ h1).mono ?_⟩
          rintro e w'' ⟨v, rfl, hh⟩
          exact hrec _ _ _ hh.2
        · rename_i l f tmps assign body w' hr
          rw [hr]
          refine ⟨fun hd => (by rw [hD] at hd; cases hd), (hRd _ _ _ _ _ _ _ h1).mono ?_⟩
          rintro e w'' ⟨v, rfl, hh⟩
          exact hrec _ _ _ hh.2
        · exact h1.elim
    · rename_i c
      rw [if_neg c] at h1
      exact ⟨fun f _ => hF f, hrec _ _ _ h1⟩
theorem ydF {R1 R2 : List Nat} {i : Nat} {listed : Array Bool} (hil : i < listed.size) (hl : ∀ k, k ∈ R1 ++ i :: R2 ↔ listed.getD k true = false) (hni : i ∉ R1 ++ R2) : ∀ k, k ∈ R1 ++ R2 ↔ (listed.setIfInBounds i true).getD k true = false := by
  intro k
  by_cases hki : i = k
  · subst hki
    constructor
    · intro h; exact absurd h hni
    · intro h; simp [hil] at h
  · rw [getD_set_ne true hki, ← hl k]
    simp only [List.mem_append, List.mem_cons]
    constructor
    · rintro (h | h)
      · exact .inl h
      · exact .inr (.inr h)
    · rintro (h | h | h)
      · exact .inl h
      · exact absurd h.symm hki
      · exact .inr h
theorem set_down {i : Nat} {oi : Oper} {listed : Array Bool} (hil : i < listed.size) (hoi : ops[i]? = some oi) (hall : ∀ e ∈ oi.after, Region.binds .any e = true → listed.getD e.on true = true) (hdw : ycJ ops listed) : ycJ ops (listed.setIfInBounds i true) := by
  intro j oj hj hlj e he hb
  have hmono : ∀ x : Nat, listed.getD x true = true → (listed.setIfInBounds i true).getD x true = true := by
    intro x hx
    by_cases hki : i = x
    · subst hki; simp [hil]
    · rw [getD_set_ne true hki]; exact hx
  by_cases hji : i = j
  · subst hji
    rw [hoi] at hj
    cases hj
    exact hmono _ (hall e he hb)
  · rw [getD_set_ne true hji] at hlj
    exact hmono _ (hdw j oj hj hlj e he hb)
theorem ydD {st : Nat → List Nat} {i : Nat} {oi : Oper} {listed : Array Bool} {R1 R2 : List Nat} (hoi : ops[i]? = some oi) (hl : ∀ k, k ∈ R1 ++ i :: R2 ↔ listed.getD k true = false) (hs : listed.size = ops.size) (hdw : ycJ ops listed) (hall : ∀ e ∈ oi.after, Region.binds .any e = true → listed.getD e.on true = true)
    (hlt1 : ∀ r ∈ R1, ybu ops st r i = true) {pend : List (Nat × Sem Next × Value)} {a : Act} {w : World} (h : seqS P ops st Q (R1 ++ i :: R2) pend a w) : seqS P ops st Q (i :: (R1 ++ R2)) pend a w :=
  yd9 hoi R1 R2 (fun r hr => by
    have hr0 := (hl r).1 (by simp [hr])
    have hrs : r < ops.size := by
      rcases Nat.lt_or_ge r listed.size with h | h
      · omega
      · simp [Array.getD_eq_getD_getElem?, Array.getElem?_eq_none h] at hr0
    have hd0 : dep ops ops.size r i = false := by
      cases hq : dep ops ops.size r i with
      | false => rfl
      | true =>
        have := ybQ hdw ops.size r i oi hoi hall hq
        rw [this] at hr0; cases hr0
    obtain ⟨a1, a2, a3⟩ := ybu.two (hlt1 r hr) (by simp [hrs] : ops[r]? = some ops[r]) hoi hd0
    exact ⟨ops[r], by simp [hrs], a1, a2, a3⟩) pend a w h
theorem seqS_two {st1 st2 : Nat → List Nat} {p q : Nat} {S0 : Nat → Prop} (hF : ∀ f, F.fn f) (hD : F.depth = none) (hC : ∀ f args w R, Calls P f args w R → CallsIn F (n - 1) P f args w R) (hRd : ∀ l f tmps assign body w R, RoundIn Fence.wide 0 P l f tmps assign body w R → RoundIn F (n - 1) P l f tmps assign body w R) (hQ : ∀ a w, Q a w → Q' .normal a w)
    (hO : ∀ j oj, ops[j]? = some oj → ∀ e ∈ oj.after, Region.binds .any e = true → e.on < ops.size ∧ e.on ≠ j) (hpq : p ≠ q) (hWp : ∀ o, ops[p]? = some o → ∀ e ∈ o.after, Region.binds .any e = true → e.on ≠ q ∧ dep ops ops.size q e.on ≠ true) (hN : ∀ r o, ops[r]? = some o → r ≠ p → r ≠ q → yax o.op = true ∨ dep ops ops.size p r = true ∨ dep ops ops.size q r = true ∨ S0 r) :
    ∀ (fuel : Nat) (R1 R2 : List Nat) (listed : Array Bool) (pend : List (Nat × Sem Next × Value)) (a : Act) (w : World), R1.length ≤ fuel → R2.length ≤ fuel →
    R1.Pairwise (fun i j => i ≠ j ∧ (ybu ops st1 i j = true ∨ (i = p ∧ (j = q ∨ dep ops ops.size q j = true)))) → R2.Pairwise (fun i j => i ≠ j ∧ (ybu ops st2 i j = true ∨ (i = q ∧ (j = p ∨ dep ops ops.size p j = true)))) →
    (∀ i, i ∈ R1 ↔ listed.getD i true = false) → (∀ i, i ∈ R2 ↔ listed.getD i true = false) → listed.size = ops.size → ycJ ops listed → listed.getD p true = false → listed.getD q true = false → (∀ r, S0 r → listed.getD r true = true) →
    seqS P ops st1 Q R1 pend a w → seqS P ops st2 Q R2 pend a w → wpAnyIn F n P .any ops Q' fuel listed a w := by
  intro fuel
  induction fuel with
  | zero =>
    intro R1 R2 listed pend a w hf1 hf2 hp1 hp2 hl1 hl2 hs hdw hpl hql hS0 h1 h2
    have hR : R1 = [] := List.eq_nil_of_length_eq_zero (by omega)
    subst hR
    exact absurd ((hl1 p).2 hpl) (by simp)
  | succ fuel ih =>
    intro R1 R2 listed pend a w hf1 hf2 hp1 hp2 hl1 hl2 hs hdw hpl hql hS0 h1 h2
    have hb : ∀ x : Nat, listed.getD x true = false → x < ops.size := by
      intro x hx
      rcases Nat.lt_or_ge x listed.size with h | h
      · omega
      · simp [Array.getD_eq_getD_getElem?, Array.getElem?_eq_none h] at hx
    have hlb : ∀ x : Nat, listed.getD x false = true → listed.getD x true = true := by
      intro x hx
      rcases Nat.lt_or_ge x listed.size with h | h
      · simp [Array.getD_eq_getD_getElem?, h] at hx ⊢; exact hx
      · simp [Array.getD_eq_getD_getElem?, h]
    refine ⟨fun h0 => ?_, fun i hi => ?_⟩
    · -- something can always be carried out
      exfalso
      cases hR : R1 with
      | nil => rw [hR] at hl1; exact absurd ((hl1 p).2 hpl) (by simp)
      | cons r R =>
        rw [hR] at hl1 hp1
        have hr := (hl1 r).1 (by simp)
        have hlt := hb r hr
        have hmem : r ∈ Region.ready .any ops listed := by
          refine mem_ready.2 ⟨hr, ops[r], by simp [hlt], fun e he hbd => ?_⟩
          have h1' := hO r _ (by simp [hlt] : ops[r]? = some ops[r]) e he hbd
          have h2' : e.on ∉ r :: R := by
            intro h
            rcases List.mem_cons.1 h with h | h
            · exact h1'.2 h
            · rcases ((List.pairwise_cons.1 hp1).1 _ h).2 with hk | ⟨rfl, hk⟩
              · exact ybu.not hk (by simp [hlt] : ops[r]? = some ops[r]) he hbd rfl
              · have h9 := hWp _ (by simp [hlt] : ops[r]? = some ops[r]) e he hbd
                rcases hk with hk | hk
                · exact h9.1 hk
                · exact h9.2 hk
          have h3 := mt (hl1 e.on).2 h2'
          have h4 : e.on < listed.size := by omega
          simp [h4] at h3 ⊢
          exact h3
        rw [h0] at hmem
        cases hmem
    · obtain ⟨hun, oi, hoi, hall⟩ := mem_ready.1 hi
      have hil : i < listed.size := by have := (Array.getElem?_eq_some_iff.1 hoi).1; omega
      have hall' : ∀ e ∈ oi.after, Region.binds .any e = true → listed.getD e.on true = true := fun e he hbd => hlb _ (hall e he hbd)
      obtain ⟨A1, B1, rfl⟩ := List.append_of_mem ((hl1 i).2 hun)
      obtain ⟨A2, B2, rfl⟩ := List.append_of_mem ((hl2 i).2 hun)
      have lt1 : ∀ r ∈ A1, r ≠ i ∧ (ybu ops st1 r i = true ∨ (r = p ∧ (i = q ∨ dep ops ops.size q i = true))) := fun r hr => (List.pairwise_append.1 hp1).2.2 r hr i (by simp)
      have lt2 : ∀ r ∈ A2, r ≠ i ∧ (ybu ops st2 r i = true ∨ (r = q ∧ (i = p ∨ dep ops ops.size p i = true))) := fun r hr => (List.pairwise_append.1 hp2).2.2 r hr i (by simp)
      have ni1 : i ∉ A1 ++ B1 := by
        intro hm
        rcases List.mem_append.1 hm with hm | hm
        · exact (lt1 i hm).1 rfl
        · exact ((List.pairwise_cons.1 (List.pairwise_append.1 hp1).2.1).1 i hm).1 rfl
      have ni2 : i ∉ A2 ++ B2 := by
        intro hm
        rcases List.mem_append.1 hm with hm | hm
        · exact (lt2 i hm).1 rfl
        · exact ((List.pairwise_cons.1 (List.pairwise_append.1 hp2).2.1).1 i hm).1 rfl
      have s1 := hp1.sublist ((List.Sublist.refl A1).append (List.sublist_cons_self i B1))
      have s2 := hp2.sublist ((List.Sublist.refl A2).append (List.sublist_cons_self i B2))
      have l1 := ydF hil hl1 ni1
      have l2 := ydF hil hl2 ni2
      have dw := set_down hil hoi hall' hdw
      have n1 : (A1 ++ B1).length ≤ fuel := by simp at hf1 ⊢; omega
      have n2 : (A2 ++ B2).length ≤ fuel := by simp at hf2 ⊢; omega
      by_cases hip : i = p
      · -- the first order
        have h1' := ydD hoi hl1 hs hdw hall' (fun r hr => by
          rcases (lt1 r hr).2 with hk | ⟨hk, _⟩
          · exact hk
          · exact absurd (hk.trans hip.symm) (lt1 r hr).1) h1
        refine ye3 hF hD hC hRd h1' fun pend a w h => seqS_any (st := st1) hF hD hC hRd hQ hO fuel _ _ pend a w n1 (s1.imp_of_mem ?_) l1 (by simp [hs]) dw h
        rintro x y hx hy ⟨hxy, hk | ⟨rfl, _⟩⟩
        · exact ⟨hxy, hk⟩
        · exact absurd (hip ▸ hx) ni1
      · by_cases hiq : i = q
        · have h2' := ydD hoi hl2 hs hdw hall' (fun r hr => by
            rcases (lt2 r hr).2 with hk | ⟨hk, _⟩
            · exact hk
            · exact absurd (hk.trans hiq.symm) (lt2 r hr).1) h2
          refine ye3 hF hD hC hRd h2' fun pend a w h => seqS_any (st := st2) hF hD hC hRd hQ hO fuel _ _ pend a w n2 (s2.imp_of_mem ?_) l2 (by simp [hs]) dw h
          rintro x y hx hy ⟨hxy, hk | ⟨rfl, _⟩⟩
          · exact ⟨hxy, hk⟩
          · exact absurd (hiq ▸ hx) ni2
        · have h1' := ydD hoi hl1 hs hdw hall' (fun r hr => by
            rcases (lt1 r hr).2 with hk | ⟨_, hk | hk⟩
            · exact hk
            · exact absurd hk hiq
            · have := ybQ hdw ops.size q i oi hoi hall' hk
              rw [this] at hql; cases hql) h1
          have h2' := ydD hoi hl2 hs hdw hall' (fun r hr => by
            rcases (lt2 r hr).2 with hk | ⟨_, hk | hk⟩
            · exact hk
            · exact absurd hk hip
            · have := ybQ hdw ops.size p i oi hoi hall' hk
              rw [this] at hpl; cases hpl) h2
          have hqt : yax oi.op = true := by
            rcases hN i oi hoi hip hiq with hk | hk | hk | hk
            · exact hk
            · have := ybQ hdw ops.size p i oi hoi hall' hk
              rw [this] at hpl; cases hpl
            · have := ybQ hdw ops.size q i oi hoi hall' hk
              rw [this] at hql; cases hql
            · rw [hS0 i hk] at hun; cases hun
          have pl : (listed.setIfInBounds i true).getD p true = false := by rw [getD_set_ne true hip]; exact hpl
          have ql : (listed.setIfInBounds i true).getD q true = false := by rw [getD_set_ne true hiq]; exact hql
          have go := fun pend a w => ih (A1 ++ B1) (A2 ++ B2) (listed.setIfInBounds i true) pend a w n1 n2 s1 s2 l1 l2 (by simp [hs]) dw pl ql (fun r hr => by
            by_cases hir : i = r
            · subst hir; simp [hil]
            · rw [getD_set_ne true hir]; exact hS0 r hr)
          unfold wpOpIn
          simp only [seqS, hoi] at h1' h2' ⊢
          split
          · rename_i c
            rw [if_pos c, if_pos hqt] at h1' h2'
            obtain ⟨v, hv, h1'⟩ := h1'
            obtain ⟨v2, hv2, h2'⟩ := h2'
            have e : v2 = v := by
              rw [hv] at hv2
              injection hv2 with e _
              injection e with e
              exact e.symm
            subst e
            refine ⟨fun f _ => hF f, ?_⟩
            rw [Oper.semAt_eq _ _ _ (yax.defer hqt), hv]
            exact go _ _ _ h1' h2'
          · rename_i c
            rw [if_neg c] at h1' h2'
            exact ⟨fun f _ => hF f, go _ _ _ h1' h2'⟩
def yeE (ops : Array Oper) (st1 st2 : Nat → List Nat) (p q : Nat) (R1 R2 : List Nat) : Bool :=
  ((R1 ++ R2).all fun j => match ops[j]? with
    | none => false
    | some oj => oj.after.all fun e => !Region.binds .any e || (decide (e.on < ops.size) && !(e.on == j))) && (List.range ops.size).all (R1.contains ·) && (List.range ops.size).all (R2.contains ·) && decide (R1.length ≤ ops.size) && decide (R2.length ≤ ops.size) &&
  ybV (fun i j => !(i == j) && (ybu ops st1 i j || (i == p && (j == q || dep ops ops.size q j)))) R1 && ybV (fun i j => !(i == j) && (ybu ops st2 i j || (i == q && (j == p || dep ops ops.size p j)))) R2 && !(p == q) && decide (p < ops.size) && decide (q < ops.size) &&
  ((List.range ops.size).all fun r => r == p || r == q || (match ops[r]? with | some o => yax o.op | none => true) || dep ops ops.size p r || dep ops ops.size q r) &&
  (match ops[p]? with | some o => o.after.all fun e => !Region.binds .any e || (!(e.on == q) && !dep ops ops.size q e.on) | none => true)
end
section
variable {F : Fence} {n : Nat} {P : Program} {N : Nat} {Q : Exit → Act → World → Prop} {E : Env} {ds : List Deferred} {w : World} {t : List Item}
theorem wt_draw2 {id : Nat} {ops : Array Oper} (p q : Nat) (R1 R2 : List Nat) (st1 st2 : Nat → List Nat) (hw : Wd F) (hm : P.follows .mixedOrders = true) (hO : yeE ops st1 st2 p q R1 R2 = true) (h1 : RJ P N ops st1 (WTa F n P t Q) R1 [] E ds w.drew) (h2 : RJ P N ops st2 (WTa F n P t Q) R2 [] E ds w.drew) :
    WT F n P N (.code (.region id ops true) :: t) Q E ds w := by
  intro a r
  simp only [yeE, Bool.and_eq_true, decide_eq_true_eq] at hO
  obtain ⟨⟨⟨⟨⟨⟨⟨⟨⟨⟨⟨g1, g2⟩, g3⟩, g4⟩, g5⟩, g6⟩, g7⟩, g8⟩, g9⟩, g10⟩, g11⟩, g12⟩ := hO
  have k1 : ∀ i, i < ops.size → i ∈ R1 := fun i hi => by simpa using List.all_eq_true.1 g2 i (List.mem_range.2 hi)
  have k2 : ∀ i, i < ops.size → i ∈ R2 := fun i hi => by simpa using List.all_eq_true.1 g3 i (List.mem_range.2 hi)
  have lt : ∀ i, i ∈ R1 ++ R2 → i < ops.size := fun i hi => by
    have := List.all_eq_true.1 g1 i hi
    rcases Nat.lt_or_ge i ops.size with h | h
    · exact h
    · rw [Array.getElem?_eq_none h] at this; cases this
  have hl : ∀ R : List Nat, (∀ i, i < ops.size → i ∈ R) → (∀ i ∈ R, i < ops.size) → ∀ i, i ∈ R ↔ (Array.replicate ops.size false).getD i true = false := fun R a1 a2 i => by
    constructor
    · intro hi; simp [a2 i hi]
    · intro hi
      apply a1
      rcases Nat.lt_or_ge i ops.size with h | h
      · exact h
      · simp [Array.getD_eq_getD_getElem?, h] at hi
  refine WTa.of (wpIn_region_any hm ?_)
  refine seqS_two (st1 := st1) (st2 := st2) (p := p) (q := q) (S0 := fun _ => False) hw.fn hw.depth (fun f args w R h => hw.calls _ _ _ _ _ _ h) (fun l f tmps assign body w R h => hw.rounds _ _ _ _ _ _ _ _ _ h) (fun a w h => ⟨rfl, h⟩) (fun j oj hj e he hb => ?_) (by simpa using g8) (fun o ho e he hb => ?_) (fun r o ho hrp hrq => ?_) ops.size R1 R2 _ [] a _ g4 g5
    ((ybV.out g6).imp (fun h => by simpa using h)) ((ybV.out g7).imp (fun h => by simpa using h)) (hl R1 k1 fun i hi => lt i (by simp [hi])) (hl R2 k2 fun i hi => lt i (by simp [hi])) (by simp) (fun j oj hj hl => ?_) (by simp [g9]) (by simp [g10]) (fun _ h => h.elim) (h1 a r) (h2 a r)
  · have := List.all_eq_true.1 g1 j (by simp [k1 j (Array.getElem?_eq_some_iff.1 hj).1])
    rw [hj] at this
    simp only at this
    rw [Array.all_eq_true] at this
    obtain ⟨k, hk, rfl⟩ := Array.getElem_of_mem he
    have h3 := this k hk
    simpa [hb] using h3
  · rw [ho] at g12
    simp only at g12
    rw [Array.all_eq_true] at g12
    obtain ⟨k, hk, rfl⟩ := Array.getElem_of_mem he
    have h3 := g12 k hk
    simpa [hb] using h3
  · have := List.all_eq_true.1 g11 r (List.mem_range.2 (Array.getElem?_eq_some_iff.1 ho).1)
    rw [ho] at this
    simpa [hrp, hrq, or_assoc] using this
  · exfalso
    have := (Array.getElem?_eq_some_iff.1 hj).1
    simp [Array.getD_eq_getD_getElem?, this] at hl
theorem yeF {id : Nat} {ops : Array Oper} (p q : Nat) (R1 R2 : List Nat) (st1 st2 : Nat → List Nat) (hw : Wd F) (hm : P.follows .mixedOrders = true) (hO : yeE ops st1 st2 p q R1 R2 = true)
    (h1 : RP P N ops st1 (WTa F n P t Q) R1 (R1.map fun i => ops.getD i default) [] E ds w.drew) (h2 : RP P N ops st2 (WTa F n P t Q) R2 (R2.map fun i => ops.getD i default) [] E ds w.drew) : WT F n P N (.code (.region id ops true) :: t) Q E ds w := by
  have key : ∀ R : List Nat, (∀ i ∈ R, i ∈ R1 ++ R2) → R.map (fun i => ops[i]?) = (R.map fun i => ops.getD i default).map some := fun R hR => by
    simp only [yeE, Bool.and_eq_true, decide_eq_true_eq] at hO
    rw [List.map_map]
    refine List.map_congr_left fun i hi => ?_
    have := List.all_eq_true.1 hO.1.1.1.1.1.1.1.1.1.1.1 i (hR i hi)
    cases hq : ops[i]? with
    | none => rw [hq] at this; cases this
    | some o => simp [Array.getD_eq_getD_getElem?, hq]
  exact wt_draw2 p q R1 R2 st1 st2 hw hm hO (h1 (key R1 fun i hi => by simp [hi])) (h2 (key R2 fun i hi => by simp [hi]))
theorem yeZ {c : Code} (J : Env → List Deferred → World → Prop) (hj : ∀ E ds w, J E ds w → WT F n P N t Q E ds w) (h : (∀ E ds w, J E ds w → WT F n P N t Q E ds w) → WT F n P N (.code c :: t) Q E ds w) : WT F n P N (.code c :: t) Q E ds w := h hj
end
section
variable {P : Program} {ops : Array Oper} {Q : Act → World → Prop} {F : Fence} {n : Nat} {Q' : Exit → Act → World → Prop}
def Fork (P : Program) (ops : Array Oper) (st1 st2 : Nat → List Nat) (Q : Act → World → Prop) (R1 R2 : List Nat) (a : Act) (w : World) : Prop := seqS P ops st1 Q R1 [] a w ∧ seqS P ops st2 Q R2 [] a w
theorem seqS_fork {st0 st1 st2 : Nat → List Nat} {p q : Nat} {S0 : Nat → Prop} {R1 R2 : List Nat} {k : Nat} (hF : ∀ f, F.fn f) (hD : F.depth = none) (hC : ∀ f args w R, Calls P f args w R → CallsIn F (n - 1) P f args w R) (hRd : ∀ l f tmps assign body w R, RoundIn Fence.wide 0 P l f tmps assign body w R → RoundIn F (n - 1) P l f tmps assign body w R) (hQ : ∀ a w, Q a w → Q' .normal a w)
    (hO : ∀ j oj, ops[j]? = some oj → ∀ e ∈ oj.after, Region.binds .any e = true → e.on < ops.size ∧ e.on ≠ j) (hpq : p ≠ q) (hWp : ∀ o, ops[p]? = some o → ∀ e ∈ o.after, Region.binds .any e = true → e.on ≠ q ∧ dep ops ops.size q e.on ≠ true) (hN : ∀ r o, ops[r]? = some o → r ≠ p → r ≠ q → yax o.op = true ∨ dep ops ops.size p r = true ∨ dep ops ops.size q r = true ∨ S0 r)
    (hk1 : R1.length ≤ k) (hk2 : R2.length ≤ k) (hp1 : R1.Pairwise (fun i j => i ≠ j ∧ (ybu ops st1 i j = true ∨ (i = p ∧ (j = q ∨ dep ops ops.size q j = true))))) (hp2 : R2.Pairwise (fun i j => i ≠ j ∧ (ybu ops st2 i j = true ∨ (i = q ∧ (j = p ∨ dep ops ops.size p j = true)))))
    (hp : p ∈ R1) (hq : q ∈ R1) (hS1 : ∀ r ∈ R1, ¬ S0 r) :
    ∀ (m : Nat) (R0 : List Nat) (listed : Array Bool) (pend : List (Nat × Sem Next × Value)) (a : Act) (w : World), R0.length = m → R0.Pairwise (fun i j => i ≠ j ∧ ybu ops st0 i j = true) →
    (∀ r ∈ R0, ∀ i ∈ R1, dep ops ops.size r i = true) → (∀ r ∈ R0, ∀ o, ops[r]? = some o → ∀ e ∈ o.after, Region.binds .any e = true → e.on ∉ R1) → (∀ r ∈ R0, r ∉ R1 ∧ r ∉ R2) →
    (∀ i, i ∈ R0 ++ R1 ↔ listed.getD i true = false) → (∀ i, i ∈ R0 ++ R2 ↔ listed.getD i true = false) → (∀ i, S0 i → i ∉ R0 → listed.getD i true = true) → listed.size = ops.size → ycJ ops listed →
    seqS P ops st0 (Fork P ops st1 st2 Q R1 R2) R0 pend a w → wpAnyIn F n P .any ops Q' (m + k) listed a w := by
  intro m
  induction m with
  | zero =>
    intro R0 listed pend a w hm hp0 hd0 he0 hn0 hl1 hl2 hS hs hdw h
    have hR : R0 = [] := List.eq_nil_of_length_eq_zero hm
    subst hR
    simp only [seqS] at h
    simp only [List.nil_append] at hl1 hl2
    rw [Nat.zero_add]
    exact seqS_two (st1 := st1) (st2 := st2) (p := p) (q := q) (S0 := S0) hF hD hC hRd hQ hO hpq hWp hN k R1 R2 listed [] a w hk1 hk2 hp1 hp2 hl1 hl2 hs hdw ((hl1 p).1 hp) ((hl1 q).1 hq) (fun r hr => hS r hr (by simp)) h.1 h.2
  | succ m ih =>
    intro R0 listed pend a w hm hp0 hd0 he0 hn0 hl1 hl2 hS hs hdw h
    have hb : ∀ x : Nat, listed.getD x true = false → x < ops.size := by
      intro x hx
      rcases Nat.lt_or_ge x listed.size with h | h
      · omega
      · simp [Array.getD_eq_getD_getElem?, Array.getElem?_eq_none h] at hx
    have hlb : ∀ x : Nat, listed.getD x false = true → listed.getD x true = true := by
      intro x hx
      rcases Nat.lt_or_ge x listed.size with h | h
      · simp [Array.getD_eq_getD_getElem?, h] at hx ⊢; exact hx
      · simp [Array.getD_eq_getD_getElem?, h]
    rw [Nat.succ_add]
    refine ⟨fun h0 => ?_, fun i hi => ?_⟩
    · exfalso
      cases hR : R0 with
      | nil => rw [hR] at hm; cases hm
      | cons r R =>
        rw [hR] at hl1 hp0 he0
        have hr := (hl1 r).1 (by simp)
        have hlt := hb r hr
        have hmem : r ∈ Region.ready .any ops listed := by
          refine mem_ready.2 ⟨hr, ops[r], by simp [hlt], fun e he hbd => ?_⟩
          have h1' := hO r _ (by simp [hlt] : ops[r]? = some ops[r]) e he hbd
          have h2' : e.on ∉ (r :: R) ++ R1 := by
            intro h
            rcases List.mem_append.1 h with h | h
            · rcases List.mem_cons.1 h with h | h
              · exact h1'.2 h
              · exact ybu.not ((List.pairwise_cons.1 hp0).1 _ h).2 (by simp [hlt] : ops[r]? = some ops[r]) he hbd rfl
            · exact he0 r (by simp) _ (by simp [hlt] : ops[r]? = some ops[r]) e he hbd h
          have h3 := mt (hl1 e.on).2 h2'
          have h4 : e.on < listed.size := by omega
          simp [h4] at h3 ⊢
          exact h3
        rw [h0] at hmem
        cases hmem
    · obtain ⟨hun, oi, hoi, hall⟩ := mem_ready.1 hi
      have hil : i < listed.size := by have := (Array.getElem?_eq_some_iff.1 hoi).1; omega
      have hall' : ∀ e ∈ oi.after, Region.binds .any e = true → listed.getD e.on true = true := fun e he hbd => hlb _ (hall e he hbd)
      have hi0 : i ∈ R0 := by
        rcases List.mem_append.1 ((hl1 i).2 hun) with h | h
        · exact h
        · cases hR : R0 with
          | nil => rw [hR] at hm; cases hm
          | cons r R =>
            have hr0 : r ∈ R0 := by rw [hR]; simp
            have := ybQ hdw ops.size r i oi hoi hall' (hd0 r hr0 i h)
            rw [(hl1 r).1 (by simp [hr0])] at this; cases this
      obtain ⟨A, B, rfl⟩ := List.append_of_mem hi0
      have lt : ∀ r ∈ A, r ≠ i ∧ ybu ops st0 r i = true := fun r hr => (List.pairwise_append.1 hp0).2.2 r hr i (by simp)
      have ni : i ∉ A ++ B := by
        intro hm
        rcases List.mem_append.1 hm with hm | hm
        · exact (lt i hm).1 rfl
        · exact ((List.pairwise_cons.1 (List.pairwise_append.1 hp0).2.1).1 i hm).1 rfl
      have nis := hn0 i (by simp)
      have sub : ∀ r ∈ A ++ B, r ∈ A ++ i :: B := fun r hr => by
        rcases List.mem_append.1 hr with h | h <;> simp [h]
      have h' := yd9 hoi A B (fun r hr => by
        have hr0 := (hl1 r).1 (by simp [hr])
        have hrs := hb r hr0
        have hd' : dep ops ops.size r i = false := by
          cases hq : dep ops ops.size r i with
          | false => rfl
          | true =>
            have := ybQ hdw ops.size r i oi hoi hall' hq
            rw [this] at hr0; cases hr0
        obtain ⟨a1, a2, a3⟩ := ybu.two (lt r hr).2 (by simp [hrs] : ops[r]? = some ops[r]) hoi hd'
        exact ⟨ops[r], by simp [hrs], a1, a2, a3⟩) pend a w h
      refine ye3 hF hD hC hRd h' fun pend a w h => ih (A ++ B) (listed.setIfInBounds i true) pend a w (by simp at hm ⊢; omega) (hp0.sublist ((List.Sublist.refl A).append (List.sublist_cons_self i B))) (fun r hr => hd0 r (sub r hr)) (fun r hr => he0 r (sub r hr)) (fun r hr => hn0 r (sub r hr)) ?_ ?_ (fun r hr hrn => ?_) (by simp [hs]) (set_down hil hoi hall' hdw) h
      · rw [List.append_assoc]
        exact ydF hil (by simpa [List.append_assoc] using hl1) (by simp at ni ⊢; exact ⟨ni.1, ni.2, nis.1⟩)
      · rw [List.append_assoc]
        exact ydF hil (by simpa [List.append_assoc] using hl2) (by simp at ni ⊢; exact ⟨ni.1, ni.2, nis.2⟩)
      · by_cases hir : i = r
        · subst hir; simp [hil]
        · rw [getD_set_ne true hir]
          refine hS r hr fun hm => hrn ?_
          simp at hm ⊢
          rcases hm with h | h | h
          · exact .inl h
          · exact absurd h.symm hir
          · exact .inr h
def yeB (ops : Array Oper) (sta st1 st2 : Nat → List Nat) (p q : Nat) (R0 R1 R2 : List Nat) : Bool :=
  ((R0 ++ R1 ++ R2).all fun j => match ops[j]? with
    | none => false
    | some oj => oj.after.all fun e => !Region.binds .any e || (decide (e.on < ops.size) && !(e.on == j))) && (List.range ops.size).all ((R0 ++ R1).contains ·) && (List.range ops.size).all ((R0 ++ R2).contains ·) && decide (R0.length + R1.length ≤ ops.size) && decide (R0.length + R2.length ≤ ops.size) &&
  ybV (fun i j => !(i == j) && (ybu ops st1 i j || (i == p && (j == q || dep ops ops.size q j)))) R1 && ybV (fun i j => !(i == j) && (ybu ops st2 i j || (i == q && (j == p || dep ops ops.size p j)))) R2 && !(p == q) && R1.contains p && R1.contains q &&
  (R1.all fun r => r == p || r == q || (match ops[r]? with | some o => yax o.op | none => true) || dep ops ops.size p r || dep ops ops.size q r) &&
  (match ops[p]? with | some o => o.after.all fun e => !Region.binds .any e || (!(e.on == q) && !dep ops ops.size q e.on) | none => true) &&
  ybV (fun i j => !(i == j) && ybu ops sta i j) R0 && (R0.all fun r => R1.all fun i => dep ops ops.size r i) && (R0.all fun r => match ops[r]? with | some o => o.after.all fun e => !Region.binds .any e || !(R1.contains e.on) | none => true) && (R0.all fun r => !(R1.contains r) && !(R2.contains r))
end
section
variable {F : Fence} {n : Nat} {P : Program} {N : Nat} {Q : Exit → Act → World → Prop} {E : Env} {ds : List Deferred} {w : World} {t : List Item}
theorem wt_draw3 {id : Nat} {ops : Array Oper} (p q : Nat) (R0 R1 R2 : List Nat) (sta st1 st2 : Nat → List Nat) (hw : Wd F) (hm : P.follows .mixedOrders = true) (hO : yeB ops sta st1 st2 p q R0 R1 R2 = true) (h : RJ P N ops sta (Fork P ops st1 st2 (WTa F n P t Q) R1 R2) R0 [] E ds w.drew) :
    WT F n P N (.code (.region id ops true) :: t) Q E ds w := by
  intro a r
  simp only [yeB, Bool.and_eq_true, decide_eq_true_eq] at hO
  obtain ⟨⟨⟨⟨⟨⟨⟨⟨⟨⟨⟨⟨⟨⟨⟨g1, g2⟩, g3⟩, g4⟩, g5⟩, g6⟩, g7⟩, g8⟩, g9⟩, g10⟩, g11⟩, g12⟩, g13⟩, g14⟩, g15⟩, g16⟩ := hO
  have k1 : ∀ i, i < ops.size → i ∈ R0 ++ R1 := fun i hi => by simpa using List.all_eq_true.1 g2 i (List.mem_range.2 hi)
  have k2 : ∀ i, i < ops.size → i ∈ R0 ++ R2 := fun i hi => by simpa using List.all_eq_true.1 g3 i (List.mem_range.2 hi)
  have lt : ∀ i, i ∈ R0 ++ R1 ++ R2 → i < ops.size := fun i hi => by
    have := List.all_eq_true.1 g1 i hi
    rcases Nat.lt_or_ge i ops.size with h | h
    · exact h
    · rw [Array.getElem?_eq_none h] at this; cases this
  have hl : ∀ R : List Nat, (∀ i, i < ops.size → i ∈ R) → (∀ i ∈ R, i < ops.size) → ∀ i, i ∈ R ↔ (Array.replicate ops.size false).getD i true = false := fun R a1 a2 i => by
    constructor
    · intro hi; simp [a2 i hi]
    · intro hi
      apply a1
      rcases Nat.lt_or_ge i ops.size with h | h
      · exact h
      · simp [Array.getD_eq_getD_getElem?, h] at hi
  have n0 : ∀ r ∈ R0, r ∉ R1 ∧ r ∉ R2 := fun r hr => by simpa using List.all_eq_true.1 g16 r hr
  refine WTa.of (wpIn_region_any hm ?_)
  have hfuel : R0.length + (ops.size - R0.length) = ops.size := by omega
  refine Eq.mp (congrArg (fun f => wpAnyIn F n P .any ops _ f _ a _) hfuel) ?_
  refine seqS_fork (st0 := sta) (st1 := st1) (st2 := st2) (p := p) (q := q) (S0 := fun r => r ∈ R0) (R1 := R1) (R2 := R2) hw.fn hw.depth (fun f args w R h => hw.calls _ _ _ _ _ _ h) (fun l f tmps assign body w R h => hw.rounds _ _ _ _ _ _ _ _ _ h) (fun a w h => ⟨rfl, h⟩) (fun j oj hj e he hb => ?_) (by simpa using g8) (fun o ho e he hb => ?_) (fun r o ho hrp hrq => ?_) (by omega) (by omega)
    ((ybV.out g6).imp (fun h => by simpa using h)) ((ybV.out g7).imp (fun h => by simpa using h)) (by simpa using g9) (by simpa using g10) (fun r hr h => (n0 r h).1 hr) R0.length R0 _ [] a _ rfl ((ybV.out g13).imp (fun h => by simpa using h)) (fun r hr i hi => List.all_eq_true.1 (List.all_eq_true.1 g14 r hr) i hi) (fun r hr o ho e he hb => ?_) n0
    (hl _ k1 fun i hi => lt i (List.mem_append.2 (.inl hi))) (hl _ k2 fun i hi => lt i (by rcases List.mem_append.1 hi with h | h <;> simp [h])) (fun i h h' => absurd h h') (by simp) (fun j oj hj hl => ?_) (h a r)
  · have := List.all_eq_true.1 g1 j (List.mem_append.2 (.inl (k1 j (Array.getElem?_eq_some_iff.1 hj).1)))
    rw [hj] at this
    simp only at this
    rw [Array.all_eq_true] at this
    obtain ⟨k, hk, rfl⟩ := Array.getElem_of_mem he
    have h3 := this k hk
    simpa [hb] using h3
  · rw [ho] at g12
    simp only at g12
    rw [Array.all_eq_true] at g12
    obtain ⟨k, hk, rfl⟩ := Array.getElem_of_mem he
    have h3 := g12 k hk
    simpa [hb] using h3
  · rcases List.mem_append.1 (k1 r (Array.getElem?_eq_some_iff.1 ho).1) with h0 | h0
    · exact .inr (.inr (.inr h0))
    · have := List.all_eq_true.1 g11 r h0
      rw [ho] at this
      simp only [Bool.or_eq_true, beq_iff_eq] at this
      rcases this with (((h | h) | h) | h) | h
      · exact absurd h hrp
      · exact absurd h hrq
      · exact .inl h
      · exact .inr (.inl h)
      · exact .inr (.inr (.inl h))
  · have := List.all_eq_true.1 g15 r hr
    rw [ho] at this
    simp only at this
    rw [Array.all_eq_true] at this
    obtain ⟨k, hk, rfl⟩ := Array.getElem_of_mem he
    have h3 := this k hk
    simpa [hb] using h3
  · exfalso
    have := (Array.getElem?_eq_some_iff.1 hj).1
    simp [Array.getD_eq_getD_getElem?, this] at hl
theorem wp_draw3 {id : Nat} {ops : Array Oper} (p q : Nat) (R0 R1 R2 : List Nat) (sta st1 st2 : Nat → List Nat) (hw : Wd F) (hm : P.follows .mixedOrders = true) (hO : yeB ops sta st1 st2 p q R0 R1 R2 = true)
    (h : RP P N ops sta (Fork P ops st1 st2 (WTa F n P t Q) R1 R2) R0 (R0.map fun i => ops.getD i default) [] E ds w.drew) : WT F n P N (.code (.region id ops true) :: t) Q E ds w := by
  refine wt_draw3 p q R0 R1 R2 sta st1 st2 hw hm hO (h ?_)
  simp only [yeB, Bool.and_eq_true, decide_eq_true_eq] at hO
  rw [List.map_map]
  refine List.map_congr_left fun i hi => ?_
  have := List.all_eq_true.1 hO.1.1.1.1.1.1.1.1.1.1.1.1.1.1.1 i (by simp [hi])
  cases hq : ops[i]? with
  | none => rw [hq] at this; cases this
  | some o => simp [Array.getD_eq_getD_getElem?, hq]
theorem rp_fork {ops : Array Oper} {st st1 st2 : Nat → List Nat} {R1 R2 : List Nat} {Qa : Act → World → Prop} {pend : List (Nat × Sem Next × Value)} (hb1 : R1.all (fun i => Nat.blt i ops.size) = true) (hb2 : R2.all (fun i => Nat.blt i ops.size) = true)
    (h1 : RP P N ops st1 Qa R1 (R1.map fun i => ops.getD i default) [] E ds w) (h2 : RP P N ops st2 Qa R2 (R2.map fun i => ops.getD i default) [] E ds w) : RP P N ops st (Fork P ops st1 st2 Qa R1 R2) [] [] pend E ds w := by
  have key : ∀ R : List Nat, R.all (fun i => Nat.blt i ops.size) = true → R.map (fun i => ops[i]?) = (R.map fun i => ops.getD i default).map some := fun R hR => by
    rw [List.map_map]
    refine List.map_congr_left fun i hi => ?_
    have hlt : i < ops.size := by simpa using List.all_eq_true.1 hR i hi
    simp [Array.getD_eq_getD_getElem?, hlt]
  intro _ a r
  exact ⟨h1 (key R1 hb1) a r, h2 (key R2 hb2) a r⟩
end
end Go.Proofs.Ytinoedockljfeaa

/- Entries of maps that are changed in place (m[k]++). No program in sight. -/
namespace Go.Proofs.Ytinoedockljfeaa
open Go Go.RowKit Go.Shelf Go.Proofs.Try
set_option linter.unusedVariables false
set_option linter.unusedSimpArgs false
section
variable {τ : Type}
def mix : List (List Int × τ) → List Int → Nat
  | [], _ => 0
  | p :: t, k => if p.1 = k then 0 else mix t k + 1
theorem mix_get : ∀ (m : List (List Int × τ)) (k : List Int) (v : τ), (mput m k v)[mix m k]? = some (k, v)
  | [], k, v => rfl
  | p :: t, k, v => by
    unfold mput mix
    by_cases e : p.1 = k
    · rw [if_pos e, if_pos e]; rfl
    · rw [if_neg e, if_neg e, List.getElem?_cons_succ]; exact mix_get t k v
theorem mix_set : ∀ (m : List (List Int × τ)) (k : List Int) (v v' : τ), (mput m k v).set (mix m k) (k, v') = mput m k v'
  | [], k, v, v' => rfl
  | p :: t, k, v, v' => by
    unfold mput mix
    by_cases e : p.1 = k
    · rw [if_pos e, if_pos e, if_pos e]; rfl
    · rw [if_neg e, if_neg e, if_neg e, List.set_cons_succ, mix_set t k v v']
theorem mix_none : ∀ {m : List (List Int × τ)} {k : List Int}, (∀ p ∈ m, p.1 ≠ k) → mix m k = m.length
  | [], k, _ => rfl
  | p :: t, k, h => by
    unfold mix
    rw [if_neg (h p List.mem_cons_self), mix_none fun q hq => h q (List.mem_cons_of_mem _ hq)]; rfl
theorem mix_at : ∀ {m : List (List Int × τ)}, m.Pairwise (fun p q => p.1 ≠ q.1) → ∀ {k : List Int} {v : τ} {j : Nat}, m[j]? = some (k, v) → mix m k = j
  | [], _, _, _, _, h => by simp at h
  | p :: t, hd, k, v, 0, h => by
    simp at h
    subst h
    unfold mix
    rw [if_pos rfl]
  | p :: t, hd, k, v, j + 1, h => by
    rw [List.pairwise_cons] at hd
    rw [List.getElem?_cons_succ] at h
    unfold mix
    rw [if_neg (hd.1 _ (List.mem_of_getElem? h)), mix_at hd.2 h]
end
section
variable {τ : Type} {P : Program} {w : World} {k e mt : TypeId} {n : Nat} {vE : τ → Value} {m : List (List Int × τ)} {b : Nat} {key : List Int}
theorem mEs_key (vE : τ → Value) {m : List (List Int × τ)} {j : Nat} {v : τ} (h : m[j]? = some (key, v)) : (mEs vE 0 m).toArray.modify j (fun x => { x with key := kE key }) = (mEs vE 0 m).toArray := by
  apply Array.ext_getElem?
  intro i
  rw [Array.getElem?_modify]
  simp only [List.getElem?_toArray, ycy]
  by_cases e : j = i
  · subst e
    rw [if_pos rfl, h]
    rfl
  · rw [if_neg e]
theorem mEs_val (vE : τ → Value) {m : List (List Int × τ)} {j : Nat} {v v' : τ} (h : m[j]? = some (key, v)) : (mEs vE 0 m).toArray.modify j (fun x => { x with val := vE v' }) = (mEs vE 0 (m.set j (key, v'))).toArray := by
  apply Array.ext_getElem?
  intro i
  rw [Array.getElem?_modify]
  simp only [List.getElem?_toArray, ycy, List.getElem?_set]
  by_cases e : j = i
  · subst e
    rw [if_pos rfl, if_pos rfl, h, if_pos (List.getElem?_eq_some_iff.1 h).1]
    rfl
  · rw [if_neg e, if_neg e]
theorem run_mentryX (T : KeyT P k n) (hm : KOk n m) (hk : yeS n key) (hu : P.underlying mt = some (.map k e)) {x0 : τ} {by_ : Nat} (hz : (P.info? e).map (fun i => (i.zero, i.size, i.bytes)) = some (some (vE x0), 1, by_)) (hb : w.heap[b]? = some (mapO vE m)) :
    ∃ w', (Instr.mapEntry mt (.map (some b)) (kE key)).run P w = .ok (.tuple #[vE ((mget m key).getD x0), .int .i64 ((mix m key : Nat) : Int)]) w' ∧ w'.heap[b]? = some (mapO vE (mput m key ((mget m key).getD x0))) ∧ Keeps (fun j => j = b) w w' := by
  obtain ⟨t, ht⟩ := T.of key hk
  have hKp : ∀ o : Obj, Keeps (fun j => j = b) w { w with heap := w.heap.setIfInBounds b o } := fun o => ⟨rfl, rfl, rfl, by simp, fun j _ hj => (MapKept.heap_set hb).2 j hj⟩
  have hb' : w.heap[b]? = some (.map (mEs vE 0 m).toArray m.length) := hb
  rcases find_m (vE := vE) (w := w) T hm hk with ⟨h1, h2⟩ | ⟨j, v0, h1, h2⟩
  · refine ⟨{ w with heap := w.heap.setIfInBounds b (.map ((mEs vE 0 m).toArray.push ⟨kE key, vE x0, m.length⟩) (m.length + 1)) }, ?_, ?_, hKp _⟩
    · rw [mix_none h2, yeW h2]
      simp [Instr.mapEntry, run_underlying hu, MapKept.run_getObj_map hb', T.law.check w _ ht, h1, yb1 hz, MapKept.run_setObj_map _ hb', Result.andThen, goInt]
    · rw [(MapKept.heap_set hb').1, yeW h2, mput_none h2, Option.getD_none, mEs_push]
      simp [mapO]
  · have hj : (mEs vE 0 m)[j]? = some ⟨kE key, vE v0, 0 + j⟩ := by rw [ycy, h2]; rfl
    refine ⟨{ w with heap := w.heap.setIfInBounds b (.map ((mEs vE 0 m).toArray.modify j (fun x => { x with key := kE key })) m.length) }, ?_, ?_, hKp _⟩
    · rw [mix_at hm.1 h2, mget_at hm.1 h2]
      simp [Instr.mapEntry, run_underlying hu, MapKept.run_getObj_map hb', T.law.check w _ ht, h1, hj, T.law.stays w ht, MapKept.run_setObj_map _ hb', Result.andThen, goInt]
    · rw [(MapKept.heap_set hb').1, mget_at hm.1 h2, Option.getD_some, mput_at hm.1 h2, mEs_key vE h2]
      have e : m.set j (key, v0) = m := by
        have hjl := (List.getElem?_eq_some_iff.1 h2)
        obtain ⟨hl, he⟩ := hjl
        rw [← he]; exact List.set_getElem_self hl
      rw [e]; rfl
theorem run_estoreX (hb : w.heap[b]? = some (mapO vE m)) {i : Nat} {v0 : τ} (hi : m[i]? = some (key, v0)) (v : τ) :
    ∃ w', (Instr.entryStore mt (.map (some b)) (.int .i64 ((i : Nat) : Int)) (vE v)).run P w = .ok () w' ∧ w'.heap[b]? = some (mapO vE (m.set i (key, v))) ∧ Keeps (fun j => j = b) w w' := by
  have hKp : ∀ o : Obj, Keeps (fun j => j = b) w { w with heap := w.heap.setIfInBounds b o } := fun o => ⟨rfl, rfl, rfl, by simp, fun j _ hj => (MapKept.heap_set hb).2 j hj⟩
  have hb' : w.heap[b]? = some (.map (mEs vE 0 m).toArray m.length) := hb
  have hil := (List.getElem?_eq_some_iff.1 hi).1
  have hf : (mEs vE 0 m).toArray.findIdx? (fun e => (e.born : Int) == ((i : Nat) : Int)) = some i := by
    rw [List.findIdx?_toArray, List.findIdx?_eq_some_iff_getElem]
    have hg : ∀ j (hj : j < (mEs vE 0 m).length), ((mEs vE 0 m)[j]).born = j := fun j hj => by
      have h1 : (mEs vE 0 m)[j]? = some ((mEs vE 0 m)[j]) := List.getElem?_eq_getElem hj
      rw [ycy] at h1
      rw [yeY] at hj
      rw [List.getElem?_eq_getElem hj, Option.map_some] at h1
      rw [← Option.some.inj h1]; simp
    refine ⟨by rw [yeY]; exact hil, by rw [hg]; simp, fun j hj => ?_⟩
    rw [hg]
    simp; omega
  refine ⟨{ w with heap := w.heap.setIfInBounds b (.map ((mEs vE 0 m).toArray.modify i (fun x => { x with val := vE v })) m.length) }, ?_, ?_, hKp _⟩
  · have hf2 : List.findIdx? (fun e => (e.born : Int) == ((i : Nat) : Int)) (mEs vE 0 m) = some i := by rw [← List.findIdx?_toArray]; exact hf
    have ha : Sem.run P (asIntOf (Value.int IntKind.i64 ((i : Nat) : Int))) w = .ok (.i64, ((i : Nat) : Int)) w := rfl
    simp [Instr.entryStore, MapKept.run_getObj_map hb', asInt, ha, hf2, MapKept.run_setObj_map _ hb', Result.andThen]
  · rw [(MapKept.heap_set hb').1, mEs_val vE hi]
    simp [mapO]
end
section
variable {τ : Type} {P : Program} {E : Env} {w : World} {d : Option Tmp} {x y z : Operand} {ty xt k e : TypeId} {ps : String} {af : Array Edge} {g : Option (Nat × Bool)} {K : Value → World → Prop} {n b : Nat} {vE : τ → Value} {m : List (List Int × τ)} {key : List Int}
theorem n_mentryX (T : KeyT P k n) (hm : KOk n m) (hk : yeS n key) (hx : evE E x = .map (some b)) (hy : evE E y = kE key) (hu : P.underlying xt = some (.map k e)) {x0 : τ} {by_ : Nat} (hz : (P.info? e).map (fun i => (i.zero, i.size, i.bytes)) = some (some (vE x0), 1, by_)) (hb : w.heap[b]? = some (mapO vE m))
    (h : ∀ w', w'.heap[b]? = some (mapO vE (mput m key ((mget m key).getD x0))) → Keeps (fun j => j = b) w w' → K (.tuple #[vE ((mget m key).getD x0), .int .i64 ((mix m key : Nat) : Int)]) w') : ya3 P ⟨d, .mapEntry xt x y, ty, ps, af, g⟩ (evE E) w K := by
  obtain ⟨w', h1, h2, h3⟩ := run_mentryX T hm hk hu hz hb
  unfold ya3 execOp
  simp only [hx, hy, h1, Sem.run_bind, Sem.run_pure, Result.andThen]
  exact h w' h2 h3
theorem n_estoreX {v0 v : τ} (hx : evE E x = .map (some b)) (hy : evE E y = .int .i64 ((mix m key : Nat) : Int)) (hz : evE E z = vE v) (hb : w.heap[b]? = some (mapO vE (mput m key v0)))
    (h : ∀ w', w'.heap[b]? = some (mapO vE (mput m key v)) → Keeps (fun j => j = b) w w' → K undef w') : ya3 P ⟨d, .entryStore xt x y z, ty, ps, af, g⟩ (evE E) w K := by
  obtain ⟨w', h1, h2, h3⟩ := run_estoreX (P := P) (mt := xt) hb (mix_get m key v0) v
  rw [mix_set] at h2
  unfold ya3 execOp
  simp only [hx, hy, hz, h1, Sem.run_bind, Sem.run_pure, Result.andThen]
  exact h w' h2 h3
end
theorem keyT_pair {P : Program} {k e : TypeId} {m : Nat} {f0 f1 : Field} (hl : laidOutB P = true) (hm : m + 1 ≤ 10000) (hrow : k < P.types.size) (hkt : P.keyTypeAt m k = true) (hkt2 : P.keyType k = true) (hu : P.underlying k = some (.struct #[f0, f1])) (h0 : f0.type = e ∧ f0.offset = 0 ∧ (f0.name != "_") = true) (h1 : f1.type = e ∧ f1.offset = 1 ∧ (f1.name != "_") = true) (he : P.underlying e = some (.int .i64)) (hce : P.cellsOf e = 1) (hck : P.cellsOf k = 2) (h2 : 2 ≤ P.types.size) : KeyT P k 2 where
  law := Maps.Keyed.of_law (deep_law_laid hl hm hrow hkt (by rw [hu]))
  of := fun l ⟨hll, hin⟩ => by
    obtain ⟨d, hd⟩ : ∃ d, P.types.size + 1 = d + 1 + 1 + 1 := ⟨P.types.size - 2, by omega⟩
    obtain ⟨a, b, rfl⟩ : ∃ a b, l = [a, b] := by
      match l, hll with
      | [a, b], _ => exact ⟨a, b, rfl⟩
    have ha := hin a (by simp)
    have hb := hin b (by simp)
    have hwf : ∀ x : Int, In64 x → (Lit.int .i64 x).wf = true := fun x hx => by
      simp only [Lit.wf, Bool.and_eq_true, decide_eq_true_eq]
      exact ⟨hx.1, by have := hx.2; show x ≤ 9223372036854775807; omega⟩
    have hcells : (kE [a, b]).cells.toList = [.int .i64 a, .int .i64 b] := by simp [kE, Value.cells]
    have hform : (kE [a, b]).formed P k = true := by
      unfold kE Value.formed
      simp [hu, hck]
    unfold keyOf
    simp only [hu, hkt2, hform, Bool.and_self, if_true, hcells, hd]
    unfold Program.keyLits
    simp only [hu]
    obtain ⟨t0, o0, n0⟩ := h0
    obtain ⟨t1, o1, n1⟩ := h1
    have e0 : P.keyLits (d + 1 + 1) f0.type (([Value.int .i64 a, .int .i64 b].drop f0.offset).take (P.cellsOf f0.type)) = some [.int .i64 a] := by
      rw [t0, o0, hce]; simp [Program.keyLits, he, hwf a ha]
    have e1 : P.keyLits (d + 1 + 1) f1.type (([Value.int .i64 a, .int .i64 b].drop f1.offset).take (P.cellsOf f1.type)) = some [.int .i64 b] := by
      rw [t1, o1, hce]; simp [Program.keyLits, he, hwf b hb]
    rw [if_pos ⟨by simp [hck], by simp [n0, n1]⟩]
    simp only [List.mapM_cons, List.mapM_nil, e0, e1]
    exact ⟨_, rfl⟩
end Go.Proofs.Ytinoedockljfeaa

/- Slices of structs of numbers that are made, and copied into. No program in sight. -/
namespace Go.Proofs.Ytinoedockljfeaa
open Go Go.RowKit Go.Shelf Go.Proofs.Try
set_option linter.unusedVariables false
set_option linter.unusedSimpArgs false
section
variable {τ : Type} {f : Fl τ}
theorem encL_len (xs : List τ) : (xs.flatMap f.enc).length = xs.length * f.sz := by
  induction xs with
  | nil => simp
  | cons x t ih => rw [List.flatMap_cons, List.length_append, f.len, ih, List.length_cons, Nat.add_mul]; omega
theorem encL_at : ∀ {xs : List τ} {k j : Nat} {x : τ} {u : Value}, xs[k]? = some x → (f.enc x)[j]? = some u → (xs.flatMap f.enc)[k * f.sz + j]? = some u
  | [], k, _, _, _, h, _ => by simp at h
  | y :: t, 0, j, x, u, h, hu => by
    simp at h
    subst h
    have hj := (List.getElem?_eq_some_iff.1 hu).1
    rw [List.flatMap_cons, Nat.zero_mul, Nat.zero_add, List.getElem?_append_left hj]; exact hu
  | y :: t, k + 1, j, x, u, h, hu => by
    have := encL_at (xs := t) (k := k) (by simpa using h) hu
    rw [List.flatMap_cons, List.getElem?_append_right (by rw [f.len, Nat.add_mul]; omega), f.len, show (k + 1) * f.sz + j - f.sz = k * f.sz + j by rw [Nat.add_mul]; omega]; exact this
end
section
variable {P : Program} {E : Env} {w : World} {d : Option Tmp} {ty : TypeId} {ps : String} {af : Array Edge} {g : Option (Nat × Bool)} {K : Value → World → Prop} {x y : Operand} {xt yt : TypeId}
end
theorem madeCells_flat {τ : Type} {f : Fl τ} {z : Array Value} {x : τ} (hz : z.toList = f.enc x) (n : Nat) : (madeCells z (n * f.sz)).toList = (List.replicate n x).flatMap f.enc := by
  have hzs : z.size = f.sz := by rw [← Array.length_toList, hz, f.len]
  refine List.ext_getElem? fun t => ?_
  by_cases ht : t < n * f.sz
  · have h0 : 0 < f.sz := by rcases Nat.eq_zero_or_pos f.sz with q | q; · rw [q] at ht; simp at ht
                             · exact q
    have hk : t / f.sz < n := Nat.div_lt_of_lt_mul (by rw [Nat.mul_comm]; exact ht)
    have hj : t % f.sz < f.sz := Nat.mod_lt _ h0
    have hu : (f.enc x)[t % f.sz]? = some ((f.enc x)[t % f.sz]'(by rw [f.len]; exact hj)) := List.getElem?_eq_getElem _
    have h2 := encL_at (xs := List.replicate n x) (k := t / f.sz) (by rw [List.getElem?_replicate, if_pos hk]) hu
    have e1 : t / f.sz * f.sz + t % f.sz = t := by rw [Nat.mul_comm]; exact Nat.div_add_mod t f.sz
    rw [e1] at h2
    rw [h2, Array.getElem?_toList, madeCells, Array.getElem?_map, Array.getElem?_range, if_pos ht, Option.map_some, hzs]
    congr 1
    rw [getElem!_pos _ _ (by omega)]
    simp only [← hz, Array.getElem_toList]
  · rw [List.getElem?_eq_none (by rw [Array.length_toList, size_madeCells]; omega), List.getElem?_eq_none (by rw [encL_len, List.length_replicate]; omega)]
end Go.Proofs.Ytinoedockljfeaa

/- A slice of one's own that is made shorter; zeros laid behind a slice of one's own; slices whose memory is nil that are cut. No program in sight. -/
namespace Go.Proofs.Ytinoedockljfeaa
open Go Go.RowKit Go.Shelf Go.Proofs.Try
set_option linter.unusedVariables false
set_option linter.unusedSimpArgs false
theorem OwnS.cut {w : World} {B : Nat} {e : TypeId} {sz : Nat} {A : Option Addr} {l c : Nat} {xs : List Value} (h : OwnS w B e sz A l c xs) {k : Nat} (hk : k ≤ l) : OwnS w B e sz A k c (xs.take (k * sz)) := by
  have hm : k * sz ≤ l * sz := Nat.mul_le_mul_right sz hk
  refine ⟨by rw [List.length_take, h.1]; omega, ?_⟩
  rcases h.2 with ⟨rfl, rfl, rfl⟩ | ⟨g, o, cur, rfl, hb, hg, h1, h2, h3, h4⟩
  · exact .inl ⟨rfl, by omega, rfl⟩
  · refine .inr ⟨g, o, cur, rfl, hb, hg, by omega, h2, h3, ?_⟩
    rw [← h4, List.take_take, Nat.min_eq_left hm]
theorem Sep.cut {τ : Type} {w0 w : World} {S O : Nat → Prop} {L : Hold} (h : Sep w0 S O w L) (i : Nat) {c : Cod τ} {e : TypeId} {A : Option Addr} {l cap : Nat} {xs : List τ} (hi : L i = .own c e A l cap xs) {k : Nat} (hk : k ≤ xs.length) : Sep w0 S O w (stl L i (.own c e A k cap (xs.take k))) := by
  obtain ⟨hl, cells, ho, hE⟩ := h.own i hi
  have hsub : ∀ q, Bl O (stl L i (.own c e A k cap (xs.take k))) q → Bl O L q := Bl.sub_ro fun q hq => by rw [hi]; exact hq
  refine h.upd i _ (T := no) (Keeps.refl _ _) (fun _ _ q => q.elim) (fun q hq => .inl (by rw [hi]; exact hq)) ?_
  refine ⟨by rw [List.length_take]; omega, cells.take (k * c.sz), ho.cut (by omega), fun j x hx => ?_⟩
  rw [List.getElem?_take] at hx
  split at hx
  · rename_i hj
    obtain ⟨vs, h1, h2⟩ := hE j x hx
    refine ⟨vs, c.sub h1 fun q _ hq => hsub q hq, fun t u ht => ?_⟩
    have hlt : t < c.sz := by rw [← c.len h1]; exact (List.getElem?_eq_some_iff.1 ht).1
    have hm : (j + 1) * c.sz ≤ k * c.sz := Nat.mul_le_mul_right c.sz hj
    rw [Nat.add_mul] at hm
    rw [List.getElem?_take, if_pos (by omega)]
    exact h2 t u ht
  · cases hx
theorem Sep.cuti {τ : Type} {w0 w : World} {S O : Nat → Prop} {L : Hold} (h : Sep w0 S O w L) (i : Nat) {c : Cod τ} {e : TypeId} {A : Option Addr} {l cap : Nat} {xs : List τ} (hi : L i = .own c e A l cap xs) {k : Int} (hk : 0 ≤ k ∧ k ≤ ((xs.length : Nat) : Int)) : Sep w0 S O w (stl L i (.own c e A k.toNat cap (xs.take k.toNat))) := h.cut i hi (by omega)
theorem zero_made (z : Array Value) (n : Nat) : Builtin.zeroCells z n = madeCells z (n * z.size) := rfl
theorem zeroCells_flat {τ : Type} {f : Fl τ} {z : Array Value} {x : τ} (hz : z.toList = f.enc x) (n : Nat) : (Builtin.zeroCells z n).toList = (List.replicate n x).flatMap f.enc := by
  have hzs : z.size = f.sz := by rw [← Array.length_toList, hz, f.len]
  rw [zero_made, hzs]; exact madeCells_flat hz n
section
variable {P : Program} {w : World}
theorem run_append_Z (B : Nat) (t tx ty e : TypeId) (k : IntKind) (i : TypeInfo) (z : Value) (sz bytes : Nat) (ht : P.underlying t = some (.slice e)) (htx : P.underlying tx = some (.int k)) (hi : P.info? e = some i) (hz : i.zero = some z)
    (hsize : i.size = sz) (hby : i.bytes = bytes) (hzs : z.cells.size = sz) (hsz : 0 < sz) (h1 : ∀ u ∈ z.cells.toList, u.oneCell' = true)
    (A : Option Addr) (l cp : Nat) (xs : List Value) (hown : OwnS w B e sz A l cp xs) (m : Nat)
    (h63 : l + m ≤ maxLen) (hbytes : (l + m) * bytes ≤ 140737488355328) (hbase : B ≤ w.heap.size) :
    ∃ A' c' w', (Builtin.append_ #[t, tx] ty #[.slice A l cp, .int .i64 (m : Int)]).run P w = .ok (.slice A' (l + m) c') w' ∧ OwnS w' B e sz A' (l + m) c' (xs ++ (Builtin.zeroCells z.cells m).toList) ∧ w.grownBy w' (A.map (·.block)) ∧ (A'.map (·.block) = A.map (·.block) ∨ A'.map (·.block) = some w.heap.size) := by
  subst hsize
  subst hby
  have hm63 : m ≤ maxLen := by omega
  have hwrap : IntKind.i64.wrap (m : Int) = (m : Int) := by
    unfold maxLen at hm63
    rw [IntKind.wrap_i64]; omega
  have hb2 : m * i.bytes ≤ 140737488355328 := Nat.le_trans (Nat.mul_le_mul_right _ (by omega)) hbytes
  have hbm : ¬ (281474976710656 < (m : Int) * (i.bytes : Int)) := by
    rw [← Int.natCast_mul]; omega
  have hneg : ¬ ((m : Int) < 0) := by omega
  have hnl : (Builtin.zeroCells z.cells m).toList.length = m * i.size := by rw [Array.length_toList, size_zeroCells, hzs]
  have hlen : (xs ++ (Builtin.zeroCells z.cells m).toList).length = (l + m) * i.size := by rw [List.length_append, hown.1, hnl, Nat.add_mul]
  have hone : ∀ u ∈ (Builtin.zeroCells z.cells m).toList, u.oneCell' = true := fun u hu => by
    rw [zero_made, madeCells, Array.toList_map, List.mem_map] at hu
    obtain ⟨q, _, rfl⟩ := hu
    have hlt : q % z.cells.size < z.cells.size := Nat.mod_lt _ (by omega)
    rw [getElem!_pos z.cells (q % z.cells.size) hlt]
    exact h1 _ (by rw [Array.mem_toList_iff]; exact Array.getElem_mem hlt)
  have hz0 : ∀ q, (if q * i.size = 0 then (#[] : Array Value) else Builtin.zeroCells z.cells q) = Builtin.zeroCells z.cells q := fun q => by
    by_cases e0 : q * i.size = 0
    · rw [if_pos e0]
      have hq : q = 0 := by rcases Nat.mul_eq_zero.1 e0 with e | e <;> omega
      subst hq
      exact (Array.eq_empty_of_size_eq_zero (by rw [size_zeroCells]; simp)).symm
    · rw [if_neg e0]
  have happ : ∀ w' : World, ((if m * i.size = 0 then (pure #[] : Sem (Array Value)) else do pure (Builtin.zeroCells (← zeroValue e).cells m)) : Sem (Array Value)).run P w' = .ok (Builtin.zeroCells z.cells m) w' := fun w' => by
    by_cases e0 : m * i.size = 0
    · rw [if_pos e0]
      have := hz0 m
      rw [if_pos e0] at this
      rw [← this]; rfl
    · rw [if_neg e0]
      simp [zeroValue, typeInfo, hi, hz]
  have grown : ∀ (old : Nat), old < l + m → ∀ (row : Option Nat),
      OwnS (w.drew.alloc (.cells (xs.toArray ++ Builtin.zeroCells z.cells m ++ Builtin.zeroCells z.cells (grownCap w (l + m) old e - (l + m))) e)) B e i.size (some ⟨w.heap.size, 0, none⟩) (l + m) (grownCap w (l + m) old e) (xs ++ (Builtin.zeroCells z.cells m).toList) ∧
      w.grownBy (w.drew.alloc (.cells (xs.toArray ++ Builtin.zeroCells z.cells m ++ Builtin.zeroCells z.cells (grownCap w (l + m) old e - (l + m))) e)) row := by
    intro old ho row
    have hge := grownCap_ge w (l + m) old e
    have hcm : grownCap w (l + m) old e ≤ maxLen := grownCap_le_maxLen w (l + m) old e h63
    refine ⟨⟨hlen, .inr ⟨w.heap.size, 0, _, rfl, hbase, heap_alloc_new w.drew _, hge, hcm, ?_, ?_⟩⟩, ⟨rfl, rfl, rfl, by simp, fun k hk _ => (by first | exact heap_alloc_old w.drew _ k hk | exact heap_alloc_old w.drew _ hk)⟩⟩
    · simp only [Array.size_append, List.size_toArray, size_zeroCells, hzs, hown.1, ← Nat.add_mul]
      rw [Nat.zero_add]
      exact Nat.le_of_eq (by congr 1; omega)
    · simp only [Array.toList_append, List.append_assoc, List.drop_zero]
      rw [← List.append_assoc, ← hlen]
      exact List.take_left
  have growrun : ∀ (old : Nat) (base : Option Addr), 0 < m → ¬ (l + m ≤ old) → (Builtin.firstCells i.size l (.slice base l old)).run P w.drew = .ok xs.toArray w.drew →
      (Builtin.append_ #[t, tx] ty #[.slice base l old, .int .i64 (m : Int)]).run P w = .ok (.slice (some ⟨w.heap.size, 0, none⟩) (l + m) (grownCap w (l + m) old e)) (w.drew.alloc (.cells (xs.toArray ++ Builtin.zeroCells z.cells m ++ Builtin.zeroCells z.cells (grownCap w (l + m) old e - (l + m))) e)) := by
    intro old base hm0 hn hold
    have h63' : ¬ (9223372036854775807 < ((l : Int) + (m : Int))) := by unfold maxLen at h63; omega
    have h48' : ¬ (281474976710656 < Builtin.nextslicecap (l + m) old * i.bytes) := by
      have := growslice_fits (need := l + m) (old := old) (bytes := i.bytes) (by omega) hbytes; omega
    have e0 : ¬ (m * i.size = 0) := fun q => by rcases Nat.mul_eq_zero.1 q with e | e <;> omega
    simp [Builtin.append_, asInt, asIntOf, run_underlying ht, run_underlying htx, sizeOf, typeInfo, zeroValue, hi, hz, hwrap, hneg, hbm, hn, h63', h48', Question.forced, hold, e0, newRow, grownCap]
  rcases hown.2 with ⟨rfl, rfl, rfl⟩ | ⟨g, o, cur, rfl, hbg, hg, hnc, hcm, hcs, htake⟩
  · have hx : xs = [] := List.eq_nil_of_length_eq_zero (by simpa using hown.1)
    subst hx
    by_cases hm : m = 0
    · subst hm
      have hn : (Builtin.zeroCells z.cells 0).toList = [] := List.eq_nil_of_length_eq_zero (by simpa using hnl)
      rw [hn]
      refine ⟨none, 0, w, ?_, OwnS.nil w B e i.size, ⟨rfl, rfl, rfl, Nat.le_refl _, fun _ _ _ => rfl⟩, .inl rfl⟩
      have hw0 : IntKind.i64.wrap 0 = 0 := by simpa using hwrap
      simp [Builtin.append_, asInt, asIntOf, run_underlying ht, run_underlying htx, sizeOf, typeInfo, hi, hw0]
    · have hr := growrun 0 none (by omega) (by omega) (by simp [Builtin.firstCells])
      have hgr := grown 0 (by omega) none
      exact ⟨_, _, _, hr, hgr.1, hgr.2, .inr rfl⟩
  · by_cases hroom : l + m ≤ cp
    · have hfit : o + l * i.size + (Builtin.zeroCells z.cells m).toList.length ≤ cur.size := by
        have := Nat.mul_le_mul_right i.size hroom
        rw [Nat.add_mul] at this
        omega
      have hst := run_storeCells_at P g (o + l * i.size) e (Builtin.zeroCells z.cells m).toList 0 cur w hg (by simpa using hfit) hone
      simp only [Nat.add_zero] at hst
      have hadd : (⟨g, o, none⟩ : Addr).add (l * i.size) = ⟨g, o + l * i.size, none⟩ := Addr.add_mid _ _ _
      refine ⟨some ⟨g, o, none⟩, cp, w.setRow g (cur.toList.take (o + l * i.size) ++ (Builtin.zeroCells z.cells m).toList ++ cur.toList.drop (o + l * i.size + (Builtin.zeroCells z.cells m).toList.length)).toArray, ?_, ⟨hlen, .inr ⟨g, o, _, rfl, hbg, setRow_heap w g cur _ e _ hg, hroom, hcm, ?_, ?_⟩⟩, ⟨rfl, rfl, rfl, by simp, fun k _ hk => setRow_other w g k _ (fun e => hk (by simp [e]))⟩, .inl rfl⟩
      · have ha := happ w
        by_cases e0 : m * i.size = 0
        · have hz' : Builtin.zeroCells z.cells m = #[] := by rw [← hz0 m, if_pos e0]
          rw [hz'] at hst ⊢
          simp only [Array.toList_empty] at hst ⊢
          simp [Builtin.append_, asInt, asIntOf, run_underlying ht, run_underlying htx, sizeOf, typeInfo, zeroValue, hi, hz, hwrap, hneg, hbm, hroom, e0, hadd, hst]
        · simp [Builtin.append_, asInt, asIntOf, run_underlying ht, run_underlying htx, sizeOf, typeInfo, zeroValue, hi, hz, hwrap, hneg, hbm, hroom, e0, hadd, hst]
      · simp only [List.size_toArray, List.length_append, List.length_take, List.length_drop, Array.length_toList, hnl]
        rw [hnl] at hfit
        omega
      · have h2 : (cur.toList.take (o + l * i.size) ++ (Builtin.zeroCells z.cells m).toList ++ cur.toList.drop (o + l * i.size + (Builtin.zeroCells z.cells m).toList.length)).drop o = xs ++ (Builtin.zeroCells z.cells m).toList ++ cur.toList.drop (o + l * i.size + (Builtin.zeroCells z.cells m).toList.length) := by
          rw [List.append_assoc, List.drop_append_of_le_length (by simp; omega), List.drop_take, Nat.add_sub_cancel_left, htake, List.append_assoc]
        rw [List.toList_toArray, h2, ← hlen]
        exact List.take_left
    · have hxl : xs.length = l * i.size := hown.1
      have holds : ∀ j u, xs[j]? = some u → w.cell? ((⟨g, o, none⟩ : Addr).add j) = some u := by
        intro j u hj
        rw [Addr.add_mid]
        have hjl : j < l * i.size := by
          rcases Nat.lt_or_ge j xs.length with h | h
          · omega
          · rw [List.getElem?_eq_none h] at hj; cases hj
        rw [← htake, List.getElem?_take, if_pos hjl, List.getElem?_drop] at hj
        rw [cell_of_row w g (o + j) cur e (0, 0) hg]
        simpa using hj
      have hf := run_firstCells_some (P := P) w.drew i.size l ⟨g, o, none⟩ l cp xs hown.1 (by simpa using holds)
      have hr := growrun cp (some ⟨g, o, none⟩) (by omega) (by omega) hf
      have hgr := grown cp (by omega) (some g)
      exact ⟨_, _, _, hr, hgr.1, hgr.2, .inr rfl⟩
end
section
variable {P : Program} {E : Env} {d : Option Tmp} {x y : Operand} {ty xt yt : TypeId} {ps : String} {af : Array Edge} {g : Option (Nat × Bool)} {K : Value → World → Prop} {w0 w : World} {S O : Nat → Prop} {L : Hold}
theorem n_appz {τ : Type} {f : Fl τ} {e : TypeId} {z : Value} {k : IntKind} {n b : Nat} {A : Option Addr} {l cap : Nat} {xs : List τ} {q : Int} (x0 : τ) (hx : evE E x = .slice A l cap) (hy : evE E y = .int .i64 q) (hu : P.underlying xt = some (.slice e)) (hu2 : P.underlying yt = some (.int k)) (hi : (P.info? e).map (fun i => (i.zero, i.size, i.bytes)) = some (some z, n + 1, b)) (hz : z.cells.size = n + 1)
    (hn : f.sz = n + 1) (hb : b ≤ 128) (hzx : z.cells.toList = f.enc x0) (hS : Sep w0 S O w L) (i : Nat) (hL : L i = .own f.cod e A l cap xs) (hq : 0 ≤ q ∧ (xs.length : Int) + q ≤ 1000000000)
    (h : ∀ A' cap' w', Sep w0 S O w' (stl L i (.own f.cod e A' (l + q.toNat) cap' (xs ++ List.replicate q.toNat x0))) → K (.slice A' (l + q.toNat) cap') w') : ya3 P ⟨d, .call ⟨.builtin .append, #[x, y], #[xt, yt]⟩, ty, ps, af, g⟩ (evE E) w K := by
  obtain ⟨hl, cells, ho, hE⟩ := hS.own i hL
  obtain ⟨m, rfl⟩ : ∃ m : Nat, q = m := ⟨q.toNat, by omega⟩
  simp only [Int.toNat_natCast] at h ⊢
  have hby : (l + m) * b ≤ 140737488355328 := by
    have : (l + m) * b ≤ 1000000000 * 128 := Nat.mul_le_mul (by omega) hb
    omega
  obtain ⟨i0, hi0, hz0, hz1, hz2⟩ := info_parts hi
  have h1 : ∀ u ∈ z.cells.toList, u.oneCell' = true := fun u hu => by rw [hzx] at hu; exact f.one x0 u hu
  have hsz : f.cod.sz = n + 1 := hn
  rw [hsz] at ho
  obtain ⟨A', c'', w', hr, ho', hg, hbk⟩ := run_append_Z (P := P) (w := w) 0 xt yt ty e k i0 z (n + 1) b hu hu2 hi0 hz0 hz1 hz2 hz (by omega) h1 A l cap cells ho m (by unfold maxLen; omega) hby (Nat.zero_le _)
  unfold ya3 execOp
  simp only [resolve, hx, hy, List.map_toArray, List.map_cons, List.map_nil, Sem.run_bind, Sem.run_pure, Result.andThen, invoke, builtin, hr]
  rw [zeroCells_flat (f := f) hzx] at ho'
  refine h _ _ _ (hS.app i hL (ys := List.replicate m x0) (by simp) hE (news := (List.replicate m x0).flatMap f.enc) (fun k x hx => ?_) hl (by rw [hsz]; exact ho.1) (by rw [hsz]; exact ho') hg hbk)
  exact ⟨f.enc x, rfl, fun j u hj => encL_at hx hj⟩
end
section
variable {P : Program} {E : Env} {w : World} {d : Option Tmp} {x : Operand} {ty xt : TypeId} {ps : String} {af : Array Edge} {g : Option (Nat × Bool)}
theorem v_sliceN {y : Operand} {l : Nat} {e : TypeId} {k : IntKind} {i : Int} {zo : Option Value} {n b : Nat} (hx : evE E x = .slice none l 0) (hy : evE E y = .int k i) (hu : P.underlying xt = some (.slice e)) (hi : (P.info? e).map (fun i => (i.zero, i.size, i.bytes)) = some (zo, n, b))
    (h : 0 ≤ i ∧ i ≤ ((0 : Nat) : Int)) : (execOp (evE E) ⟨d, .slice xt x none (some y) none, ty, ps, af, g⟩).run P w = .ok (.value (.slice none 0 0)) w := by
  have := ydi (w := w) (d := d) (ty := ty) (ps := ps) (af := af) (g := g) hx hy hu hi h
  rw [show i.toNat = 0 by omega] at this
  exact this
theorem v_cap {s : Option Addr} {l c : Nat} {e : TypeId} (hx : evE E x = .slice s l c) (hu : P.underlying xt = some (.slice e)) : (execOp (evE E) ⟨d, .call ⟨.builtin .cap, #[x], #[xt]⟩, ty, ps, af, g⟩).run P w = .ok (.value (.int .i64 (c : Int))) w := by
  simp [execOp, hx, resolve, invoke, builtin, Builtin.cap_, go_sem, underlying, hu, goInt]
end
end Go.Proofs.Ytinoedockljfeaa

/- Maps' key types that are arrays of numbers. -/
namespace Go.Proofs.Ytinoedockljfeaa
open Go Go.RowKit Go.Shelf Go.Proofs.Try
theorem keyt_94 : KeyT Try.prog 94 2 := keyT_pair (m := 3) (by kernel_rfl) (by decide) (of_decide_eq_true (by kernel_rfl)) (by kernel_rfl) (by kernel_rfl) underlying94 ⟨rfl, rfl, by decide⟩ ⟨rfl, rfl, by decide⟩ underlying3 (by kernel_rfl) (by kernel_rfl) (of_decide_eq_true (by kernel_rfl))
end Go.Proofs.Ytinoedockljfeaa

/- A function's end whose results lie partly in memory; pointers that may be nil; products as elements. No program in sight. -/
namespace Go.Proofs.Ytinoedockljfeaa
open Go Go.RowKit Go.Shelf Go.Proofs.Try
set_option linter.unusedVariables false
set_option linter.unusedSimpArgs false
def RvE (P : Program) (E : Env) (w : World) : ResultVar → Value → Prop
  | .tmp t, v => E t = v
  | .cell t y, v => ∃ a, E t = .pointer (some a) ∧ (loadVar y a).run P w = .ok v w
section
variable {P : Program} {E : Env} {w : World} {t : Tmp} {y : TypeId}
theorem rv_t {v : Value} (h : E t = v) : RvE P E w (.tmp t) v := h
theorem rv_n {p : Addr} {u : TypeDesc} {vs : List Value} {zo : Option Value} {b : Nat} (h : E t = .pointer (some p)) (hu : P.underlying y = some u) (hn : aggD u = true) (hi : (P.info? y).map (fun i => (i.zero, i.size, i.bytes)) = some (zo, vs.length, b)) (hc : Cells w p 0 vs) : RvE P E w (.cell t y) (.agg vs.toArray) := by
  refine ⟨p, h, ?_⟩
  have := ydj (P := P) vs 0 #[] hc
  simp only [loadVar, Sem.run_bind, Result.andThen, ydm hu hn, ybp hi, if_true]
  simp only [loadCells, this, Sem.run_bind, Result.andThen, Sem.run_pure]
  simp
def rv1 (tmps : Array Value) : ResultVar → Sem Value
  | .tmp t => pure (tmps.getD t undef)
  | .cell a t => do loadVar t (← asAddr (tmps.getD a undef))
theorem rv1_run {rv : ResultVar} {v : Value} {N : Nat} {ds : List Deferred} {a : Act} (r : Rep N E ds a) (h : RvE P E w rv v) : (rv1 a.tmps rv).run P w = .ok v w := by
  cases rv with
  | tmp t =>
    show (Sem.run P (pure (a.tmps.getD t undef)) w) = _
    rw [r.get]
    rw [show E t = v from h]; rfl
  | cell t y =>
    obtain ⟨p, h1, h2⟩ := h
    show Sem.run P (do loadVar y (← asAddr (a.tmps.getD t undef))) w = _
    rw [r.get, h1]
    simp only [asAddr, Sem.run_bind, Sem.run_pure, Result.andThen, h2]
end
section
variable {P : Program} {fn : Func} {F : Fence} {n : Nat} {N : Nat} {t : List Item} {R : Ending → World → Prop} {E : Env} {w : World} {q1 q2 q3 : ResultVar} {v1 v2 v3 : Value}
theorem results_eq (fn : Func) (tmps : Array Value) : results fn tmps = (do let vs ← fn.results.mapM (rv1 tmps); pure (if h : vs.size = 1 then vs[0] else .tuple vs)) := rfl
theorem yeG (hr : fn.results = #[q1]) (h1 : RvE P E w q1 v1) (h : R (.returned v1) w) : WT F n P N (.code .ret :: t) (bodyPost P fn R) E [] w :=
  yeO fun a r => ⟨r.defers, _, by
    rw [results_eq, hr]
    simp [Sem.run_bind, Result.andThen, rv1_run r h1], h⟩
theorem ych (hr : fn.results = #[q1, q2]) (h1 : RvE P E w q1 v1) (h2 : RvE P E w q2 v2) (h : R (.returned (.tuple #[v1, v2])) w) : WT F n P N (.code .ret :: t) (bodyPost P fn R) E [] w :=
  yeO fun a r => ⟨r.defers, _, by
    rw [results_eq, hr]
    simp [Sem.run_bind, Result.andThen, rv1_run r h1, rv1_run r h2], h⟩
end
theorem bp6 {E : Env} {x1 x2 x3 x4 x5 x6 : Operand} {v1 v2 v3 v4 v5 v6 : Value} {i1 i2 i3 i4 i5 i6 : Nat} (h1 : evE E x1 = v1) (h2 : evE E x2 = v2) (h3 : evE E x3 = v3) (h4 : evE E x4 = v4) (h5 : evE E x5 = v5) (h6 : evE E x6 = v6) : #[(i1, x1), (i2, x2), (i3, x3), (i4, x4), (i5, x5), (i6, x6)].map (fun (i, x) => (i, evE E x)) = #[(i1, v1), (i2, v2), (i3, v3), (i4, v4), (i5, v5), (i6, v6)] := by simp [h1, h2, h3, h4, h5, h6]
end Go.Proofs.Ytinoedockljfeaa

/- The walks of package chips and of the small library functions that the checks use: what each returns, for all arguments. -/
namespace Go.Proofs.Ytinoedockljfeaa
open Go.RowKit Go.Proofs.Try
set_option maxRecDepth 100000
set_option maxHeartbeats 400000
def inF (k : Int) : Bool := decide (-1048576 ≤ k ∧ k ≤ 1048576)
def vertsF (n : Int) : Int := if 1 ≤ n ∧ n ≤ 12 then 0 else 2
def checkF (d : List Int) (n : Int) : Int :=
  if vertsF n = 0 then (if (d.length : Int) = n then (if d.all inF then 0 else 2) else 8) else 2
def cmpF (a b : Int) : Int := if a < b then -1 else if b < a then 1 else 0
theorem isNaN_any (a : Int) (w : World) : Calls Try.prog 94 #[.int .i64 a] w fun e w' => e = .returned (.bool false) ∧ w = w' := by
  go_enter func94, ntmps94
  go_wp2
  go_ret
  exact ⟨by simp, rfl⟩
theorem compare_any (a b : Int) (w : World) : Calls Try.prog 61 #[.int .i64 a, .int .i64 b] w fun e w' => e = .returned (.int .i64 (cmpF a b)) ∧ w = w' := by
  go_enter func61, ntmps61
  go_wp2_with (first | (go_at_call 94; refine (isNaN_any _ _).mono ?_; rintro e w' ⟨rfl, rfl⟩))
  all_goals go_ret
  all_goals refine ⟨ret_eq (int_eq ?_), rfl⟩
  all_goals unfold cmpF
  all_goals (split <;> try split)
  all_goals omega
def orF (x y : Int) : Int := if x ≠ 0 then x else y
theorem or_two (b off : Nat) (x y : Int) (w : World) (h0 : w.cell? ⟨b, off, none⟩ = some (.int .i64 x)) (h1 : w.cell? ⟨b, off + 1, none⟩ = some (.int .i64 y)) :
    Calls Try.prog 60 #[.slice (some ⟨b, off, none⟩) 2 2] w fun e w' => e = .returned (.int .i64 (orF x y)) ∧ w = w' := by
  go_enter func60, ntmps60
  go_wp2
  refine wp_loop_rounds 3 ?_
  repeat any_goals (rw [rounds_succ]; go_wp2)
  all_goals go_ret
  all_goals refine ⟨ret_eq (int_eq ?_), rfl⟩
  all_goals (unfold orF; simp_all)
end Go.Proofs.Ytinoedockljfeaa

/- The walk of graph.Check. -/
namespace Go.Proofs.Ytinoedockljfeaa
open Go.RowKit Go.Proofs.Try
set_option maxRecDepth 100000
set_option maxHeartbeats 400000
def yc6 (a b c d : Int) : Int := orF (cmpF a c) (cmpF b d)
def gchk (n : Int) : Int → Int → List E3 → Int
  | _, _, [] => 0
  | a, b, x :: t =>
    if (0 ≤ x.1 ∧ x.1 < n) ∧ (0 ≤ x.2.1 ∧ x.2.1 < n) ∧ 1 ≤ x.2.2 ∧ x.2.2 ≤ 50 then
      (if x.1 ≤ x.2.1 ∧ yc6 a b x.1 x.2.1 < 0 then gchk n x.1 x.2.1 t else 9)
    else 2
def yaZ (n : Int) (es : List E3) : Int := if 1 ≤ n ∧ n ≤ 12 then gchk n (-1) (-1) es else 2
end Go.Proofs.Ytinoedockljfeaa

/- The walks of the functions of package slices that the program uses, at slices of ints. -/
namespace Go.Proofs.Ytinoedockljfeaa
open Go.RowKit Go.Proofs.Try
set_option maxRecDepth 100000
set_option maxHeartbeats 400000
end Go.Proofs.Ytinoedockljfeaa

/- Forests that join vertices, in plain Lean: each vertex has one of its part that is not greater. -/
namespace Go.Proofs.Ytinoedockljfeaa
open Go.RowKit Go.Proofs.Try
def gn (l : List Nat) (k : Nat) : Nat := l.getD k 0
theorem gn_of_lt {l : List Nat} {k : Nat} (h : k < l.length) : gn l k = l[k] := by simp [gn, h]
theorem gn_set {l : List Nat} {k j : Nat} {x : Nat} (h : k < l.length) : gn (l.set k x) j = if j = k then x else gn l j := by
  unfold gn
  simp only [List.getD_eq_getElem?_getD, List.getElem?_set]
  by_cases e : j = k
  · subst e; simp [h]
  · rw [if_neg (by omega), if_neg e]
section
variable {w : World} {g : Nat} {e : TypeId} {size : Nat}
end
def nvals (xs : List Nat) : List Value := xs.map fun (n : Nat) => Value.int .i64 (Int.ofNat n)
def yg9 (F : List Nat) : Prop := F.length = 12 ∧ ∀ v, v < 12 → gn F v ≤ v
def yg5 (F : List Nat) : Nat → Nat → Nat
  | 0, v => v
  | k + 1, v => if gn F v = v then v else yg5 F k (gn F v)
def root (F : List Nat) (v : Nat) : Nat := yg5 F v v
theorem rootFuel_more {F : List Nat} (h : yg9 F) : ∀ (k v j : Nat), v < 12 → v ≤ k → v ≤ j → yg5 F k v = yg5 F j v := by
  intro k
  induction k using Nat.strongRecOn with
  | _ k ih =>
    intro v j hv hk hj
    have hle := h.2 v hv
    cases k with
    | zero =>
      obtain rfl : v = 0 := by omega
      have h0 : gn F 0 = 0 := by omega
      cases j with
      | zero => rfl
      | succ j => simp [yg5, h0]
    | succ k =>
      cases j with
      | zero =>
        obtain rfl : v = 0 := by omega
        have h0 : gn F 0 = 0 := by omega
        simp [yg5, h0]
      | succ j =>
        simp only [yg5]
        split
        · rfl
        · exact ih k (by omega) _ j (by omega) (by omega) (by omega)
theorem yg3 {F : List Nat} {v : Nat} (h : gn F v = v) : root F v = v := by
  unfold root
  cases v with
  | zero => rfl
  | succ v => simp [yg5, h]
theorem yhl {F : List Nat} (h : yg9 F) {v : Nat} (hv : v < 12) (hne : gn F v ≠ v) : root F v = root F (gn F v) := by
  have hle := h.2 v hv
  unfold root
  cases v with
  | zero => omega
  | succ v =>
    simp only [yg5]
    rw [if_neg hne]
    exact rootFuel_more h _ _ _ (by omega) (by omega) (Nat.le_refl _)
theorem yhg {F : List Nat} (h : yg9 F) : ∀ v, v < 12 → root F v ≤ v ∧ gn F (root F v) = root F v := by
  intro v
  induction v using Nat.strongRecOn with
  | _ v ih =>
    intro hv
    by_cases he : gn F v = v
    · rw [yg3 he]; exact ⟨Nat.le_refl _, he⟩
    · have hle := h.2 v hv
      rw [yhl h hv he]
      have := ih (gn F v) (by omega) (by omega)
      exact ⟨by omega, this.2⟩
theorem root_root {F : List Nat} (h : yg9 F) {v : Nat} (hv : v < 12) : root F (root F v) = root F v := yg3 (yhg h v hv).2
def yhe (F : List Nat) (a b : Nat) : List Nat := F.set (max (root F a) (root F b)) (min (root F a) (root F b))
theorem yha {F : List Nat} (h : yg9 F) {a b : Nat} (ha : a < 12) (hb : b < 12) : yg9 (yhe F a b) := by
  have h1 := yhg h a ha
  have h2 := yhg h b hb
  refine ⟨by simp [yhe, h.1], fun v hv => ?_⟩
  unfold yhe
  rw [gn_set (by rw [h.1]; omega)]
  split
  · omega
  · exact h.2 v hv
theorem root_joinN {F : List Nat} (h : yg9 F) {a b : Nat} (ha : a < 12) (hb : b < 12) : ∀ v, v < 12 →
    root (yhe F a b) v = if root F v = max (root F a) (root F b) then min (root F a) (root F b) else root F v := by
  have h1 := yhg h a ha
  have h2 := yhg h b hb
  have hJ := yha h ha hb
  have hg : ∀ j, gn (yhe F a b) j = if j = max (root F a) (root F b) then min (root F a) (root F b) else gn F j := fun j => by
    unfold yhe; exact gn_set (by rw [h.1]; omega)
  have hmin : root (yhe F a b) (min (root F a) (root F b)) = min (root F a) (root F b) := by
    apply yg3
    rw [hg]
    split
    · rfl
    · rcases Nat.le_total (root F a) (root F b) with hl | hl
      · rw [Nat.min_eq_left hl]; exact h1.2
      · rw [Nat.min_eq_right hl]; exact h2.2
  intro v
  induction v using Nat.strongRecOn with
  | _ v ih =>
    intro hv
    by_cases hM : v = max (root F a) (root F b)
    · have hrv : root F v = v := by
        apply yg3
        rw [hM]
        rcases Nat.le_total (root F a) (root F b) with hl | hl
        · rw [Nat.max_eq_right hl]; exact h2.2
        · rw [Nat.max_eq_left hl]; exact h1.2
      rw [hrv, if_pos hM]
      by_cases he : gn (yhe F a b) v = v
      · rw [yg3 he]
        rw [hg, if_pos hM] at he
        exact he.symm
      · rw [yhl hJ hv he, hg, if_pos hM, hmin]
    · by_cases he : gn F v = v
      · have he' : gn (yhe F a b) v = v := by rw [hg, if_neg hM]; exact he
        rw [yg3 he', yg3 he, if_neg hM]
      · have he' : gn (yhe F a b) v ≠ v := by rw [hg, if_neg hM]; exact he
        have hle := h.2 v hv
        rw [yhl hJ hv he', yhl h hv he, hg, if_neg hM]
        exact ih _ (by omega) (by omega)
def yhp : List Nat := List.range 12
theorem yhb : yg9 yhp := ⟨rfl, fun v hv => by rw [gn_of_lt (by simpa [yhp] using hv)]; simp [yhp]⟩
def ygX (es : List E3) : List Nat := es.foldl (fun F x => yhe F x.1.toNat x.2.1.toNat) yhp
def yhf (F : List Nat) : Nat → Nat
  | 0 => 0
  | n + 1 => yhf F n + if root F n = n then 1 else 0
def yhi (es : List E3) : Prop := ∀ x, x ∈ es → 0 ≤ x.1 ∧ x.1 < 12 ∧ 0 ≤ x.2.1 ∧ x.2.1 < 12
theorem yhh (es : List E3) (h : yhi es) : yg9 (ygX es) := by
  unfold ygX
  suffices H : ∀ (l : List E3) (F : List Nat), (∀ x, x ∈ l → 0 ≤ x.1 ∧ x.1 < 12 ∧ 0 ≤ x.2.1 ∧ x.2.1 < 12) → yg9 F → yg9 (l.foldl (fun F x => yhe F x.1.toNat x.2.1.toNat) F) from H es _ h yhb
  intro l
  induction l with
  | nil => exact fun F _ h => h
  | cons x l ih =>
    intro F hl hF
    have hx := hl x (by simp)
    exact ih _ (fun y hy => hl y (by simp [hy])) (yha hF (by omega) (by omega))
theorem yhi.take {es : List E3} (h : yhi es) (k : Nat) : yhi (es.take k) := fun x hx => h x (List.mem_of_mem_take hx)
end Go.Proofs.Ytinoedockljfeaa

/- The iterator over the single edges at a vertex, and the loop that adds up what a property picks. -/
namespace Go.Proofs.Ytinoedockljfeaa
open Go.RowKit Go.Shelf Go.Proofs.Try
attribute [local go_sem] Oper.semAt_some
set_option maxRecDepth 100000
set_option maxHeartbeats 8000000
def link (v : Int) (x : E3) : Option (Int × Int) := if x.1 ≠ x.2.1 ∧ (x.1 = v ∨ x.2.1 = v) then some (x.1 + x.2.1 - v, x.2.2) else none
def yde (es : List E3) (v : Int) : List (Int × Int) := es.filterMap (link v)
def KB (K : Nat → Prop) (W W' : World) : Prop := ∀ k, K k → W'.heap[k]? = W.heap[k]?
theorem KB.refl (K : Nat → Prop) (W : World) : KB K W W := fun _ _ => rfl
theorem KB.trans {K : Nat → Prop} {A B C : World} (h : KB K A B) (k : KB K B C) : KB K A C := fun i hi => (k i hi).trans (h i hi)
theorem KB.cell {K : Nat → Prop} {W W' : World} (h : KB K W W') {p : Addr} (hp : K p.block) {v : Value} (hc : W.cell? p = some v) : W'.cell? p = some v := by
  rw [World.cell?_of_block (w := W) (h p.block hp)]; exact hc
theorem KB.put {K : Nat → Prop} {w : World} (hK : ∀ k, K k → k < w.heap.size) (W : World) (l : Nat) (o o' : Obj) (hl : w.heap.size ≤ l) (_ : W.heap[l]? = some o) (_ : o.isCells = false) (_ : o.isWalk = false) : KB K W (W.putObj l o') :=
  fun k hk => by
    have h1 := hK k hk
    exact World.putObj_heap_other (by omega)
end Go.Proofs.Ytinoedockljfeaa

/- The loop that adds up the single edges from a vertex to those with a property. -/
namespace Go.Proofs.Ytinoedockljfeaa
open Go.RowKit Go.Shelf Go.Proofs.Try
attribute [local go_sem] Oper.semAt_some
set_option maxRecDepth 100000
set_option maxHeartbeats 8000000
def addF (p : Int → Bool) (l : List (Int × Int)) : Int := l.foldl (fun n x => if p x.1 then n + x.2 else n) 0
def yaP (es : List E3) (v : Int) (p : Int → Bool) : Int := addF p (yde es v)
end Go.Proofs.Ytinoedockljfeaa

/- The walk of reduced.begin: the state of a divisor. -/
namespace Go.Proofs.Ytinoedockljfeaa
open Go.RowKit Go.Proofs.Try
set_option maxRecDepth 100000
set_option maxHeartbeats 8000000
end Go.Proofs.Ytinoedockljfeaa

/- The walk of the fire that starts at q: the unburnt vertices of a state. -/
namespace Go.Proofs.Ytinoedockljfeaa
open Go.RowKit Go.Proofs.Try
set_option maxRecDepth 100000
set_option maxHeartbeats 4000000
def cf (b : List Bool) : Nat := (b.filter fun x => !x).length
theorem cf_set {b : List Bool} {v : Nat} (h : v < b.length) (hv : gb b v = false) : cf (b.set v true) + 1 = cf b := by
  unfold cf
  induction b generalizing v with
  | nil => simp at h
  | cons x b ih =>
    cases v with
    | zero =>
      simp [gb] at hv
      subst hv
      simp
    | succ v =>
      have := ih (v := v) (by simpa using h) (by simpa [gb] using hv)
      simp only [List.set_cons_succ, List.filter_cons]
      split
      · simp only [List.length_cons]; omega
      · omega
def Closed (n : Nat) (es : List E3) (d : List Int) (b : List Bool) : Prop := ∀ v, v < n → gb b v = false → yaP es (v : Int) (fun u => gb b u.toNat) ≤ gi d v
def Forced (n : Nat) (es : List E3) (q : Nat) (d : List Int) (b : List Bool) : Prop :=
  ∀ S : Nat → Bool, S q = false → (∀ v, v < n → S v = true → yaP es (v : Int) (fun u => !S u.toNat) ≤ gi d v) → ∀ v, v < n → S v = true → gb b v = false
theorem addF_mono {p p' : Int → Bool} (l : List (Int × Int)) (h : ∀ q ∈ l, 0 ≤ q.2) (hpp : ∀ q ∈ l, p q.1 = true → p' q.1 = true) : addF p l ≤ addF p' l := by
  suffices H : ∀ (l : List (Int × Int)) (a a' : Int), (∀ q ∈ l, 0 ≤ q.2) → (∀ q ∈ l, p q.1 = true → p' q.1 = true) → a ≤ a' → l.foldl (fun n x => if p x.1 then n + x.2 else n) a ≤ l.foldl (fun n x => if p' x.1 then n + x.2 else n) a' from H l 0 0 h hpp (Int.le_refl _)
  intro l
  induction l with
  | nil => intro a a' _ _ h; exact h
  | cons x l ih =>
    intro a a' h hpp hle
    rw [List.foldl_cons, List.foldl_cons]
    refine ih _ _ (fun q hq => h q (by simp [hq])) (fun q hq => hpp q (by simp [hq])) ?_
    have h0 := h x (by simp)
    have h1 := hpp x (by simp)
    by_cases hp : p x.1 = true
    · rw [if_pos hp, if_pos (h1 hp)]; omega
    · rw [if_neg hp]; split <;> omega
theorem yc1 {es : List E3} {n : Nat} (hE : ∀ x ∈ es, 0 ≤ x.1 ∧ x.1 < n ∧ 0 ≤ x.2.1 ∧ x.2.1 < n ∧ 0 ≤ x.2.2 ∧ x.2.2 ≤ 50) {v u m : Int} (h : (u, m) ∈ yde es v) : 0 ≤ u ∧ u < n ∧ 0 ≤ m ∧ m ≤ 50 := by
  obtain ⟨x, hx, hl⟩ := List.mem_filterMap.1 h
  have h1 := hE x hx
  unfold link at hl
  split at hl
  · simp only [Option.some.injEq, Prod.mk.injEq] at hl
    omega
  · cases hl
theorem Forced.step {n : Nat} {es : List E3} {q : Nat} {d : List Int} {b : List Bool} (h : Forced n es q d b) (hE : ∀ x ∈ es, 0 ≤ x.1 ∧ x.1 < n ∧ 0 ≤ x.2.1 ∧ x.2.1 < n ∧ 0 ≤ x.2.2 ∧ x.2.2 ≤ 50) {v : Nat} (hv : v < b.length) (hc : gi d v < yaP es (v : Int) (fun u => gb b u.toNat)) : Forced n es q d (b.set v true) := by
  intro S hq hS u hu hSu
  rw [yhq hv]
  by_cases e : u = v
  · subst e
    exfalso
    have h1 := hS u hu hSu
    have h2 : yaP es (u : Int) (fun x => gb b x.toNat) ≤ yaP es (u : Int) (fun x => !S x.toNat) := by
      unfold yaP
      refine addF_mono _ (fun q hq => (yc1 hE (v := (u : Int)) (u := q.1) (m := q.2) hq).2.2.1) (fun y hy hb => ?_)
      have hr := yc1 hE (v := (u : Int)) (u := y.1) (m := y.2) hy
      cases hs : S y.1.toNat with
      | false => rfl
      | true =>
        have := h S hq hS y.1.toNat (by omega) hs
        simp only [this] at hb
        cases hb
    omega
  · rw [if_neg e]
    exact h S hq hS u hu hSu
end Go.Proofs.Ytinoedockljfeaa

/- Words for contracts that are proved from shallow forms: rows of numbers and bools read and written by index, states, the links' iterator. -/
namespace Go.Proofs.Ytinoedockljfeaa
open Go Go.RowKit Go.Shelf Go.Proofs.Try
set_option linter.unusedVariables false
set_option maxRecDepth 100000
theorem ix_some {p : Addr} {l : Nat} {i : Int} (h0 : 0 ≤ i) (h1 : i < (l : Int)) : Ix (some p) l i := ⟨rfl, h0, h1⟩
theorem ixA_zero (g : Nat) (i : Int) (sz : Nat) : ixA (some ⟨g, 0, none⟩) i sz = ⟨g, i.toNat * sz, none⟩ := by simp [ixA, Addr.add_mid]
theorem ixA_one (g : Nat) (i : Int) : ixA (some ⟨g, 0, none⟩) i 1 = ⟨g, i.toNat, none⟩ := by simp [ixA_zero]
theorem ixA_off (g o : Nat) (i : Int) (sz : Nat) : ixA (some ⟨g, o, none⟩) i sz = ⟨g, o + i.toNat * sz, none⟩ := by simp [ixA, Addr.add_mid]
theorem add_zero_ (g k : Nat) : (⟨g, 0, none⟩ : Addr).add k = ⟨g, k, none⟩ := by simp [Addr.add_mid]
section
variable {w w' : World} {g : Nat} {e : TypeId} {size : Nat}
theorem Row.at_ {xs : List Value} (h : Row w g e size xs) (k : Nat) {v : Value} (hv : xs[k]? = some v) : w.cell? ((⟨g, 0, none⟩ : Addr).add k) = some v := by rw [add_zero_]; exact h.cell hv
theorem bwr {xs : List Bool} (h : BRow w g e size xs) {i : Int} (h0 : 0 ≤ i) (h1 : i < (xs.length : Int)) : Wr w (ixA (some ⟨g, 0, none⟩) i 1) := by
  rw [ixA_one]; exact ⟨by rw [bcell h (by omega)]; rfl, Row.frozen h _⟩
theorem bst {xs : List Bool} (h : BRow w g e size xs) (i : Int) (v : Bool) : BRow (w.setCell (ixA (some ⟨g, 0, none⟩) i 1) (.bool v)) g e size (xs.set i.toNat v) := by
  rw [ixA_one]; exact bset h _ _
end
end Go.Proofs.Ytinoedockljfeaa

/- Shallow forms of functions, made by program (sh.py), each with the proof that the code does so. -/
namespace Go.Proofs.Ytinoedockljfeaa
open Go Go.RowKit Go.Shelf Go.Proofs.Try
set_option linter.unusedVariables false
set_option maxRecDepth 100000
set_option maxHeartbeats 8000000
end Go.Proofs.Ytinoedockljfeaa

/- Shallow forms of functions, made by program (sh.py), each with the proof that the code does so. -/
namespace Go.Proofs.Ytinoedockljfeaa
open Go Go.RowKit Go.Shelf Go.Proofs.Try
set_option linter.unusedVariables false
set_option maxRecDepth 100000
set_option maxHeartbeats 8000000
end Go.Proofs.Ytinoedockljfeaa

/- The contracts of slices.Repeat at one number, of bits.Mul at small numbers, of slices.Max. -/
namespace Go.Proofs.Ytinoedockljfeaa
open Go Go.RowKit Go.Shelf Go.Proofs.Try
set_option linter.unusedVariables false
set_option linter.unusedSimpArgs false
set_option linter.unusedSectionVars false
set_option maxRecDepth 100000
set_option maxHeartbeats 8000000
end Go.Proofs.Ytinoedockljfeaa

/- Distances by a search in breadth: what its two lists say at each step. No program in sight. -/
namespace Go.Proofs.Ytinoedockljfeaa
open Go Go.Proofs.Try
set_option linter.unusedVariables false
set_option linter.unusedSimpArgs false
set_option linter.unusedSectionVars false
def Adj (es : List E3) (v u : Nat) : Prop := ∃ m, ((u : Int), m) ∈ yde es (v : Int)
theorem yb3 {es : List E3} {v u m : Int} : (u, m) ∈ yde es v ↔ ∃ x ∈ es, x.1 ≠ x.2.1 ∧ (x.1 = v ∨ x.2.1 = v) ∧ u = x.1 + x.2.1 - v ∧ m = x.2.2 := by
  unfold yde
  rw [List.mem_filterMap]
  constructor
  · rintro ⟨x, hx, hl⟩
    unfold link at hl
    split at hl
    · rename_i h
      simp only [Option.some.injEq, Prod.mk.injEq] at hl
      exact ⟨x, hx, h.1, h.2, hl.1.symm, hl.2.symm⟩
    · cases hl
  · rintro ⟨x, hx, h1, h2, rfl, rfl⟩
    exact ⟨x, hx, by unfold link; rw [if_pos ⟨h1, h2⟩]⟩
theorem Adj.symm {es : List E3} {v u : Nat} (h : Adj es v u) : Adj es u v := by
  obtain ⟨m, h⟩ := h
  obtain ⟨x, hx, h1, h2, h3, h4⟩ := yb3.1 h
  exact ⟨m, yb3.2 ⟨x, hx, h1, by omega, by omega, h4⟩⟩
def cu (o : List Int) : Nat := (o.filter fun x => decide (x < 0)).length
theorem cu_set {o : List Int} {v : Nat} {x : Int} (h : v < o.length) (hv : gi o v < 0) (hx : 0 ≤ x) : cu (o.set v x) + 1 = cu o := by
  unfold cu
  induction o generalizing v with
  | nil => simp at h
  | cons y o ih =>
    cases v with
    | zero =>
      simp [gi] at hv
      simp [List.filter_cons, hv, Int.not_lt.2 hx]
    | succ v =>
      have := ih (v := v) (by simpa using h) (by simpa [gi] using hv)
      simp only [List.set_cons_succ, List.filter_cons]
      split
      · simp only [List.length_cons]; omega
      · omega
structure BIn (n : Nat) (es : List E3) (q v : Nat) (pre : List (Int × Int)) (o : List Int) (Q : List Nat) : Prop where
  len : o.length = n
  vn : v < n
  v0 : 0 ≤ gi o v
  rng : ∀ a ∈ Q, a < n ∧ 0 ≤ gi o a
  q0 : gi o q = 0
  low : ∀ b, -1 ≤ gi o b
  val : ∀ b, gi o b + cu o ≤ (n : Int) - 1
  par : ∀ b, b < n → 0 < gi o b → ∃ u, u < n ∧ Adj es b u ∧ gi o u = gi o b - 1
  top : ∀ b, b < n → gi o b ≤ gi o v + 1
  bot : ∀ a ∈ Q, gi o v ≤ gi o a
  mono : Q.Pairwise fun a b => gi o a ≤ gi o b
  done : ∀ x, x < n → 0 ≤ gi o x → x ∉ Q → x ≠ v → gi o x ≤ gi o v ∧ ∀ u, Adj es x u → 0 ≤ gi o u ∧ gi o u ≤ gi o x + 1
  now : ∀ p ∈ pre, 0 ≤ gi o p.1.toNat ∧ gi o p.1.toNat ≤ gi o v + 1
  zero : ∀ b, b < n → gi o b = 0 → b = q
structure BInv (n : Nat) (es : List E3) (q : Nat) (o : List Int) (Q : List Nat) : Prop where
  len : o.length = n
  rng : ∀ a ∈ Q, a < n ∧ 0 ≤ gi o a
  q0 : gi o q = 0
  low : ∀ b, -1 ≤ gi o b
  val : ∀ b, gi o b + cu o ≤ (n : Int) - 1
  par : ∀ b, b < n → 0 < gi o b → ∃ u, u < n ∧ Adj es b u ∧ gi o u = gi o b - 1
  top : ∀ a ∈ Q, ∀ b, b < n → gi o b ≤ gi o a + 1
  mono : Q.Pairwise fun a b => gi o a ≤ gi o b
  done : ∀ x, x < n → 0 ≤ gi o x → x ∉ Q → (∀ a ∈ Q, gi o x ≤ gi o a) ∧ ∀ u, Adj es x u → 0 ≤ gi o u ∧ gi o u ≤ gi o x + 1
  zero : ∀ b, b < n → gi o b = 0 → b = q
theorem BInv.start {n : Nat} {es : List E3} {q : Nat} (hq : q < n) : BInv n es q ((List.replicate n (-1)).set q 0) [q] := by
  have hl : q < (List.replicate n (-1 : Int)).length := by simpa using hq
  have hs : ∀ b, gi ((List.replicate n (-1)).set q 0) b = if b = q then 0 else gi (List.replicate n (-1)) b := fun b => ydQ hl
  have hr : ∀ b, b < n → gi (List.replicate n (-1)) b = -1 := fun b hb => by rw [ybl (by simpa using hb)]; simp
  have hr2 : ∀ b, gi (List.replicate n (-1)) b = -1 ∨ gi (List.replicate n (-1)) b = 0 := fun b => by
    rcases Nat.lt_or_ge b n with h | h
    · exact .inl (hr b h)
    · exact .inr (gi_ge (by simpa using h))
  have hc0 : ∀ n : Nat, cu (List.replicate n (-1)) = n := by
    intro n
    unfold cu
    rw [List.filter_eq_self.2 (fun x hx => by rw [(List.mem_replicate.1 hx).2]; rfl)]
    simp
  have hc := cu_set hl (by rw [hr q hq]; omega) (x := 0) (by omega)
  rw [hc0] at hc
  refine ⟨by simp, fun a ha => ?_, by rw [hs, if_pos rfl], fun b => ?_, fun b => ?_, fun b hb h0 => ?_, fun a ha b hb => ?_, by simp, fun x hx h0 hn => ?_, fun b hb h0 => by
    rw [hs, hr b hb] at h0
    split at h0
    · assumption
    · omega⟩
  · simp only [List.mem_singleton] at ha; subst ha; exact ⟨hq, by rw [hs, if_pos rfl]; omega⟩
  · rw [hs]; rcases hr2 b with h | h <;> split <;> omega
  · rw [hs]
    rcases hr2 b with h | h
    · split <;> omega
    · split <;> omega
  · rw [hs] at h0; rw [hr b hb] at h0; split at h0 <;> omega
  · simp only [List.mem_singleton] at ha; subst ha; rw [hs, hs a, if_pos rfl, hr b hb]; split <;> omega
  · exfalso
    rw [hs, hr x hx] at h0
    split at h0
    · rename_i e; exact hn (by simp [e])
    · omega
structure Dist (n : Nat) (es : List E3) (q : Nat) (o : List Int) : Prop where
  len : o.length = n
  q0 : gi o q = 0
  low : ∀ b, -1 ≤ gi o b
  high : ∀ b, gi o b ≤ (n : Int) - 1
  par : ∀ b, b < n → 0 < gi o b → ∃ u, u < n ∧ Adj es b u ∧ gi o u = gi o b - 1
  step : ∀ x, x < n → 0 ≤ gi o x → ∀ u, Adj es x u → 0 ≤ gi o u ∧ gi o u ≤ gi o x + 1
  zero : ∀ b, b < n → gi o b = 0 → b = q
end Go.Proofs.Ytinoedockljfeaa

/- The contract of distances: a search in breadth from q. -/
namespace Go.Proofs.Ytinoedockljfeaa
open Go Go.RowKit Go.Shelf Go.Proofs.Try
set_option linter.unusedVariables false
set_option maxRecDepth 100000
set_option maxHeartbeats 8000000
theorem OwnS.cell {w : World} {B : Nat} {e : TypeId} {A : Option Addr} {l c : Nat} {xs : List Value} (h : OwnS w B e 1 A l c xs) {i : Int} (h0 : 0 ≤ i) {v : Value} (hv : xs[i.toNat]? = some v) : Ix A l i ∧ w.cell? (ixA A i 1) = some v := by
  have hl : xs.length = l := by simpa using h.1
  have hlt : i.toNat < xs.length := (List.getElem?_eq_some_iff.1 hv).1
  rcases h.2 with ⟨rfl, h1, _⟩ | ⟨g, o, cur, rfl, hB, hg, hlc, hcm, hcs, ht⟩
  · omega
  · refine ⟨ix_some h0 (by omega), ?_⟩
    rw [ixA_off, cell_of_row w g _ cur e (0, 0) hg]
    rw [← ht, List.getElem?_take, if_pos (by omega), List.getElem?_drop] at hv
    simpa using hv
theorem OwnS.keep {w w' : World} {B : Nat} {e : TypeId} {sz : Nat} {A : Option Addr} {l c : Nat} {xs : List Value} (h : OwnS w B e sz A l c xs) (hk : ∀ a, A = some a → w'.heap[a.block]? = w.heap[a.block]?) : OwnS w' B e sz A l c xs := by
  refine ⟨h.1, ?_⟩
  rcases h.2 with h1 | ⟨g, o, cur, rfl, hB, hg, rest⟩
  · exact .inl h1
  · exact .inr ⟨g, o, cur, rfl, hB, (hk _ rfl).trans hg, rest⟩
theorem OwnS.lt {w : World} {B : Nat} {e : TypeId} {sz : Nat} {A : Option Addr} {l c : Nat} {xs : List Value} (h : OwnS w B e sz A l c xs) {a : Addr} (ha : A = some a) : B ≤ a.block ∧ a.block < w.heap.size := by
  rcases h.2 with ⟨h1, _⟩ | ⟨g, o, cur, h1, hB, hg, rest⟩
  · rw [h1] at ha; cases ha
  · rw [h1] at ha; cases ha; exact ⟨hB, (Array.getElem?_eq_some_iff.1 hg).1⟩
structure QI (w0 : World) (B gO gQ n : Nat) (es : List E3) (q : Nat) (m : Nat) (w : World) (o : List Int) (Q : List Nat) (A : Option Addr) (l c : Nat) : Prop where
  len : l = Q.length
  mes : 2 * cu o + Q.length ≤ m
  out : IRow w gO 3 n o
  box : Row w gQ 27 1 [.slice A l c]
  own : OwnS w B 3 1 A l c (Q.map fun (x : Nat) => Value.int .i64 (x : Int))
  pure : Pure w0 w
end Go.Proofs.Ytinoedockljfeaa

/- The contract of fire: a set of vertices fires some times. -/
namespace Go.Proofs.Ytinoedockljfeaa
open Go Go.RowKit Go.Shelf Go.Proofs.Try
set_option linter.unusedVariables false
set_option maxRecDepth 100000
set_option maxHeartbeats 8000000
def pay (t : Int) (v : Nat) (d : List Int) (x : Int × Int) : List Int := (d.set v (gi d v - x.2 * t)).set x.1.toNat (gi (d.set v (gi d v - x.2 * t)) x.1.toNat + x.2 * t)
def yeV (t : Int) (v : Nat) (l : List (Int × Int)) (d : List Int) : List Int := l.foldl (pay t v) d
def ydz (es : List E3) (inn : List Bool) (t : Int) (d : List Int) : Nat → List Int
  | 0 => d
  | k + 1 => if gb inn k then yeV t k (yde es k) (ydz es inn t d k) else ydz es inn t d k
def ycP (inn : List Bool) (t : Int) (s : List Int) : Nat → List Int
  | 0 => s
  | k + 1 => if gb inn k then (ycP inn t s k).set k (gi (ycP inn t s k) k + t) else ycP inn t s k
theorem payAll_length (t : Int) (v : Nat) (l : List (Int × Int)) : ∀ d, (yeV t v l d).length = d.length := by
  unfold yeV
  induction l with
  | nil => intro d; rfl
  | cons x l ih => intro d; rw [List.foldl_cons, ih]; simp [pay]
theorem ycw (es : List E3) (inn : List Bool) (t : Int) (d : List Int) : ∀ k, (ydz es inn t d k).length = d.length
  | 0 => rfl
  | k + 1 => by
    rw [ydz]; split
    · rw [payAll_length, ycw es inn t d k]
    · exact ycw es inn t d k
theorem ycs (inn : List Bool) (t : Int) (s : List Int) : ∀ k, (ycP inn t s k).length = s.length
  | 0 => rfl
  | k + 1 => by
    rw [ycP]; split
    · rw [List.length_set, ycs inn t s k]
    · exact ycs inn t s k
theorem fireS_gi (inn : List Bool) (t : Int) (s : List Int) : ∀ k i, k ≤ s.length → gi (ycP inn t s k) i = if i < k ∧ gb inn i = true then gi s i + t else gi s i
  | 0, i, _ => by simp [ycP]
  | k + 1, i, hk => by
    have ih := fireS_gi inn t s k
    rw [ycP]
    by_cases hb : gb inn k = true
    · rw [if_pos hb, ydQ (by rw [ycs]; omega)]
      by_cases e : i = k
      · subst e; rw [if_pos rfl, if_pos ⟨by omega, hb⟩, ih i (by omega), if_neg (by omega)]
      · rw [if_neg e, ih i (by omega)]
        by_cases h2 : i < k ∧ gb inn i = true
        · rw [if_pos h2, if_pos ⟨by omega, h2.2⟩]
        · rw [if_neg h2, if_neg (fun h => h2 ⟨by omega, h.2⟩)]
    · rw [if_neg hb, ih i (by omega)]
      by_cases h2 : i < k ∧ gb inn i = true
      · rw [if_pos h2, if_pos ⟨by omega, h2.2⟩]
      · rw [if_neg h2, if_neg (fun h => by
          by_cases e : i = k
          · subst e; exact hb h.2
          · exact h2 ⟨by omega, h.2⟩)]
def Bnd (M : Int) (d : List Int) : Prop := ∀ i, -M ≤ gi d i ∧ gi d i ≤ M
def bigAt (d s : List Int) (j : Nat) : Bool := decide (2097152 < gi d j ∨ 2097152 < -gi d j ∨ 2097152 < gi s j ∨ 2097152 < -gi s j)
def fireE (d s : List Int) (e : Int) : Nat → Int
  | 0 => e
  | j + 1 => if bigAt d s j = true ∧ fireE d s e j = 0 then 11 else fireE d s e j
end Go.Proofs.Ytinoedockljfeaa

/- The contract of settle: unburnt sets fire until there are none. What fires well is a premise (Good), so that the numbers are plain Lean elsewhere. -/
namespace Go.Proofs.Ytinoedockljfeaa
open Go Go.RowKit Go.Shelf Go.Proofs.Try
set_option linter.unusedVariables false
set_option maxRecDepth 100000
set_option maxHeartbeats 8000000
def yb7 (es : List E3) (left : List Bool) (d : List Int) : Nat → Int
  | 0 => 0
  | k + 1 => if gb left k = true ∧ 0 < yaP es (k : Int) (fun u => !gb left u.toNat) then
      (if yb7 es left d k = 0 ∨ (gi d k).tdiv (yaP es (k : Int) (fun u => !gb left u.toNat)) < yb7 es left d k then (gi d k).tdiv (yaP es (k : Int) (fun u => !gb left u.toNat)) else yb7 es left d k)
    else yb7 es left d k
structure Burns (n : Nat) (es : List E3) (q : Nat) (d : List Int) (burnt : List Bool) : Prop where
  len : burnt.length = n
  at_q : gb burnt q = true
  closed : Closed n es d burnt
  forced : Forced n es q d burnt
def leftOf (burnt : List Bool) : List Bool := burnt.map (!·)
end Go.Proofs.Ytinoedockljfeaa

/- The contracts of slices.Max and of lend: from the farthest vertices on, the nearer ones fire. What fires well is a premise (Good). -/
namespace Go.Proofs.Ytinoedockljfeaa
open Go Go.RowKit Go.Shelf Go.Proofs.Try
set_option linter.unusedVariables false
set_option maxRecDepth 100000
set_option maxHeartbeats 8000000
def yew (l : List Int) : Nat → Int
  | 0 => gi l 0
  | k + 1 => mxF (yew l k) (gi l k)
theorem maxTo_ge (l : List Int) : ∀ (k j : Nat), j < k → gi l j ≤ yew l k
  | k + 1, j, h => by
    rw [yew, mxF_eq]
    by_cases e : j = k
    · subst e; exact Int.le_max_right _ _
    · exact Int.le_trans (maxTo_ge l k j (by omega)) (Int.le_max_left _ _)
theorem maxTo_mem (l : List Int) : ∀ k, k ≤ l.length → 0 < l.length → ∃ j, j < l.length ∧ yew l k = gi l j
  | 0, _, h => ⟨0, h, rfl⟩
  | k + 1, h, h0 => by
    obtain ⟨j, hj, e⟩ := maxTo_mem l k (by omega) h0
    rw [yew]
    unfold mxF
    split
    · exact ⟨k, by omega, rfl⟩
    · exact ⟨j, hj, e⟩
def yaW (o : List Int) (k : Int) : List Bool := o.map fun x => decide (x < k)
theorem ydB {o : List Int} {k : Int} {j : Nat} (h : j < o.length) : gb (yaW o k) j = decide (gi o j < k) := by
  rw [yd4 (by simpa [yaW] using h), ybl h]
  simp [yaW]
def yb6 (es : List E3) (o : List Int) (k : Int) (d : List Int) : Nat → Int
  | 0 => 0
  | j + 1 => if gi o j = k ∧ gi d j < 0 then mxF (yb6 es o k d j) ((-gi d j + yaP es (j : Int) (fun u => gb (yaW o k) u.toNat) - 1).tdiv (yaP es (j : Int) (fun u => gb (yaW o k) u.toNat))) else yb6 es o k d j
theorem addF_pos {p : Int → Bool} {l : List (Int × Int)} (h : ∀ q ∈ l, 0 ≤ q.2) {x : Int × Int} (hx : x ∈ l) (hp : p x.1 = true) (hx1 : 1 ≤ x.2) : 1 ≤ addF p l := by
  suffices H : ∀ (l : List (Int × Int)) (a : Int), (∀ q ∈ l, 0 ≤ q.2) → a ≤ l.foldl (fun n x => if p x.1 then n + x.2 else n) a ∧ (x ∈ l → a + 1 ≤ l.foldl (fun n x => if p x.1 then n + x.2 else n) a) by
    have := (H l 0 h).2 hx
    unfold addF; omega
  intro l
  induction l with
  | nil => intro a _; simp
  | cons y l ih =>
    intro a h
    have h1 := ih (if p y.1 then a + y.2 else a) (fun q hq => h q (by simp [hq]))
    have hy := h y (by simp)
    rw [List.foldl_cons]
    refine ⟨?_, fun hm => ?_⟩
    · split at h1 <;> rename_i hpy <;> simp only [hpy] at h1 ⊢ <;> simp at h1 ⊢ <;> omega
    · rcases List.mem_cons.1 hm with rfl | hm
      · rw [if_pos hp] at h1 ⊢; omega
      · have h2 := h1.2 hm
        split at h2 <;> rename_i hpy <;> simp only [hpy] at h2 ⊢ <;> simp at h2 ⊢ <;> omega
theorem near_pos {n : Nat} {es : List E3} {q : Nat} {o : List Int} (hD : Dist n es q o) (hE1 : ∀ x ∈ es, 1 ≤ x.2.2) {v k : Nat} (hv : v < n) (hk : gi o v = (k : Int) + 1) : 1 ≤ yaP es (v : Int) (fun u => gb (yaW o ((k : Int) + 1)) u.toNat) := by
  obtain ⟨u, hu, ⟨m, hm⟩, ho⟩ := hD.par v hv (by omega)
  have hpos : ∀ p ∈ yde es (v : Int), 1 ≤ p.2 := fun p hp => by
    obtain ⟨x, hx, _, _, _, h4⟩ := (yb3 (u := p.1) (m := p.2)).1 hp
    rw [h4]; exact hE1 x hx
  refine addF_pos (fun p hp => by have := hpos p hp; omega) hm ?_ (hpos _ hm)
  simp only [Int.toNat_natCast]
  rw [ydB (by rw [hD.len]; exact hu)]
  simp; omega
end Go.Proofs.Ytinoedockljfeaa

/- Sums, weights, the Laplacian, and what firing does to the chips. No program in sight. -/
namespace Go.Proofs.Ytinoedockljfeaa
open Go Go.Proofs.Try
set_option linter.unusedVariables false
def sm : Nat → (Nat → Int) → Int
  | 0, _ => 0
  | n + 1, f => sm n f + f n
theorem yaR {f g : Nat → Int} : ∀ {n : Nat}, (∀ i, i < n → f i = g i) → sm n f = sm n g
  | 0, _ => rfl
  | n + 1, h => by rw [sm, sm, yaR (fun i hi => h i (by omega)), h n (by omega)]
theorem yc7 : ∀ n, sm n (fun _ => 0) = 0
  | 0 => rfl
  | n + 1 => by rw [sm, yc7 n]; rfl
theorem ydn (f g : Nat → Int) : ∀ n, sm n (fun i => f i + g i) = sm n f + sm n g
  | 0 => rfl
  | n + 1 => by simp only [sm, ydn f g n]; omega
theorem sm_sub (f g : Nat → Int) : ∀ n, sm n (fun i => f i - g i) = sm n f - sm n g
  | 0 => rfl
  | n + 1 => by simp only [sm, sm_sub f g n]; omega
theorem sm_mul (c : Int) (f : Nat → Int) : ∀ n, sm n (fun i => c * f i) = c * sm n f
  | 0 => by simp [sm]
  | n + 1 => by simp only [sm, sm_mul c f n, Int.mul_add]
theorem yeQ {f g : Nat → Int} : ∀ {n : Nat}, (∀ i, i < n → f i ≤ g i) → sm n f ≤ sm n g
  | 0, _ => Int.le_refl _
  | n + 1, h => by
    have h1 := yeQ (fun i hi => h i (by omega) : ∀ i, i < n → f i ≤ g i)
    have h2 := h n (by omega)
    rw [sm, sm]; omega
theorem ybD {f : Nat → Int} {n : Nat} (h : ∀ i, i < n → 0 ≤ f i) : 0 ≤ sm n f := by
  have := yeQ h
  rwa [yc7] at this
theorem sm_ge {f : Nat → Int} : ∀ {n : Nat}, (∀ i, i < n → 0 ≤ f i) → ∀ j, j < n → f j ≤ sm n f
  | n + 1, h, j, hj => by
    have h1 := ybD (fun i hi => h i (by omega) : ∀ i, i < n → 0 ≤ f i)
    have h2 := h n (by omega)
    rw [sm]
    by_cases e : j = n
    · subst e; omega
    · have := sm_ge (fun i hi => h i (by omega) : ∀ i, i < n → 0 ≤ f i) j (by omega); omega
theorem sm_swap (f : Nat → Nat → Int) (m : Nat) : ∀ n, sm n (fun i => sm m (fun j => f i j)) = sm m (fun j => sm n (fun i => f i j))
  | 0 => by simp only [sm]; rw [yc7]
  | n + 1 => by
    simp only [sm]
    rw [sm_swap f m n, ← ydn]
theorem yfO (c : Int) : ∀ {n j : Nat}, j < n → sm n (fun i => if i = j then c else 0) = c
  | n + 1, j, h => by
    rw [sm]
    by_cases e : j = n
    · subst e
      rw [if_pos rfl, yaR (g := fun _ => 0) (fun i hi => if_neg (by omega)), yc7]; omega
    · rw [yfO c (by omega : j < n), if_neg (by omega)]; omega
def addG (p : Int → Bool) : List (Int × Int) → Int
  | [] => 0
  | x :: l => (if p x.1 then x.2 else 0) + addG p l
theorem yel (p : Int → Bool) (l : List (Int × Int)) : addF p l = addG p l := by
  suffices H : ∀ (l : List (Int × Int)) (a : Int), l.foldl (fun n x => if p x.1 then n + x.2 else n) a = a + addG p l by
    unfold addF; rw [H]; omega
  intro l
  induction l with
  | nil => intro a; simp [addG]
  | cons x l ih => intro a; rw [List.foldl_cons, ih, addG]; split <;> omega
theorem addG_sum {n : Nat} (p : Int → Bool) : ∀ (l : List (Int × Int)), (∀ x ∈ l, 0 ≤ x.1 ∧ x.1 < n) → addG p l = sm n (fun u => if p (u : Int) then addG (fun x => x == (u : Int)) l else 0)
  | [], _ => by
    rw [addG, yaR (g := fun _ => 0) (fun i _ => by simp [addG]), yc7]
  | x :: l, h => by
    have hx := h x (by simp)
    have ih := addG_sum p l (fun y hy => h y (by simp [hy]))
    have h1 : sm n (fun u => if p (u : Int) then addG (fun y => y == (u : Int)) (x :: l) else 0) = sm n (fun u => (if u = x.1.toNat then (if p x.1 then x.2 else 0) else 0) + (if p (u : Int) then addG (fun y => y == (u : Int)) l else 0)) := by
      refine yaR (fun u hu => ?_)
      simp only [addG]
      by_cases e : u = x.1.toNat
      · have e2 : x.1 = (u : Int) := by omega
        rw [if_pos e, e2]
        simp only [beq_self_eq_true, if_true]
        split <;> omega
      · have e2 : (x.1 == (u : Int)) = false := by simp; omega
        rw [if_neg e]
        simp only [e2, Bool.false_eq_true, if_false]
        split <;> omega
    rw [h1, ydn, yfO _ (by omega), addG, ih]
def W (es : List E3) (v u : Nat) : Int := yaP es (v : Int) (fun x => x == (u : Int))
def EOk (n : Nat) (es : List E3) : Prop := ∀ x ∈ es, 0 ≤ x.1 ∧ x.1 < n ∧ 0 ≤ x.2.1 ∧ x.2.1 < n ∧ 1 ≤ x.2.2 ∧ x.2.2 ≤ 50
theorem EOk.range {n : Nat} {es : List E3} (h : EOk n es) : ∀ x ∈ es, 0 ≤ x.1 ∧ x.1 < n ∧ 0 ≤ x.2.1 ∧ x.2.1 < n ∧ 0 ≤ x.2.2 ∧ x.2.2 ≤ 50 := fun x hx => by have := h x hx; omega
theorem ydw {n : Nat} {es : List E3} (h : EOk n es) (v : Nat) (p : Int → Bool) : yaP es (v : Int) p = sm n (fun u => if p (u : Int) then W es v u else 0) := by
  have h1 : ∀ x ∈ yde es (v : Int), 0 ≤ x.1 ∧ x.1 < n := fun x hx => by
    have := yc1 h.range (v := (v : Int)) (u := x.1) (m := x.2) hx; omega
  unfold yaP
  rw [yel, addG_sum p _ h1]
  refine yaR fun u _ => ?_
  unfold W yaP
  rw [yel]
def w1 (x : E3) (v u : Nat) : Int := if x.1 ≠ x.2.1 ∧ ((x.1 = v ∧ x.2.1 = u) ∨ (x.1 = u ∧ x.2.1 = v)) then x.2.2 else 0
theorem W_cons (x : E3) (es : List E3) (v u : Nat) : W (x :: es) v u = w1 x v u + W es v u := by
  unfold W yaP yde w1
  rw [yel, yel, List.filterMap_cons]
  unfold link
  by_cases c : x.1 ≠ x.2.1 ∧ (x.1 = v ∨ x.2.1 = v)
  · rw [if_pos c]
    simp only [addG]
    by_cases e : x.1 + x.2.1 - v = u
    · rw [if_pos (by simpa using e), if_pos ⟨c.1, by omega⟩]
    · rw [if_neg (by simpa using e), if_neg (fun h => by omega)]
  · simp only [if_neg c]
    rw [if_neg (fun h => c ⟨h.1, by omega⟩)]
    omega
theorem W_nil (v u : Nat) : W [] v u = 0 := rfl
theorem w1_symm (x : E3) (v u : Nat) : w1 x v u = w1 x u v := by
  unfold w1
  by_cases c : x.1 ≠ x.2.1 ∧ ((x.1 = v ∧ x.2.1 = u) ∨ (x.1 = u ∧ x.2.1 = v))
  · rw [if_pos c, if_pos ⟨c.1, by omega⟩]
  · rw [if_neg c, if_neg (fun h => c ⟨h.1, by omega⟩)]
theorem yho : ∀ (es : List E3) (v u : Nat), W es v u = W es u v
  | [], v, u => rfl
  | x :: es, v, u => by rw [W_cons, W_cons, w1_symm, yho es v u]
theorem W_self : ∀ (es : List E3) (v : Nat), W es v v = 0
  | [], v => rfl
  | x :: es, v => by
    rw [W_cons, W_self es v]
    unfold w1
    rw [if_neg (fun h => h.1 (by omega))]; rfl
theorem ybY {n : Nat} {es : List E3} (h : EOk n es) : ∀ v u, 0 ≤ W es v u := by
  induction es with
  | nil => intro v u; rw [W_nil]; omega
  | cons x es ih =>
    intro v u
    have h1 := ih (fun y hy => h y (by simp [hy])) v u
    have h2 := h x (by simp)
    rw [W_cons]
    unfold w1
    split <;> omega
theorem W_adj {n : Nat} {es : List E3} (h : EOk n es) {v u : Nat} : 0 < W es v u ↔ Adj es v u := by
  induction es with
  | nil => rw [W_nil]; constructor; (intro h; omega); rintro ⟨m, hm⟩; exact absurd hm (by simp [yde])
  | cons x es ih =>
    have h1 := ih (fun y hy => h y (by simp [hy]))
    have h2 := h x (by simp)
    have h3 := ybY (fun y hy => h y (by simp [hy]) : EOk n es) v u
    rw [W_cons]
    have h4 : Adj (x :: es) v u ↔ (x.1 ≠ x.2.1 ∧ ((x.1 = v ∧ x.2.1 = u) ∨ (x.1 = u ∧ x.2.1 = v))) ∨ Adj es v u := by
      constructor
      · rintro ⟨m, hm⟩
        obtain ⟨y, hy, q1, q2, q3, q4⟩ := yb3.1 hm
        rcases List.mem_cons.1 hy with rfl | hy
        · exact .inl ⟨q1, by omega⟩
        · exact .inr ⟨m, yb3.2 ⟨y, hy, q1, q2, q3, q4⟩⟩
      · rintro (q | ⟨m, hm⟩)
        · exact ⟨x.2.2, yb3.2 ⟨x, by simp, q.1, by omega, by omega, rfl⟩⟩
        · obtain ⟨y, hy, q1, q2, q3, q4⟩ := yb3.1 hm
          exact ⟨m, yb3.2 ⟨y, by simp [hy], q1, q2, q3, q4⟩⟩
    rw [h4, ← h1]
    unfold w1
    constructor
    · intro hh
      split at hh
      · rename_i c; exact .inl c
      · exact .inr (by omega)
    · rintro (c | c)
      · rw [if_pos c]; omega
      · split <;> omega
def Lp (n : Nat) (es : List E3) (s : Nat → Int) (v : Nat) : Int := sm n (fun u => W es v u * (s v - s u))
def deg (n : Nat) (es : List E3) (v : Nat) : Int := sm n (fun u => W es v u)
theorem gi_pay {t : Int} {v : Nat} {x : Int × Int} {d : List Int} (hv : v < d.length) (hu : x.1.toNat < d.length) (hne : x.1.toNat ≠ v) (i : Nat) :
    gi (pay t v d x) i = gi d i - (if i = v then x.2 * t else 0) + (if i = x.1.toNat then x.2 * t else 0) := by
  unfold pay
  rw [ydQ (by simpa using hu), ydQ hv]
  by_cases e : i = x.1.toNat
  · subst e; rw [if_pos rfl, if_pos rfl, if_neg hne]; rw [if_neg hne]; omega
  · rw [if_neg e, if_neg e, ydQ hv]; split <;> (try subst_vars) <;> omega
theorem gi_payAll {t : Int} {v n : Nat} : ∀ (l : List (Int × Int)) (d : List Int), d.length = n → v < n → (∀ x ∈ l, 0 ≤ x.1 ∧ x.1 < n ∧ x.1.toNat ≠ v) → ∀ i,
    gi (yeV t v l d) i = gi d i - (if i = v then t * addG (fun _ => true) l else 0) + t * addG (fun y => y == (i : Int)) l
  | [], d, _, _, _, i => by simp [yeV, addG]
  | x :: l, d, hd, hv, h, i => by
    have hx := h x (by simp)
    have h1 := gi_payAll (t := t) (v := v) l (pay t v d x) (by simp [pay, hd]) hv (fun y hy => h y (by simp [hy])) i
    have h2 : yeV t v (x :: l) d = yeV t v l (pay t v d x) := rfl
    rw [h2, h1, gi_pay (by omega) (by omega) hx.2.2]
    simp only [addG, if_true]
    have hb : (x.1 == (i : Int)) = decide (i = x.1.toNat) := by
      rw [Bool.eq_iff_iff]; simp; omega
    simp only [hb, decide_eq_true_eq]
    have e1 : t * (x.2 + addG (fun _ => true) l) = x.2 * t + t * addG (fun _ => true) l := by rw [Int.mul_add, Int.mul_comm t x.2]
    have e2 : ∀ a : Int, t * (x.2 + a) = x.2 * t + t * a := fun a => by rw [Int.mul_add, Int.mul_comm t x.2]
    by_cases c1 : i = v <;> by_cases c2 : i = x.1.toNat <;> simp only [c1, c2, if_true, if_false, e2, Int.zero_add] <;> (try split) <;> (try split) <;> (try simp only [e2, Int.zero_add]) <;> omega
def ind (inn : List Bool) (v : Nat) : Int := if gb inn v then 1 else 0
theorem links_ok {n : Nat} {es : List E3} (h : EOk n es) (v : Nat) : ∀ x ∈ yde es (v : Int), 0 ≤ x.1 ∧ x.1 < n ∧ x.1.toNat ≠ v := fun x hx => by
  have h1 := yc1 h.range (v := (v : Int)) (u := x.1) (m := x.2) hx
  obtain ⟨y, hy, q1, q2, q3, q4⟩ := (yb3 (u := x.1) (m := x.2)).1 hx
  omega
theorem addG_true {n : Nat} {es : List E3} (h : EOk n es) (v : Nat) : addG (fun _ => true) (yde es (v : Int)) = deg n es v := by
  have := ydw h v (fun _ => true)
  unfold yaP at this
  rw [yel] at this
  rw [this]
  exact yaR fun u _ => by simp
theorem gi_fireD {n : Nat} {es : List E3} (h : EOk n es) (inn : List Bool) (t : Int) (d : List Int) (hd : d.length = n) : ∀ k, k ≤ n → ∀ i, i < n →
    gi (ydz es inn t d k) i = gi d i - t * (if i < k then ind inn i * deg n es i else 0) + t * sm k (fun j => ind inn j * W es j i)
  | 0, _, i, _ => by simp [ydz, sm]
  | k + 1, hk, i, hi => by
    have ih := gi_fireD h inn t d hd k (by omega) i hi
    rw [ydz, sm]
    by_cases hb : gb inn k = true
    · rw [if_pos hb, gi_payAll (n := n) _ _ (by rw [ycw]; exact hd) (by omega) (links_ok h k), ih, addG_true h]
      have hW : addG (fun y => y == (i : Int)) (yde es (k : Int)) = W es k i := by unfold W yaP; rw [yel]
      rw [hW]
      have hind : ind inn k = 1 := by simp [ind, hb]
      rw [hind]
      by_cases c1 : i = k
      · subst c1
        rw [if_neg (by omega), if_pos rfl, if_pos (by omega), hind]
        simp only [Int.mul_add, Int.one_mul, Int.mul_zero]; omega
      · rw [if_neg c1]
        by_cases c2 : i < k
        · rw [if_pos c2, if_pos (by omega)]; simp only [Int.mul_add, Int.one_mul]; omega
        · rw [if_neg c2, if_neg (by omega)]; simp only [Int.mul_add, Int.one_mul]; omega
    · rw [if_neg hb, ih]
      have hind : ind inn k = 0 := by simp [ind, hb]
      rw [hind]
      by_cases c1 : i = k
      · subst c1
        rw [if_neg (by omega), if_pos (by omega), hind]
        simp
      · by_cases c2 : i < k
        · rw [if_pos c2, if_pos (by omega)]; simp
        · rw [if_neg c2, if_neg (by omega)]; simp
theorem Lp_ind {n : Nat} {es : List E3} (s : Nat → Int) (v : Nat) : Lp n es s v = s v * deg n es v - sm n (fun u => s u * W es u v) := by
  unfold Lp deg
  rw [← sm_mul, ← sm_sub]
  refine yaR fun u _ => ?_
  rw [Int.mul_sub, Int.mul_comm (W es v u) (s v), yho es v u, Int.mul_comm (W es u v) (s u)]
theorem fire_lp {n : Nat} {es : List E3} (h : EOk n es) (inn : List Bool) (t : Int) (d : List Int) (hd : d.length = n) {i : Nat} (hi : i < n) : gi (ydz es inn t d n) i = gi d i - t * Lp n es (ind inn) i := by
  rw [gi_fireD h inn t d hd n (Nat.le_refl _) i hi, if_pos hi, Lp_ind, Int.mul_sub]; omega
theorem Lp_add {n : Nat} {es : List E3} (a b : Nat → Int) (v : Nat) : Lp n es (fun i => a i + b i) v = Lp n es a v + Lp n es b v := by
  unfold Lp
  rw [← ydn]
  exact yaR fun u _ => by rw [← Int.mul_add]; congr 1; show a v + b v - (a u + b u) = _; omega
theorem Lp_mul {n : Nat} {es : List E3} (c : Int) (a : Nat → Int) (v : Nat) : Lp n es (fun i => c * a i) v = c * Lp n es a v := by
  unfold Lp
  rw [← sm_mul]
  exact yaR fun u _ => by rw [← Int.mul_sub, Int.mul_left_comm]
theorem Lp_const {n : Nat} {es : List E3} (c : Int) (v : Nat) : Lp n es (fun _ => c) v = 0 := by
  unfold Lp
  rw [yaR (g := fun _ => 0) (fun u _ => by simp), yc7]
theorem Lp_congr {n : Nat} {es : List E3} {a b : Nat → Int} (h : ∀ i, i < n → a i = b i) {v : Nat} (hv : v < n) : Lp n es a v = Lp n es b v := by
  unfold Lp
  exact yaR fun u hu => by rw [h v hv, h u hu]
theorem Lp_cut {n : Nat} {es : List E3} (S : Nat → Bool) (s : Nat → Int) : sm n (fun v => if S v then Lp n es s v else 0) = sm n (fun v => sm n (fun u => if S v && !S u then W es v u * (s v - s u) else 0)) := by
  have h1 : sm n (fun v => if S v then Lp n es s v else 0) = sm n (fun v => sm n (fun u => (if S v && !S u then W es v u * (s v - s u) else 0))) + sm n (fun v => sm n (fun u => (if S v && S u then W es v u * (s v - s u) else 0))) := by
    rw [← ydn]
    refine yaR fun v _ => ?_
    rw [← ydn]
    cases hv : S v with
    | false => simp [yc7]
    | true =>
      simp only [if_true, Bool.true_and]
      unfold Lp
      refine yaR fun u _ => ?_
      cases S u <;> simp
  have h2 : sm n (fun v => sm n (fun u => (if S v && S u then W es v u * (s v - s u) else 0))) = 0 := by
    have h3 : sm n (fun v => sm n (fun u => (if S v && S u then W es v u * (s v - s u) else 0))) = - sm n (fun v => sm n (fun u => (if S v && S u then W es v u * (s v - s u) else 0))) := by
      conv => lhs; rw [sm_swap]
      have : ∀ m (f : Nat → Int), - sm m f = sm m (fun i => - f i) := fun m f => by
        have := sm_mul (-1) f m
        simp only [Int.neg_mul, Int.one_mul] at this
        exact this.symm
      rw [this]
      refine yaR fun v _ => ?_
      rw [this]
      refine yaR fun u _ => ?_
      cases S u <;> cases S v <;> simp
      rw [yho es u v, ← Int.mul_neg]; congr 1; omega
    omega
  rw [h1, h2]; omega
theorem Lp_total {n : Nat} {es : List E3} (s : Nat → Int) : sm n (fun v => Lp n es s v) = 0 := by
  have := Lp_cut (n := n) (es := es) (fun _ => true) s
  simp only [if_true, Bool.not_true, Bool.and_false, Bool.false_eq_true, if_false] at this
  rw [this, yaR (g := fun _ => 0) (fun v _ => yc7 n), yc7]
end Go.Proofs.Ytinoedockljfeaa

/- The contract of result: the script is laid so that q does not fire; numbers out of range are an error. -/
namespace Go.Proofs.Ytinoedockljfeaa
open Go Go.RowKit Go.Shelf Go.Proofs.Try
set_option linter.unusedVariables false
set_option maxRecDepth 100000
set_option maxHeartbeats 8000000
structure ResNil (A1 : Option Addr) (l1 c1 : Nat) (A2 : Option Addr) (l2 c2 : Nat) : Prop where
  a1 : A1 = none
  l1 : l1 = 0
  c1 : c1 = 0
  a2 : A2 = none
  l2 : l2 = 0
  c2 : c2 = 0
structure ResOk (gd gs n cd cs : Nat) (d s : List Int) (A1 : Option Addr) (l1 c1 : Nat) (A2 : Option Addr) (l2 c2 : Nat) (w' : World) : Prop where
  a1 : A1 = some ⟨gd, 0, none⟩
  l1 : l1 = n
  c1 : c1 = cd
  a2 : A2 = some ⟨gs, 0, none⟩
  l2 : l2 = n
  c2 : c2 = cs
  row1 : IRow w' gd 3 cd d
  row2 : IRow w' gs 3 cs s
end Go.Proofs.Ytinoedockljfeaa

/- The plain laws behind lending: levels, cuts, bounds. No program in sight. -/
namespace Go.Proofs.Ytinoedockljfeaa
open Go Go.Proofs.Try
set_option linter.unusedVariables false
set_option linter.unusedSimpArgs false
set_option linter.unusedSectionVars false
theorem fireE_ok {d s : List Int} (hd : ∀ j, -2097152 ≤ gi d j ∧ gi d j ≤ 2097152) (hs : ∀ j, -2097152 ≤ gi s j ∧ gi s j ≤ 2097152) (e : Int) : ∀ j, fireE d s e j = e
  | 0 => rfl
  | j + 1 => by
    rw [fireE, fireE_ok hd hs e j, if_neg]
    rintro ⟨h, -⟩
    have h1 := hd j
    have h2 := hs j
    unfold bigAt at h
    rw [decide_eq_true_eq] at h
    omega
theorem yeu {d : List Int} {n : Nat} (h : d.length = n) {i : Nat} (hi : ¬ i < n) : gi d i = 0 := gi_ge (by omega)
theorem yfc {inn : List Bool} {t : Int} {s : List Int} {n : Nat} (hs : s.length = n) {v : Nat} (hv : v < n) : gi (ycP inn t s n) v = gi s v + t * ind inn v := by
  rw [fireS_gi inn t s n v (by omega)]
  unfold ind
  by_cases h : gb inn v = true
  · rw [if_pos ⟨hv, h⟩, if_pos h]; omega
  · rw [if_neg (fun x => h x.2), if_neg h]; omega
theorem Lp_fireS {n : Nat} {es : List E3} {inn : List Bool} {t : Int} {s : List Int} (hs : s.length = n) {v : Nat} (hv : v < n) : Lp n es (gi (ycP inn t s n)) v = Lp n es (gi s) v + t * Lp n es (ind inn) v := by
  rw [Lp_congr (b := fun i => gi s i + t * ind inn i) (fun i hi => yfc hs hi) hv, Lp_add, Lp_mul]
theorem Lp_ind_in {n : Nat} {es : List E3} {inn : List Bool} {v : Nat} (hb : gb inn v = true) : Lp n es (ind inn) v = sm n (fun u => if gb inn u = true then 0 else W es v u) := by
  unfold Lp
  refine yaR fun u _ => ?_
  have : ind inn v = 1 := by simp [ind, hb]
  rw [this]
  unfold ind
  split <;> simp
theorem yej {n : Nat} {es : List E3} {inn : List Bool} {v : Nat} (hb : ¬ gb inn v = true) : Lp n es (ind inn) v = - sm n (fun u => if gb inn u = true then W es v u else 0) := by
  have e : ∀ (f : Nat → Int), - sm n f = sm n (fun i => - f i) := fun f => by
    have := sm_mul (-1) f n
    simp only [Int.neg_mul, Int.one_mul] at this
    exact this.symm
  rw [e]
  unfold Lp
  refine yaR fun u _ => ?_
  have : ind inn v = 0 := by simp [ind, hb]
  rw [this]
  unfold ind
  split <;> simp
def FF (n : Nat) (es : List E3) (o : List Int) (k : Int) : Int := sm n (fun v => if k < gi o v then sm n (fun u => if gi o u < gi o v then W es v u else 0) else 0)
def CC (n : Nat) (es : List E3) (o : List Int) (k : Int) : Int := sm n (fun v => if gi o v = k then sm n (fun u => if gi o u < k then W es v u else 0) else 0)
def tot (n : Nat) (es : List E3) : Int := sm n (fun v => sm n (fun u => W es v u))
theorem FF_step (n : Nat) (es : List E3) (o : List Int) (k : Int) : FF n es o k = FF n es o (k + 1) + CC n es o (k + 1) := by
  unfold FF CC
  rw [← ydn]
  refine yaR fun v _ => ?_
  by_cases h : gi o v = k + 1
  · rw [if_pos (by omega), if_neg (by omega), if_pos h, h]; omega
  · by_cases h2 : k < gi o v
    · rw [if_pos h2, if_pos (by omega), if_neg h]; omega
    · rw [if_neg h2, if_neg (by omega), if_neg h]; omega
section
variable {n : Nat} {es : List E3} (hE : EOk n es)
include hE
theorem CC_nonneg (o : List Int) (k : Int) : 0 ≤ CC n es o k := ybD fun v _ => by
  split
  · exact ybD fun u _ => by have := ybY hE v u; split <;> omega
  · omega
theorem FF_nonneg (o : List Int) (k : Int) : 0 ≤ FF n es o k := ybD fun v _ => by
  split
  · exact ybD fun u _ => by have := ybY hE v u; split <;> omega
  · omega
theorem FF_half (o : List Int) (k : Int) : 2 * FF n es o k ≤ tot n es := by
  have h1 : FF n es o k ≤ sm n (fun v => sm n (fun u => if gi o u < gi o v then W es v u else 0)) := yeQ fun v _ => by
    split
    · exact Int.le_refl _
    · exact ybD fun u _ => by have := ybY hE v u; split <;> omega
  have h2 : sm n (fun v => sm n (fun u => if gi o u < gi o v then W es v u else 0)) = sm n (fun v => sm n (fun u => if gi o v < gi o u then W es v u else 0)) := by
    rw [sm_swap]
    exact yaR fun v _ => yaR fun u _ => by rw [yho es u v]
  have h3 : sm n (fun v => sm n (fun u => if gi o u < gi o v then W es v u else 0)) + sm n (fun v => sm n (fun u => if gi o v < gi o u then W es v u else 0)) ≤ tot n es := by
    unfold tot
    rw [← ydn]
    refine yeQ fun v _ => ?_
    rw [← ydn]
    refine yeQ fun u _ => ?_
    have := ybY hE v u
    split <;> split <;> omega
  omega
variable {q : Nat} {o : List Int} (hD : Dist n es q o) (hc : ∀ v, v < n → 0 ≤ gi o v)
include hD hc
theorem Dist.lip {v u : Nat} (hv : v < n) (hu : u < n) (h : W es v u ≠ 0) : gi o u ≤ gi o v + 1 := by
  have h1 : 0 < W es v u := by have := ybY hE v u; omega
  exact (hD.step v hv (hc v hv) u ((W_adj hE).1 h1)).2
theorem near_in {k : Int} {v : Nat} (hv : v < n) (hk : gi o v < k) : 0 ≤ Lp n es (ind (yaW o k)) v ∧ Lp n es (ind (yaW o k)) v ≤ CC n es o k := by
  have hol := hD.len
  rw [Lp_ind_in (by rw [ydB (by omega)]; simpa using hk)]
  constructor
  · exact ybD fun u _ => by have := ybY hE v u; split <;> omega
  · refine yeQ fun u hu => ?_
    rw [ydB (by omega)]
    by_cases h : gi o u = k
    · rw [if_neg (by simp; omega), if_pos h]
      have h2 := sm_ge (f := fun i => if gi o i < k then W es u i else 0) (n := n) (fun i _ => by have := ybY hE u i; show 0 ≤ ite _ _ _; split <;> omega) v hv
      simp only [if_pos hk] at h2
      rw [yho es v u]; exact h2
    · rw [if_neg h]
      split
      · omega
      · rename_i h2
        simp only [decide_eq_true_eq] at h2
        by_cases h3 : W es v u = 0
        · omega
        · have := hD.lip hE hc hv hu h3; omega
theorem near_at {k : Int} {v : Nat} (hv : v < n) (hk : gi o v = k) : Lp n es (ind (yaW o k)) v = - yaP es (v : Int) (fun u => gb (yaW o k) u.toNat) ∧ - CC n es o k ≤ Lp n es (ind (yaW o k)) v := by
  have hol := hD.len
  have h1 := yej (n := n) (es := es) (inn := yaW o k) (v := v) (by rw [ydB (by omega)]; simp; omega)
  rw [ydw hE, h1]
  simp only [Int.toNat_natCast]
  refine ⟨trivial, ?_⟩
  have h2 := sm_ge (f := fun v => if gi o v = k then sm n (fun u => if gi o u < k then W es v u else 0) else 0) (n := n) (fun i _ => by
    show 0 ≤ ite _ _ _
    split
    · exact ybD fun u _ => by have := ybY hE i u; split <;> omega
    · omega) v hv
  simp only [if_pos hk] at h2
  have h3 : sm n (fun u => if gb (yaW o k) u = true then W es v u else 0) = sm n (fun u => if gi o u < k then W es v u else 0) := yaR fun u hu => by
    rw [ydB (by omega)]
    simp only [decide_eq_true_eq]
  rw [h3]
  unfold CC
  omega
theorem near_out {k : Int} {v : Nat} (hv : v < n) (hk : k < gi o v) : Lp n es (ind (yaW o k)) v = 0 := by
  have hol := hD.len
  rw [yej (by rw [ydB (by omega)]; simp; omega)]
  have : sm n (fun u => if gb (yaW o k) u = true then W es v u else 0) = sm n (fun _ => 0) := yaR fun u hu => by
    rw [ydB (by omega)]
    by_cases h : gi o u < k
    · rw [if_pos (by simpa using h)]
      by_cases h3 : W es v u = 0
      · exact h3
      · have := hD.lip hE hc hu hv (by rw [yho]; exact h3); omega
    · rw [if_neg (by simpa using h)]
  rw [this, yc7]; rfl
end
section
variable {es : List E3} {o : List Int} {k : Int} {d : List Int}
theorem ceil_ge {a b : Int} (hb : 1 ≤ b) : a ≤ (a + b - 1).tdiv b * b ∨ a + b - 1 < 0 := by
  by_cases h : a + b - 1 < 0
  · exact .inr h
  · left
    rw [Int.tdiv_eq_ediv_of_nonneg (by omega)]
    have h1 := Int.emod_add_mul_ediv (a + b - 1) b
    have h2 := Int.emod_lt_of_pos (a + b - 1) (show 0 < b by omega)
    rw [Int.mul_comm b] at h1
    omega
theorem ceil_le {a b M : Int} (hb : 1 ≤ b) (ha : 1 ≤ a) (hM : a ≤ M) : (a + b - 1).tdiv b ≤ M ∧ 1 ≤ (a + b - 1).tdiv b := by
  rw [Int.tdiv_eq_ediv_of_nonneg (by omega)]
  constructor
  · apply Int.le_of_lt_add_one
    apply Int.ediv_lt_of_lt_mul (by omega)
    have : a ≤ M * b := by
      have := Int.mul_le_mul_of_nonneg_left hb (show 0 ≤ M by omega)
      omega
    rw [Int.add_mul]; omega
  · apply Int.le_ediv_of_mul_le (by omega); omega
theorem timesL_le {M : Int} (h0 : 0 ≤ M) : ∀ n, (∀ v, v < n → -gi d v ≤ M) → (∀ v, v < n → gi o v = k → 1 ≤ yaP es (v : Int) (fun u => gb (yaW o k) u.toNat)) → 0 ≤ yb6 es o k d n ∧ yb6 es o k d n ≤ M
  | 0, _, _ => by simp [yb6]; exact h0
  | n + 1, hd, hj => by
    have ih := timesL_le h0 n (fun v hv => hd v (by omega)) (fun v hv => hj v (by omega))
    rw [yb6]
    split
    · rename_i h
      have := ceil_le (hj n (by omega) h.1) (show 1 ≤ -gi d n by omega) (hd n (by omega))
      unfold mxF
      split <;> omega
    · exact ih
theorem timesL_ge : ∀ n, (∀ v, v < n → gi o v = k → 1 ≤ yaP es (v : Int) (fun u => gb (yaW o k) u.toNat)) → ∀ v, v < n → gi o v = k → gi d v < 0 →
    1 ≤ yb6 es o k d n ∧ -gi d v ≤ yb6 es o k d n * yaP es (v : Int) (fun u => gb (yaW o k) u.toNat)
  | n + 1, hj, v, hv, hk, hd => by
    rw [yb6]
    have mx : ∀ a b : Int, a ≤ mxF a b ∧ b ≤ mxF a b := fun a b => by unfold mxF; split <;> omega
    have hjv := hj v hv hk
    have up : ∀ {a b : Int}, a ≤ b → -gi d v ≤ a * yaP es (v : Int) (fun u => gb (yaW o k) u.toNat) → -gi d v ≤ b * yaP es (v : Int) (fun u => gb (yaW o k) u.toNat) := fun {a b} h h2 =>
      Int.le_trans h2 (Int.mul_le_mul_of_nonneg_right h (by omega))
    by_cases e : v = n
    · subst e
      rw [if_pos ⟨hk, hd⟩]
      have h1 := ceil_le (M := -gi d v) hjv (show 1 ≤ -gi d v by omega) (Int.le_refl _)
      have h2 := mx (yb6 es o k d v) ((-gi d v + yaP es (v : Int) (fun u => gb (yaW o k) u.toNat) - 1).tdiv (yaP es (v : Int) (fun u => gb (yaW o k) u.toNat)))
      refine ⟨by omega, up h2.2 ?_⟩
      rcases ceil_ge (a := -gi d v) hjv with h | h
      · exact h
      · omega
    · have ih := timesL_ge n (fun v hv => hj v (by omega)) v (by omega) hk hd
      split
      · have h2 := mx (yb6 es o k d n) ((-gi d n + yaP es (n : Int) (fun u => gb (yaW o k) u.toNat) - 1).tdiv (yaP es (n : Int) (fun u => gb (yaW o k) u.toNat)))
        exact ⟨by omega, up h2.1 ih.2⟩
      · exact ih
theorem yfa : ∀ n, (∀ v, v < n → gi o v = k → 0 ≤ gi d v) → yb6 es o k d n = 0
  | 0, _ => rfl
  | n + 1, h => by
    rw [yb6, if_neg (fun x => by have := h n (by omega) x.1; omega)]
    exact yfa n fun v hv => h v (by omega)
end
end Go.Proofs.Ytinoedockljfeaa

/- Lending: what holds before and behind each level. No program in sight. -/
namespace Go.Proofs.Ytinoedockljfeaa
open Go Go.Proofs.Try
set_option linter.unusedVariables false
set_option linter.unusedSimpArgs false
set_option linter.unusedSectionVars false
structure GL (n : Nat) (es : List E3) (q : Nat) (D : Int) (d0 : List Int) (o : List Int) (k : Nat) (d s : List Int) (e : Int) : Prop where
  e0 : e = 0
  dl : d.length = n
  sl : s.length = n
  kn : k + 1 ≤ n
  lp : ∀ v, v < n → gi d v = gi d0 v - Lp n es (gi s) v
  bd : ∀ v, v < n → - (D * 2 ^ (FF n es o k).toNat) ≤ gi d v ∧ gi d v ≤ D * 2 ^ (FF n es o k).toNat
  pos : ∀ v, v < n → (k : Int) < gi o v → 0 ≤ gi d v
  s0 : ∀ v, v < n → 0 ≤ gi s v ∧ gi s v ≤ ((n : Int) - 1 - k) * (D * 512)
  sq : ∀ v, v < n → gi s v ≤ gi s q
  same : (∀ v, v < n → v ≠ q → 0 ≤ gi d0 v) → d = d0 ∧ ∀ v, v < n → gi s v = 0
theorem pow_bnd {D x : Int} (hD : 0 ≤ D) (hx : x ≤ 9) : D * 2 ^ x.toNat ≤ D * 512 := by
  refine Int.mul_le_mul_of_nonneg_left ?_ hD
  have : (2 : Nat) ^ x.toNat ≤ 2 ^ 9 := Nat.pow_le_pow_right (by omega) (by omega)
  have h2 : ((2 ^ x.toNat : Nat) : Int) ≤ ((2 ^ 9 : Nat) : Int) := by exact_mod_cast this
  have h3 : ((2 ^ x.toNat : Nat) : Int) = (2 : Int) ^ x.toNat := by push_cast; rfl
  rw [← h3]; exact h2
theorem pow_step {D x c T : Int} (hD : 0 ≤ D) (hx : 0 ≤ x) (hc : 0 ≤ c) (h0 : 0 ≤ T) (hT : T ≤ D * 2 ^ x.toNat) : D * 2 ^ x.toNat + T * c ≤ D * 2 ^ (x + c).toNat := by
  have e : (x + c).toNat = x.toNat + c.toNat := by omega
  rw [e, Int.pow_add, ← Int.mul_assoc]
  generalize hB : D * 2 ^ x.toNat = B at *
  have h1 : T * c ≤ B * c := Int.mul_le_mul_of_nonneg_right hT hc
  have h2 : (c : Int) + 1 ≤ 2 ^ c.toNat := by
    have : c.toNat < 2 ^ c.toNat := Nat.lt_two_pow_self
    have h3 : ((c.toNat : Nat) : Int) < ((2 ^ c.toNat : Nat) : Int) := by exact_mod_cast this
    have h4 : ((2 ^ c.toNat : Nat) : Int) = (2 : Int) ^ c.toNat := by push_cast; rfl
    rw [h4] at h3; omega
  have h5 : B * (c + 1) ≤ B * 2 ^ c.toNat := Int.mul_le_mul_of_nonneg_left h2 (by omega)
  rw [Int.mul_add] at h5
  omega
theorem mul_bnd {n k : Nat} {D : Int} (hD : 0 ≤ D) (hn : n ≤ 6) : ((n : Int) - 1 - k) * (D * 512) ≤ D * 2560 := by
  have : ((n : Int) - 1 - k) * (D * 512) ≤ 5 * (D * 512) := Int.mul_le_mul_of_nonneg_right (by omega) (by omega)
  omega
section
variable {n : Nat} {es : List E3} {q : Nat} {D : Int} {d0 : List Int} (hE : EOk n es) (hn : n ≤ 6) (hq : q < n) (ht : tot n es ≤ 18) (hD0 : 0 ≤ D) (hD1 : D ≤ 200) (hc : ∀ o, Dist n es q o → ∀ v, v < n → 0 ≤ gi o v)
  (hd0 : ∀ v, v < n → -D ≤ gi d0 v ∧ gi d0 v ≤ D) (hdl : d0.length = n)
include hE hn hq ht hD0 hD1 hc hd0 hdl
theorem GL.start (o : List Int) (hD : Dist n es q o) : GL n es q D d0 o (yew o n).toNat d0 (List.replicate n 0) 0 := by
  have hm : ∃ j, j < o.length ∧ yew o n = gi o j := maxTo_mem o n (by rw [hD.len]; omega) (by rw [hD.len]; omega)
  obtain ⟨j, hj, hmj⟩ := hm
  have hhi := hD.high j
  have h0 : 0 ≤ yew o n := by
    have := maxTo_ge o n q hq
    rw [hD.q0] at this; omega
  have hs : ∀ v, gi (List.replicate n 0) v = 0 := fun v => by
    rcases Nat.lt_or_ge v n with h | h
    · rw [ybl (by simpa using h)]; simp
    · exact gi_ge (by simpa using h)
  have hF : 0 ≤ FF n es o (yew o n).toNat := FF_nonneg hE o _
  have h1 : D * 1 ≤ D * 2 ^ (FF n es o (yew o n).toNat).toNat := Int.mul_le_mul_of_nonneg_left (by
    have : (0 : Int) < 2 ^ (FF n es o (yew o n).toNat).toNat := Int.pow_pos (by omega)
    omega) hD0
  refine ⟨rfl, hdl, by simp, by omega, fun v hv => ?_, fun v hv => ?_, fun v hv h => ?_, fun v hv => ?_, fun v hv => ?_, fun _ => ⟨rfl, fun v hv => hs v⟩⟩
  · rw [Lp_congr (b := fun _ => 0) (fun i _ => hs i) hv, Lp_const]; omega
  · have := hd0 v hv; omega
  · have := maxTo_ge o n v hv; omega
  · rw [hs]
    have : 0 ≤ ((n : Int) - 1 - (yew o n).toNat) * (D * 512) := Int.mul_nonneg (by omega) (by omega)
    omega
  · rw [hs, hs]; exact Int.le_refl _
theorem GL.bnd {o : List Int} {k : Nat} {d s : List Int} {e : Int} (h : GL n es q D d0 o k d s e) : Bnd 102400 d ∧ Bnd 512000 s := by
  constructor
  · intro i
    by_cases hi : i < n
    · have h1 := h.bd i hi
      have h2 := FF_half hE o k
      have h3 := pow_bnd hD0 (show FF n es o k ≤ 9 by omega)
      omega
    · rw [yeu h.dl hi]; omega
  · intro i
    by_cases hi : i < n
    · have h1 := h.s0 i hi
      have h2 := mul_bnd (k := k) hD0 hn
      omega
    · rw [yeu h.sl hi]; omega
theorem GL.step {o : List Int} {k : Nat} {d s : List Int} (hD : Dist n es q o) (h : GL n es q D d0 o (k + 1) d s 0) :
    yb6 es o ((k : Int) + 1) d n ≤ 2147483648 ∧
      (0 < yb6 es o ((k : Int) + 1) d n → GL n es q D d0 o k (ydz es (yaW o ((k : Int) + 1)) (yb6 es o ((k : Int) + 1) d n) d n) (ycP (yaW o ((k : Int) + 1)) (yb6 es o ((k : Int) + 1) d n) s n)
        (fireE (ydz es (yaW o ((k : Int) + 1)) (yb6 es o ((k : Int) + 1) d n) d n) (ycP (yaW o ((k : Int) + 1)) (yb6 es o ((k : Int) + 1) d n) s n) 0 n)) ∧
      (¬ 0 < yb6 es o ((k : Int) + 1) d n → GL n es q D d0 o k d s 0) := by
  have hb := h.bnd hE hn hq ht hD0 hD1 hc hd0 hdl
  obtain ⟨-, dl, sl, kn, lp, bd, pos, s0, sq, same⟩ := h
  have hcast : ((k + 1 : Nat) : Int) = (k : Int) + 1 := by omega
  rw [hcast] at bd pos s0
  have hF0 := FF_nonneg hE o ((k : Int) + 1)
  have hF1 := FF_half hE o ((k : Int) + 1)
  have hFk1 := FF_half hE o (k : Int)
  have hCC := CC_nonneg hE o ((k : Int) + 1)
  have hFk : FF n es o k = FF n es o ((k : Int) + 1) + CC n es o ((k : Int) + 1) := FF_step n es o k
  have hj : ∀ v, v < n → gi o v = (k : Int) + 1 → 1 ≤ yaP es (v : Int) (fun u => gb (yaW o ((k : Int) + 1)) u.toNat) := fun v hv hk => near_pos hD (fun x hx => (hE x hx).2.2.2.2.1) hv hk
  have hcc := hc o hD
  have hol := hD.len
  have hB0 : 0 ≤ D * 2 ^ (FF n es o ((k : Int) + 1)).toNat := Int.mul_nonneg hD0 (Int.le_of_lt (Int.pow_pos (by omega)))
  have hT := timesL_le (es := es) (o := o) (k := (k : Int) + 1) (d := d) hB0 n (fun v hv => by have := bd v hv; omega) hj
  have hBk := pow_bnd hD0 (show FF n es o ((k : Int) + 1) ≤ 9 by omega)
  have hTg := timesL_ge (es := es) (o := o) (k := (k : Int) + 1) (d := d) n hj
  have hTz := yfa (es := es) (o := o) (k := (k : Int) + 1) (d := d) n
  have hst := pow_step hD0 hF0 hCC hT.1 hT.2
  rw [← hFk] at hst
  generalize yb6 es o ((k : Int) + 1) d n = T at *
  generalize hC : CC n es o ((k : Int) + 1) = C at *
  generalize D * 2 ^ (FF n es o ((k : Int) + 1)).toNat = B at *
  have hBk' : D * 2 ^ (FF n es o (k : Int)).toNat ≤ D * 512 := pow_bnd hD0 (by omega)
  generalize hBB : D * 2 ^ (FF n es o (k : Int)).toNat = B' at *
  have hTC : 0 ≤ T * C := Int.mul_nonneg hT.1 hCC
  have hsm : ((n : Int) - 1 - ((k : Int) + 1)) * (D * 512) + D * 512 = ((n : Int) - 1 - k) * (D * 512) := by
    have : (n : Int) - 1 - k = ((n : Int) - 1 - ((k : Int) + 1)) + 1 := by omega
    rw [this, Int.add_mul, Int.one_mul]
  refine ⟨by omega, fun hpos => ?_, fun hz => ?_⟩
  · have hfd : ∀ v, v < n → gi (ydz es (yaW o ((k : Int) + 1)) T d n) v = gi d v - T * Lp n es (ind (yaW o ((k : Int) + 1))) v := fun v hv => fire_lp hE _ T d dl hv
    have hfs : ∀ v, v < n → gi (ycP (yaW o ((k : Int) + 1)) T s n) v = gi s v + T * ind (yaW o ((k : Int) + 1)) v := fun v hv => yfc sl hv
    have hdl' : (ydz es (yaW o ((k : Int) + 1)) T d n).length = n := by rw [ycw, dl]
    have hsl' : (ycP (yaW o ((k : Int) + 1)) T s n).length = n := by rw [ycs, sl]
    have hind : ∀ v, 0 ≤ T * ind (yaW o ((k : Int) + 1)) v ∧ T * ind (yaW o ((k : Int) + 1)) v ≤ T := fun v => by unfold ind; split <;> omega
    have hbd : ∀ v, v < n → -B' ≤ gi d v - T * Lp n es (ind (yaW o ((k : Int) + 1))) v ∧ gi d v - T * Lp n es (ind (yaW o ((k : Int) + 1))) v ≤ B' := fun v hv => by
      have b := bd v hv
      have mulb : ∀ x : Int, x ≤ C → T * x ≤ T * C := fun x hx => Int.mul_le_mul_of_nonneg_left hx hT.1
      rcases Int.lt_trichotomy (gi o v) ((k : Int) + 1) with h | h | h
      · have h1 := near_in hE hD hcc hv h
        rw [hC] at h1
        have h2 := mulb _ h1.2
        have h3 := Int.mul_nonneg hT.1 h1.1
        omega
      · have h1 := near_at hE hD hcc hv h
        have h4 := ydw hE v (fun u => gb (yaW o ((k : Int) + 1)) u.toNat)
        have h5 : 1 ≤ yaP es (v : Int) (fun u => gb (yaW o ((k : Int) + 1)) u.toNat) := hj v hv h
        rw [hC] at h1
        have h2 := mulb (- Lp n es (ind (yaW o ((k : Int) + 1))) v) (by omega)
        have h3 := Int.mul_nonneg hT.1 (show 0 ≤ - Lp n es (ind (yaW o ((k : Int) + 1))) v by omega)
        rw [Int.mul_neg] at h2 h3
        omega
      · have h1 := near_out hE hD hcc hv h
        rw [h1]; omega
    have hsb : ∀ v, v < n → 0 ≤ gi s v + T * ind (yaW o ((k : Int) + 1)) v ∧ gi s v + T * ind (yaW o ((k : Int) + 1)) v ≤ ((n : Int) - 1 - k) * (D * 512) := fun v hv => by
      have h1 := s0 v hv
      have h2 := hind v
      omega
    have hbig : ((n : Int) - 1 - k) * (D * 512) ≤ D * 2560 := mul_bnd hD0 hn
    refine ⟨fireE_ok (fun j => ?_) (fun j => ?_) 0 n, hdl', hsl', by omega, fun v hv => ?_, fun v hv => ?_, fun v hv hk => ?_, fun v hv => ?_, fun v hv => ?_, fun hs => ?_⟩
    · by_cases hjn : j < n
      · rw [hfd j hjn]
        have h1 := bd j hjn
        have h2 : -1 * (T * C) ≤ 0 := by omega
        have h3 : T * C ≤ B' := by omega
        have h4 := hbd j hjn
        omega
      · rw [yeu hdl' hjn]; omega
    · by_cases hjn : j < n
      · rw [hfs j hjn]
        have := hsb j hjn
        omega
      · rw [yeu hsl' hjn]; omega
    · rw [hfd v hv, Lp_fireS sl hv, lp v hv]; omega
    · rw [hfd v hv, hBB]
      exact hbd v hv
    · rw [hfd v hv]
      by_cases h : gi o v = (k : Int) + 1
      · have h1 := near_at hE hD hcc hv h
        rw [h1.1, Int.mul_neg]
        have h2 := hj v hv h
        by_cases hneg : gi d v < 0
        · have := (hTg v hv h hneg).2; omega
        · have := Int.mul_nonneg hT.1 (show 0 ≤ yaP es (v : Int) (fun u => gb (yaW o ((k : Int) + 1)) u.toNat) by omega)
          omega
      · rw [near_out hE hD hcc hv (by omega)]
        have := pos v hv (by omega)
        omega
    · rw [hfs v hv]; exact hsb v hv
    · rw [hfs v hv, hfs q hq]
      have h1 : ind (yaW o ((k : Int) + 1)) q = 1 := by
        unfold ind
        rw [if_pos]
        rw [ydB (by omega), hD.q0]; simp <;> omega
      have h2 := hind v
      have h3 := sq v hv
      rw [h1]; omega
    · exfalso
      obtain ⟨rfl, hs2⟩ := same hs
      have := hTz (fun v hv hk => hs v hv (fun e => by subst e; rw [hD.q0] at hk; omega))
      omega
  · have hT0 : T = 0 := by omega
    subst hT0
    refine ⟨rfl, dl, sl, by omega, lp, fun v hv => by have := bd v hv; rw [hBB]; omega, fun v hv hk => ?_, fun v hv => ?_, sq, same⟩
    · by_cases h : gi o v = (k : Int) + 1
      · apply Int.not_lt.1
        intro hneg
        have := (hTg v hv h hneg).1
        omega
      · exact pos v hv (by omega)
    · have := s0 v hv; omega
end
end Go.Proofs.Ytinoedockljfeaa

/- Settling: what holds before and behind each firing; reduced divisors and that they are alone. No program in sight. -/
namespace Go.Proofs.Ytinoedockljfeaa
open Go Go.Proofs.Try
set_option linter.unusedVariables false
set_option linter.unusedSectionVars false
def Conn (n : Nat) (es : List E3) (q : Nat) : Prop := ∀ S : Nat → Bool, S q = false → (∃ v, v < n ∧ S v = true) → ∃ v u, v < n ∧ u < n ∧ S v = true ∧ S u = false ∧ 0 < W es v u
structure Red (n : Nat) (es : List E3) (q : Nat) (d : List Int) : Prop where
  pos : ∀ v, v < n → v ≠ q → 0 ≤ gi d v
  no : ∀ S : Nat → Bool, S q = false → (∃ v, v < n ∧ S v = true) → ∃ v, v < n ∧ S v = true ∧ gi d v < sm n (fun u => if S u then 0 else W es v u)
theorem yd2 (c : Int) : ∀ n : Nat, sm n (fun _ => c) = n * c
  | 0 => by simp [sm]
  | n + 1 => by
    rw [sm, yd2 c n]
    have : ((n + 1 : Nat) : Int) = (n : Int) + 1 := by omega
    rw [this, Int.add_mul]; omega
theorem sm_split {f : Nat → Int} {n q : Nat} (hq : q < n) : sm n f = f q + sm n (fun v => if v = q then 0 else f v) := by
  have h1 := yfO (f q) hq
  rw [← h1, ← ydn]
  exact yaR fun i _ => by
    show f i = ite _ _ _ + ite _ _ _
    split
    · subst_vars; omega
    · omega
def low (n : Nat) (f : Nat → Int) (c : Int) : Int := sm n (fun x => if f x < c then 1 else 0)
theorem climb {n : Nat} {es : List E3} {q : Nat} (hE : EOk n es) (hC : Conn n es q) (hq : q < n) {f : Nat → Int} {G : Int} (hG0 : 0 ≤ G) (hG : ∀ S : Nat → Bool, S q = false → sm n (fun v => if S v then Lp n es f v else 0) ≤ G) :
    ∀ v, v < n → f v - f q ≤ low n f (f v) * G := by
  suffices H : ∀ (k : Nat) v, v < n → low n f (f v) ≤ k → f v - f q ≤ low n f (f v) * G from fun v hv => H (low n f (f v)).toNat v hv (by omega)
  have lown : ∀ c, 0 ≤ low n f c := fun c => ybD fun x _ => by show 0 ≤ ite _ _ _; split <;> omega
  have step : ∀ v, v < n → f q < f v → ∃ u, u < n ∧ f u < f v ∧ f v - f u ≤ G ∧ low n f (f u) + 1 ≤ low n f (f v) := by
    intro v hv hlt
    have hS0 : (fun x => decide (f v ≤ f x)) q = false := by simp; omega
    obtain ⟨x, u, hx, hu, hSx, hSu, hW⟩ := hC (fun x => decide (f v ≤ f x)) hS0 ⟨v, hv, by simp⟩
    simp only [decide_eq_true_eq, decide_eq_false_iff_not] at hSx hSu
    have h1 := hG (fun x => decide (f v ≤ f x)) hS0
    rw [Lp_cut] at h1
    have nn : ∀ a b, 0 ≤ (if (decide (f v ≤ f a) && !decide (f v ≤ f b)) = true then W es a b * (f a - f b) else 0) := fun a b => by
      split
      · rename_i h
        simp only [Bool.and_eq_true, decide_eq_true_eq, Bool.not_eq_true', decide_eq_false_iff_not] at h
        exact Int.mul_nonneg (ybY hE a b) (by omega)
      · omega
    have h2 := sm_ge (n := n) (f := fun a => sm n (fun b => if (decide (f v ≤ f a) && !decide (f v ≤ f b)) = true then W es a b * (f a - f b) else 0)) (fun a _ => ybD fun b _ => nn a b) x hx
    have h3 := sm_ge (n := n) (f := fun b => if (decide (f v ≤ f x) && !decide (f v ≤ f b)) = true then W es x b * (f x - f b) else 0) (fun b _ => nn x b) u hu
    have h4 : (decide (f v ≤ f x) && !decide (f v ≤ f u)) = true := by
      simp only [Bool.and_eq_true, decide_eq_true_eq, Bool.not_eq_true', decide_eq_false_iff_not]; omega
    simp only [h4, if_true] at h3
    have h5 : 1 * (f x - f u) ≤ W es x u * (f x - f u) := Int.mul_le_mul_of_nonneg_right (by omega) (by omega)
    have h6 : f x - f u ≤ G := by
      have h2' : sm n (fun b => if (decide (f v ≤ f x) && !decide (f v ≤ f b)) = true then W es x b * (f x - f b) else 0) ≤ sm n (fun a => sm n (fun b => if (decide (f v ≤ f a) && !decide (f v ≤ f b)) = true then W es a b * (f a - f b) else 0)) := h2
      omega
    refine ⟨u, hu, by omega, by omega, ?_⟩
    unfold low
    have h7 := yfO 1 hu
    rw [← h7, ← ydn]
    refine yeQ fun i _ => ?_
    show ite _ _ _ + ite _ _ _ ≤ ite _ _ _
    by_cases e : i = u
    · subst e; rw [if_neg (by omega), if_pos rfl, if_pos (by omega)]; omega
    · rw [if_neg e]; split <;> split <;> omega
  intro k
  induction k with
  | zero =>
    intro v hv hk
    by_cases h : f q < f v
    · obtain ⟨u, hu, h1, h2, h3⟩ := step v hv h
      have := lown (f u); omega
    · have := Int.mul_nonneg (lown (f v)) hG0; omega
  | succ k ih =>
    intro v hv hk
    by_cases h : f q < f v
    · obtain ⟨u, hu, h1, h2, h3⟩ := step v hv h
      have h4 := ih u hu (by omega)
      have h5 : (low n f (f u) + 1) * G ≤ low n f (f v) * G := Int.mul_le_mul_of_nonneg_right h3 hG0
      rw [Int.add_mul] at h5; omega
    · have := Int.mul_nonneg (lown (f v)) hG0; omega
theorem low_le {n : Nat} {f : Nat → Int} {v : Nat} (hv : v < n) : low n f (f v) ≤ (n : Int) - 1 := by
  have h7 := yfO 1 hv
  have h1 : low n f (f v) + sm n (fun i => if i = v then 1 else 0) ≤ sm n (fun _ => 1) := by
    unfold low
    rw [← ydn]
    refine yeQ fun i _ => ?_
    show (if f i < f v then (1 : Int) else 0) + (if i = v then (1 : Int) else 0) ≤ 1
    by_cases e : i = v
    · subst e; rw [if_neg (by omega), if_pos rfl]; omega
    · rw [if_neg e]; split <;> omega
  rw [h7] at h1
  rw [yd2] at h1; omega
end Go.Proofs.Ytinoedockljfeaa

/- Settling: each firing keeps the bounds and comes nearer to the end. No program in sight. -/
namespace Go.Proofs.Ytinoedockljfeaa
open Go Go.Proofs.Try
set_option linter.unusedVariables false
set_option linter.unusedSectionVars false
structure GS0 (n : Nat) (es : List E3) (q : Nat) (D : Int) (d0 d s : List Int) : Prop where
  dl : d.length = n
  sl : s.length = n
  lp : ∀ v, v < n → gi d v = gi d0 v - Lp n es (gi s) v
  pos : ∀ v, v < n → v ≠ q → 0 ≤ gi d v
  off : sm n (fun v => if v = q then 0 else gi d v) ≤ D * 2560
  s0 : ∀ v, v < n → 0 ≤ gi s v
  sq : gi s q ≤ D * 2560
def left' (D : Int) (n : Nat) (s : List Int) : Int := sm n (fun v => D * 2600 - gi s v)
def GS (n : Nat) (es : List E3) (q : Nat) (D : Int) (d0 : List Int) (m : Nat) (d s : List Int) (e : Int) : Prop := e = 0 ∧ GS0 n es q D d0 d s ∧ m = (left' D n s).toNat
theorem timesS_all {es : List E3} {left : List Bool} {d : List Int} {M : Int} (hM : 0 ≤ M) : ∀ n, (∀ v, v < n → gi d v ≤ M ∨ gb left v = false) → (∀ v, v < n → gb left v = true → yaP es (v : Int) (fun u => !gb left u.toNat) ≤ gi d v ∧ 0 ≤ yaP es (v : Int) (fun u => !gb left u.toNat)) →
    0 ≤ yb7 es left d n ∧ yb7 es left d n ≤ M ∧ ∀ v, v < n → gb left v = true → 0 < yaP es (v : Int) (fun u => !gb left u.toNat) → 1 ≤ yb7 es left d n ∧ yb7 es left d n * yaP es (v : Int) (fun u => !gb left u.toNat) ≤ gi d v
  | 0, _, _ => by simp [yb7]; exact hM
  | n + 1, hd, hj => by
    obtain ⟨i1, i2, i3⟩ := timesS_all hM n (fun v hv => hd v (by omega)) (fun v hv => hj v (by omega))
    rw [yb7]
    by_cases hc : gb left n = true ∧ 0 < yaP es (n : Int) (fun u => !gb left u.toNat)
    · rw [if_pos hc]
      have h1 := hj n (by omega) hc.1
      have hdM : gi d n ≤ M := by
        rcases hd n (by omega) with h | h
        · exact h
        · rw [hc.1] at h; cases h
      have hJ := hc.2
      have hq1 : (gi d n).tdiv (yaP es (n : Int) (fun u => !gb left u.toNat)) * yaP es (n : Int) (fun u => !gb left u.toNat) ≤ gi d n := by
        rw [Int.tdiv_eq_ediv_of_nonneg (by omega)]
        exact Int.ediv_mul_le _ (by omega)
      have hq2 : 1 ≤ (gi d n).tdiv (yaP es (n : Int) (fun u => !gb left u.toNat)) := by
        rw [Int.tdiv_eq_ediv_of_nonneg (by omega)]
        exact Int.le_ediv_of_mul_le hJ (by omega)
      have hq3 : (gi d n).tdiv (yaP es (n : Int) (fun u => !gb left u.toNat)) ≤ M := by
        have := Int.mul_le_mul_of_nonneg_left (show 1 ≤ yaP es (n : Int) (fun u => !gb left u.toNat) by omega) (show 0 ≤ (gi d n).tdiv (yaP es (n : Int) (fun u => !gb left u.toNat)) by omega)
        omega
      generalize hX : (gi d n).tdiv (yaP es (n : Int) (fun u => !gb left u.toNat)) = X at *
      by_cases hc2 : yb7 es left d n = 0 ∨ X < yb7 es left d n
      · rw [if_pos hc2]
        refine ⟨by omega, hq3, fun v hv hl hp => ?_⟩
        by_cases e : v = n
        · subst e; exact ⟨hq2, hq1⟩
        · obtain ⟨j1, j2⟩ := i3 v (by omega) hl hp
          refine ⟨hq2, ?_⟩
          have := Int.mul_le_mul_of_nonneg_right (show X ≤ yb7 es left d n by omega) (Int.le_of_lt hp)
          omega
      · rw [if_neg hc2]
        refine ⟨i1, i2, fun v hv hl hp => ?_⟩
        by_cases e : v = n
        · subst e
          refine ⟨by omega, ?_⟩
          have := Int.mul_le_mul_of_nonneg_right (show yb7 es left d v ≤ X by omega) (Int.le_of_lt hp)
          omega
        · exact i3 v (by omega) hl hp
    · rw [if_neg hc]
      refine ⟨i1, i2, fun v hv hl hp => ?_⟩
      by_cases e : v = n
      · subst e; exact absurd ⟨hl, hp⟩ hc
      · exact i3 v (by omega) hl hp
theorem gb_left {burnt : List Bool} {n v : Nat} (hl : burnt.length = n) (hv : v < n) : gb (leftOf burnt) v = !gb burnt v := by
  rw [yd4 (by simpa [leftOf] using (by omega : v < burnt.length)), yd4 (by omega)]
  simp [leftOf]
section
variable {n : Nat} {es : List E3} {q : Nat} {D : Int} {d0 : List Int} (hE : EOk n es) (hn : n ≤ 6) (hq : q < n) (hD0 : 0 ≤ D) (hD1 : D ≤ 200) (hC : Conn n es q)
  (hd0 : ∀ v, v < n → -D ≤ gi d0 v ∧ gi d0 v ≤ D)
include hE hn hq hD0 hD1 hC hd0
theorem GS0.bnd {d s : List Int} (h : GS0 n es q D d0 d s) : (∀ v, v < n → gi s v ≤ gi s q + D * 30) ∧ (∀ v, v < n → -(D * 2566) ≤ gi d v ∧ gi d v ≤ D * 2566) ∧ 0 ≤ gi s q := by
  refine ⟨fun v hv => ?_, ?_, h.s0 q hq⟩
  · have hnD : sm n (fun _ => D) ≤ 6 * D := by
      rw [yd2]
      exact Int.mul_le_mul_of_nonneg_right (by omega) hD0
    have h1 := climb hE hC hq (f := gi s) (G := 6 * D) (by omega) (fun S hS => by
      refine Int.le_trans (yeQ fun v hv => ?_) hnD
      show ite _ _ _ ≤ D
      split
      · rename_i hSv
        have h1 := h.lp v hv
        have h2 := h.pos v hv (fun e => by subst e; rw [hS] at hSv; cases hSv)
        have h3 := hd0 v hv
        omega
      · exact hD0) v hv
    have h2 := low_le (f := gi s) hv
    have h3 := Int.mul_le_mul_of_nonneg_right (show low n (gi s) (gi s v) ≤ 5 by omega) (show 0 ≤ 6 * D by omega)
    omega
  · have hoff0 : ∀ v, v < n → 0 ≤ (if v = q then 0 else gi d v) := fun v hv => by
      split
      · omega
      · rename_i e; exact h.pos v hv e
    have hoffn := ybD hoff0
    have hoffs := h.off
    have htot : sm n (gi d) = sm n (gi d0) := by
      have h1 := Lp_total (n := n) (es := es) (gi s)
      have h2 : sm n (gi d) = sm n (gi d0) - sm n (fun v => Lp n es (gi s) v) := by
        rw [← sm_sub]
        exact yaR fun i hi => h.lp i hi
      omega
    have h6 : sm n (gi d0) ≤ 6 * D ∧ -(6 * D) ≤ sm n (gi d0) := by
      constructor
      · refine Int.le_trans (yeQ fun v hv => (hd0 v hv).2) ?_
        rw [yd2]; exact Int.mul_le_mul_of_nonneg_right (by omega) hD0
      · have h7 : sm n (fun _ => -D) ≤ sm n (gi d0) := yeQ fun v hv => (hd0 v hv).1
        rw [yd2] at h7
        have h8 : (n : Int) * D ≤ 6 * D := Int.mul_le_mul_of_nonneg_right (by omega) hD0
        rw [Int.mul_neg] at h7
        omega
    have hsp := sm_split (f := gi d) hq
    intro v hv
    by_cases e : v = q
    · subst e; omega
    · have h8 := sm_ge hoff0 v hv
      rw [if_neg e] at h8
      have h9 := h.pos v hv e
      omega
theorem GS.bnd {m : Nat} {d s : List Int} {e : Int} (h : GS n es q D d0 m d s e) : Bnd 600000 d ∧ Bnd 600000 s := by
  obtain ⟨-, h0, -⟩ := h
  obtain ⟨b1, b2, b3⟩ := h0.bnd hE hn hq hD0 hD1 hC hd0
  have hsq := h0.sq
  constructor
  · intro i
    by_cases hi : i < n
    · have := b2 i hi; omega
    · rw [yeu h0.dl hi]; omega
  · intro i
    by_cases hi : i < n
    · have := b1 i hi; have := h0.s0 i hi; omega
    · rw [yeu h0.sl hi]; omega
theorem GS.step {m : Nat} {d s : List Int} {burnt : List Bool} (h : GS n es q D d0 m d s 0) (hB : Burns n es q d burnt) (hany : (leftOf burnt).any id = true) :
    0 ≤ yb7 es (leftOf burnt) d n ∧ yb7 es (leftOf burnt) d n ≤ 2147483648 ∧ (∀ v, v < n → gb (leftOf burnt) v = true → 0 ≤ gi d v) ∧
      ∃ m', m' < m ∧ GS n es q D d0 m' (ydz es (leftOf burnt) (yb7 es (leftOf burnt) d n) d n) (ycP (leftOf burnt) (yb7 es (leftOf burnt) d n) s n)
        (fireE (ydz es (leftOf burnt) (yb7 es (leftOf burnt) d n) d n) (ycP (leftOf burnt) (yb7 es (leftOf burnt) d n) s n) 0 n) := by
  have hb := h.bnd hE hn hq hD0 hD1 hC hd0
  obtain ⟨-, h0, hm⟩ := h
  have hLq : gb (leftOf burnt) q = false := by rw [gb_left hB.len hq, hB.at_q]; rfl
  have hnq : ∀ v, gb (leftOf burnt) v = true → v ≠ q := fun v hv e => by subst e; rw [hLq] at hv; cases hv
  have hjl : ∀ v : Nat, yaP es (v : Int) (fun u => !gb (leftOf burnt) u.toNat) = sm n (fun u => if gb (leftOf burnt) u = true then 0 else W es v u) := fun v => by
    rw [ydw hE]
    exact yaR fun u hu => by
      simp only [Int.toNat_natCast]
      by_cases hs : gb (leftOf burnt) u = true
      · simp [hs]
      · simp [hs]
  have hj0 : ∀ v : Nat, 0 ≤ yaP es (v : Int) (fun u => !gb (leftOf burnt) u.toNat) := fun v => by
    rw [hjl]
    exact ybD fun u _ => by have := ybY hE v u; split <;> omega
  have hjd : ∀ v, v < n → gb (leftOf burnt) v = true → yaP es (v : Int) (fun u => !gb (leftOf burnt) u.toNat) ≤ gi d v := fun v hv hl => by
    have h1 := hB.closed v hv (by rw [gb_left hB.len hv] at hl; simpa using hl)
    rw [ydw hE] at h1 ⊢
    refine Int.le_trans (Int.le_of_eq (yaR fun u hu => ?_)) h1
    simp only [Int.toNat_natCast, gb_left hB.len hu, Bool.not_not]
  obtain ⟨t0, t1, t2⟩ := timesS_all (es := es) (left := leftOf burnt) (d := d) (M := 600000) (by omega) n (fun v hv => .inl (hb.1 v).2) (fun v hv hl => ⟨hjd v hv hl, hj0 v⟩)
  -- a way out
  have hex : ∃ v, v < n ∧ gb (leftOf burnt) v = true := by
    obtain ⟨x, hx, hxt⟩ := List.any_eq_true.1 hany
    obtain ⟨i, hi, hxi⟩ := List.mem_iff_getElem.1 hx
    refine ⟨i, by simpa [leftOf, hB.len] using hi, ?_⟩
    rw [yd4 hi, hxi]; simpa using hxt
  obtain ⟨v, u, hv, hu, hSv, hSu, hW⟩ := hC (gb (leftOf burnt)) hLq hex
  have hjv : 0 < yaP es (v : Int) (fun u => !gb (leftOf burnt) u.toNat) := by
    rw [hjl]
    have := sm_ge (n := n) (f := fun u => if gb (leftOf burnt) u = true then 0 else W es v u) (fun u _ => by have := ybY hE v u; show 0 ≤ ite _ _ _; split <;> omega) u hu
    simp only [hSu, Bool.false_eq_true, if_false] at this
    omega
  have hT1 := (t2 v hv hSv hjv).1
  clear hex
  refine ⟨t0, by omega, fun v hv hl => h0.pos v hv (hnq v hl), ?_⟩
  generalize yb7 es (leftOf burnt) d n = T at *
  have hfd : ∀ v, v < n → gi (ydz es (leftOf burnt) T d n) v = gi d v - T * Lp n es (ind (leftOf burnt)) v := fun v hv => fire_lp hE _ T d h0.dl hv
  have hfs : ∀ v, v < n → gi (ycP (leftOf burnt) T s n) v = gi s v + T * ind (leftOf burnt) v := fun v hv => yfc h0.sl hv
  have hind : ∀ v, 0 ≤ T * ind (leftOf burnt) v := fun v => by unfold ind; split <;> omega
  have hq0 : ind (leftOf burnt) q = 0 := by unfold ind; rw [hLq]; rfl
  have hout : ∀ v, ¬ gb (leftOf burnt) v = true → Lp n es (ind (leftOf burnt)) v ≤ 0 := fun v hl => by
    rw [yej hl]
    have := ybD (n := n) (f := fun u => if gb (leftOf burnt) u = true then W es v u else 0) (fun u _ => by have := ybY hE v u; show 0 ≤ ite _ _ _; split <;> omega)
    omega
  have hG : GS0 n es q D d0 (ydz es (leftOf burnt) T d n) (ycP (leftOf burnt) T s n) := by
    refine ⟨by rw [ycw, h0.dl], by rw [ycs, h0.sl], fun v hv => ?_, fun v hv hvq => ?_, ?_, fun v hv => ?_, ?_⟩
    · rw [hfd v hv, Lp_fireS h0.sl hv, h0.lp v hv]; omega
    · rw [hfd v hv]
      have hp := h0.pos v hv hvq
      by_cases hl : gb (leftOf burnt) v = true
      · rw [Lp_ind_in hl, ← hjl]
        by_cases hz : 0 < yaP es (v : Int) (fun u => !gb (leftOf burnt) u.toNat)
        · have := (t2 v hv hl hz).2; omega
        · have h1 := hj0 v
          rw [show yaP es (v : Int) (fun u => !gb (leftOf burnt) u.toNat) = 0 by omega]; omega
      · have h1 := hout v hl
        have h2 := Int.mul_nonneg t0 (show 0 ≤ - Lp n es (ind (leftOf burnt)) v by omega)
        rw [Int.mul_neg] at h2; omega
    · have h1 : sm n (fun v => if v = q then 0 else gi (ydz es (leftOf burnt) T d n) v) = sm n (fun v => if v = q then 0 else gi d v) - T * sm n (fun v => if v = q then 0 else Lp n es (ind (leftOf burnt)) v) := by
        rw [← sm_mul, ← sm_sub]
        refine yaR fun v hv => ?_
        show ite _ _ _ = ite _ _ _ - T * ite _ _ _
        split
        · omega
        · exact hfd v hv
      have h2 := sm_split (f := Lp n es (ind (leftOf burnt))) hq
      have h3 : sm n (Lp n es (ind (leftOf burnt))) = 0 := Lp_total (n := n) (es := es) (ind (leftOf burnt))
      have h4 := hout q (by rw [hLq]; simp)
      have h5 := Int.mul_nonneg t0 (show 0 ≤ sm n (fun v => if v = q then 0 else Lp n es (ind (leftOf burnt)) v) by omega)
      have := h0.off
      omega
    · rw [hfs v hv]; have := h0.s0 v hv; have := hind v; omega
    · rw [hfs q hq, hq0]; have := h0.sq; omega
  obtain ⟨b1, b2, b3⟩ := hG.bnd hE hn hq hD0 hD1 hC hd0
  have hsq := hG.sq
  refine ⟨_, ?_, fireE_ok (fun j => ?_) (fun j => ?_) 0 n, hG, rfl⟩
  · rw [hm]
    have h1 : 0 ≤ left' D n (ycP (leftOf burnt) T s n) := ybD fun v hv => by
      show 0 ≤ D * 2600 - gi (ycP (leftOf burnt) T s n) v
      have := b1 v hv; omega
    have h2 : left' D n (ycP (leftOf burnt) T s n) + 1 ≤ left' D n s := by
      unfold left'
      have h3 : sm n (fun v => D * 2600 - gi (ycP (leftOf burnt) T s n) v) = sm n (fun v => D * 2600 - gi s v) - sm n (fun v => T * ind (leftOf burnt) v) := by
        rw [← sm_sub]
        refine yaR fun v hv => ?_
        show D * 2600 - gi (ycP (leftOf burnt) T s n) v = _ - _
        rw [hfs v hv]; omega
      have h4 := sm_ge (n := n) (f := fun v => T * ind (leftOf burnt) v) (fun v _ => hind v) v hv
      have h5 : ind (leftOf burnt) v = 1 := by unfold ind; rw [if_pos hSv]
      simp only [h5] at h4
      omega
    omega
  · by_cases hj : j < n
    · have := b2 j hj; omega
    · rw [yeu hG.dl hj]; omega
  · by_cases hj : j < n
    · have := b1 j hj; have := hG.s0 j hj; omega
    · rw [yeu hG.sl hj]; omega
end
end Go.Proofs.Ytinoedockljfeaa

/- The walks of package connect's forests, up to Connected. -/
namespace Go.Proofs.Ytinoedockljfeaa
open Go.RowKit Go.Maps Go.Proofs.Try
set_option maxRecDepth 100000
set_option maxHeartbeats 400000
end Go.Proofs.Ytinoedockljfeaa

/- The walk of the parts of a forest: slices of slices that grow. -/
namespace Go.Proofs.Ytinoedockljfeaa
open Go.RowKit Go.Maps Go.Proofs.Try
set_option maxRecDepth 100000
set_option maxHeartbeats 400000
def Slots (w : World) (B : Nat) (vals : List Value) (rows : List (List Nat)) : Prop :=
  vals.length = rows.length ∧ (∀ (i : Nat) (v : Value) (r : List Nat), vals[i]? = some v → rows[i]? = some r → w.ownsRow B 3 1 v r.length (nvals r)) ∧
    ∀ (i j : Nat) (v u : Value), i ≠ j → vals[i]? = some v → vals[j]? = some u → v.ownBlock = none ∨ v.ownBlock ≠ u.ownBlock
theorem Slots.nil (w : World) (B : Nat) : Slots w B [] [] := ⟨rfl, by simp, by simp⟩
end Go.Proofs.Ytinoedockljfeaa

/- The walks of connect.Components and connect.Connected. -/
namespace Go.Proofs.Ytinoedockljfeaa
open Go.RowKit Go.Maps Go.Proofs.Try
set_option maxRecDepth 100000
set_option maxHeartbeats 400000
end Go.Proofs.Ytinoedockljfeaa

/- A right graph's edges; its forest of parts against ways out of sets. No program in sight. -/
namespace Go.Proofs.Ytinoedockljfeaa
open Go Go.Proofs.Try
set_option linter.unusedVariables false
set_option linter.unusedSectionVars false
theorem gchk_ok {n : Int} : ∀ (es : List E3) (a b : Int), gchk n a b es = 0 → ∀ x ∈ es, 0 ≤ x.1 ∧ x.1 < n ∧ 0 ≤ x.2.1 ∧ x.2.1 < n ∧ 1 ≤ x.2.2 ∧ x.2.2 ≤ 50
  | [], _, _, _ => by simp
  | x :: t, a, b, h => by
    rw [gchk] at h
    split at h
    · rename_i c
      split at h
      · intro y hy
        rcases List.mem_cons.1 hy with rfl | hy
        · omega
        · exact gchk_ok t _ _ h y hy
      · omega
    · omega
theorem yfb {n : Nat} {es : List E3} (h : yaZ n es = 0) : EOk n es ∧ 1 ≤ n ∧ n ≤ 12 := by
  unfold yaZ at h
  split at h
  · rename_i c
    exact ⟨gchk_ok es _ _ h, by omega, by omega⟩
  · omega
theorem yhw {n : Nat} {S : Nat → Bool} : ∀ (es : List E3), yhi es → (∀ x ∈ es, S x.1.toNat = S x.2.1.toNat) → ∀ v, v < 12 → S (root (ygX es) v) = S v := by
  suffices H : ∀ (l : List E3) (F : List Nat), yhi l → (∀ x ∈ l, S x.1.toNat = S x.2.1.toNat) → yg9 F → (∀ v, v < 12 → S (root F v) = S v) → ∀ v, v < 12 → S (root (l.foldl (fun F x => yhe F x.1.toNat x.2.1.toNat) F) v) = S v by
    intro es hE hS
    refine H es yhp hE hS yhb fun v hv => ?_
    rw [yg3 (by rw [gn_of_lt (by simpa [yhp] using hv)]; simp [yhp])]
  intro l
  induction l with
  | nil => exact fun F _ _ _ h => h
  | cons x l ih =>
    intro F hE hS hF h
    have hx := hE x (by simp)
    have hSx := hS x (by simp)
    refine ih _ (fun y hy => hE y (by simp [hy])) (fun y hy => hS y (by simp [hy])) (yha hF (by omega) (by omega)) fun v hv => ?_
    rw [root_joinN hF (by omega) (by omega) v hv]
    have ha := h x.1.toNat (by omega)
    have hb := h x.2.1.toNat (by omega)
    split
    · rename_i e
      rw [← h v hv, e]
      rcases Nat.le_total (root F x.1.toNat) (root F x.2.1.toNat) with q | q
      · rw [Nat.max_eq_right q, Nat.min_eq_left q, ha, hb, hSx]
      · rw [Nat.max_eq_left q, Nat.min_eq_right q, ha, hb, hSx]
    · exact h v hv
theorem root_edge : ∀ (es : List E3), yhi es → ∀ x ∈ es, root (ygX es) x.1.toNat = root (ygX es) x.2.1.toNat := by
  suffices H : ∀ (l : List E3) (F : List Nat), yhi l → yg9 F → (∀ a b, a < 12 → b < 12 → root F a = root F b → root (l.foldl (fun F x => yhe F x.1.toNat x.2.1.toNat) F) a = root (l.foldl (fun F x => yhe F x.1.toNat x.2.1.toNat) F) b) ∧
      ∀ x ∈ l, root (l.foldl (fun F x => yhe F x.1.toNat x.2.1.toNat) F) x.1.toNat = root (l.foldl (fun F x => yhe F x.1.toNat x.2.1.toNat) F) x.2.1.toNat from
    fun es hE => (H es yhp hE yhb).2
  intro l
  induction l with
  | nil => exact fun F _ _ => ⟨fun a b _ _ h => h, by simp⟩
  | cons x l ih =>
    intro F hE hF
    have hx := hE x (by simp)
    have hJ := yha hF (a := x.1.toNat) (b := x.2.1.toNat) (by omega) (by omega)
    obtain ⟨i1, i2⟩ := ih (yhe F x.1.toNat x.2.1.toNat) (fun y hy => hE y (by simp [hy])) hJ
    have hr := root_joinN hF (a := x.1.toNat) (b := x.2.1.toNat) (by omega) (by omega)
    refine ⟨fun a b ha hb h => i1 a b ha hb (by rw [hr a ha, hr b hb, h]), fun y hy => ?_⟩
    rcases List.mem_cons.1 hy with rfl | hy
    · refine i1 _ _ (by omega) (by omega) ?_
      rw [hr _ (by omega), hr _ (by omega)]
      rcases Nat.le_total (root F y.1.toNat) (root F y.2.1.toNat) with q | q
      · rw [Nat.max_eq_right q, Nat.min_eq_left q, if_pos rfl]; split <;> omega
      · rw [Nat.max_eq_left q, Nat.min_eq_right q, if_pos rfl]; split <;> omega
    · exact i2 y hy
section
variable {n : Nat} {es : List E3} (hE : EOk n es) (hn : 1 ≤ n) (h12 : n ≤ 12)
include hE hn h12
theorem EOk.ends : yhi es := fun x hx => by have := hE x hx; omega
theorem W_edge {x : E3} (hx : x ∈ es) (hne : x.1 ≠ x.2.1) : 0 < W es x.1.toNat x.2.1.toNat := by
  have h := hE x hx
  exact (W_adj hE).2 ⟨x.2.2, yb3.2 ⟨x, hx, hne, by omega, by omega, rfl⟩⟩
end
end Go.Proofs.Ytinoedockljfeaa

/- The walks of package reduced: what is checked first, debts, the beginning of a state. -/
namespace Go.Proofs.Ytinoedockljfeaa
open Go.RowKit Go.Proofs.Try
set_option maxRecDepth 100000
set_option maxHeartbeats 8000000
end Go.Proofs.Ytinoedockljfeaa

/- The package's own functions: Reduce, Lend. -/
namespace Go.Proofs.Ytinoedockljfeaa
open Go Go.Proofs.Try
set_option linter.unusedVariables false
set_option linter.unusedSectionVars false
structure Leads (n : Nat) (es : List E3) (q : Nat) (d d' s' : List Int) : Prop where
  dl : d'.length = n
  sl : s'.length = n
  lp : ∀ v, v < n → gi d' v = gi d v - Lp n es (gi s') v
  sq : gi s' q = 0
  pos : ∀ v, v < n → v ≠ q → 0 ≤ gi d' v
  bd : ∀ v, v < n → -600000 ≤ gi d' v ∧ gi d' v ≤ 600000
  bs : ∀ v, v < n → -600000 ≤ gi s' v ∧ gi s' v ≤ 600000
structure Lends (n : Nat) (es : List E3) (q : Nat) (d d' s' : List Int) : Prop extends Leads n es q d d' s' where
  same : (∀ v, v < n → v ≠ q → 0 ≤ gi d v) → d' = d
structure Reduces (n : Nat) (es : List E3) (q : Nat) (d d' s' : List Int) : Prop extends Leads n es q d d' s' where
  red : Red n es q d'
structure Small (n : Int) (es : List E3) (d : List Int) : Prop where
  el : es.length ≤ 40
  g : yaZ n es = 0 → n ≤ 6 ∧ (es.map (·.2.2)).sum ≤ 9
  d : checkF d n = 0 → ∀ v : Nat, (v : Int) < n → -200 ≤ gi d v ∧ gi d v ≤ 200
section
variable {n : Nat} {es : List E3} {q : Nat} {d0 : List Int} (hE : EOk n es) (hn : n ≤ 6) (hn1 : 1 ≤ n) (hq : q < n) (hC : Conn n es q) (hsum : (es.map (·.2.2)).sum ≤ 9) (hel : es.length ≤ 40) (hd0 : ∀ v, v < n → -200 ≤ gi d0 v ∧ gi d0 v ≤ 200) (hdl : d0.length = n)
include hE hn hn1 hq hC hsum hel hd0 hdl
end
end Go.Proofs.Ytinoedockljfeaa

/- The package's own functions: IsReduced, Unburnt. -/
namespace Go.Proofs.Ytinoedockljfeaa
open Go Go.RowKit Go.Proofs.Try
set_option linter.unusedVariables false
set_option linter.unusedSectionVars false
def OInts (w : World) (B : Nat) (A : Option Addr) (l c : Nat) (xs : List Int) : Prop := OwnS w B 3 1 A l c (xs.map (Value.int .i64))
theorem OInts.nil (w : World) (B : Nat) : OInts w B none 0 0 [] := OwnS.nil w B _ 1
end Go.Proofs.Ytinoedockljfeaa

/- The chapter's examples come out right. -/
namespace Go.Proofs.Ytinoedockljfeaa
open Go Go.RowKit Go.Shelf Go.Proofs.Try
set_option linter.unusedVariables false
set_option linter.unusedSectionVars false
set_option linter.unusedSimpArgs false
end Go.Proofs.Ytinoedockljfeaa

/- Plain facts on graphs that the references need: checks, weights, connectedness, sets as bits. No program in sight. -/
namespace Go.Proofs.Ytinoedockljfeaa
open Go Go.RowKit Go.Shelf Go.Proofs.Try
set_option linter.unusedVariables false
set_option linter.unusedSectionVars false
set_option linter.unusedSimpArgs false
def yey (n a b : Int) (x : E3) : Int := if (0 ≤ x.1 ∧ x.1 < n) ∧ (0 ≤ x.2.1 ∧ x.2.1 < n) ∧ 1 ≤ x.2.2 ∧ x.2.2 ≤ 50 then (if x.1 ≤ x.2.1 ∧ yc6 a b x.1 x.2.1 < 0 then 0 else 9) else 2
theorem ye0 (n a b : Int) (x : E3) (t : List E3) : gchk n a b (x :: t) = if yey n a b x = 0 then gchk n x.1 x.2.1 t else yey n a b x := by
  rw [gchk]
  unfold yey
  by_cases c : (0 ≤ x.1 ∧ x.1 < n) ∧ (0 ≤ x.2.1 ∧ x.2.1 < n) ∧ 1 ≤ x.2.2 ∧ x.2.2 ≤ 50
  · rw [if_pos c, if_pos c]
    by_cases c2 : x.1 ≤ x.2.1 ∧ yc6 a b x.1 x.2.1 < 0
    · rw [if_pos c2, if_pos c2, if_pos rfl]
    · rw [if_neg c2, if_neg c2, if_neg (by omega)]
  · rw [if_neg c, if_neg c, if_neg (by omega)]
theorem pcmp_lt (a b c d : Int) : yc6 a b c d < 0 ↔ a < c ∨ (a = c ∧ b < d) := by
  unfold yc6 orF cmpF
  by_cases h1 : a < c
  · simp [h1]
  · by_cases h2 : c < a
    · simp [h1, h2]; omega
    · have : a = c := by omega
      subst this
      simp
      by_cases h3 : b < d
      · simp [h3]
      · by_cases h4 : d < b <;> simp [h3, h4]
def pre (es : List E3) (k : Nat) : Int × Int := if k = 0 then (-1, -1) else ((ge es (k - 1)).1, (ge es (k - 1)).2.1)
theorem gchk_lt {n : Int} : ∀ (es : List E3) (a b : Int), gchk n a b es = 0 → ∀ x ∈ es, (a < x.1 ∨ (a = x.1 ∧ b < x.2.1)) ∧ x.1 ≤ x.2.1
  | [], _, _, _ => by simp
  | x :: t, a, b, h => by
    rw [ye0] at h
    by_cases h0 : yey n a b x = 0
    · rw [if_pos h0] at h
      have hx : x.1 ≤ x.2.1 ∧ (a < x.1 ∨ (a = x.1 ∧ b < x.2.1)) := by
        unfold yey at h0
        split at h0
        · split at h0
          · rename_i c; exact ⟨c.1, (pcmp_lt _ _ _ _).1 c.2⟩
          · omega
        · omega
      intro y hy
      rcases List.mem_cons.1 hy with rfl | hy
      · exact ⟨hx.2, hx.1⟩
      · have := gchk_lt t _ _ h y hy
        omega
    · rw [if_neg h0] at h; exact absurd h h0
theorem yhk {n : Int} (u v : Nat) (huv : u ≠ v) : ∀ (es : List E3) (a b : Int), gchk n a b es = 0 → ((es.find? fun x => decide (x.1 = mnF (u : Int) v ∧ x.2.1 = mxF (u : Int) v)).map (·.2.2)).getD 0 = W es u v
  | [], _, _, _ => rfl
  | x :: t, a, b, h => by
    have hlt := gchk_lt (x :: t) a b h
    rw [ye0] at h
    by_cases h0 : yey n a b x = 0
    · rw [if_pos h0] at h
      have ih := yhk u v huv t _ _ h
      have ht := gchk_lt t _ _ h
      have hx := (hlt x (by simp)).2
      have hmn : mnF (u : Int) v = if (u : Int) < v then (u : Int) else v := by unfold mnF; split <;> (try split) <;> omega
      have hmx : mxF (u : Int) v = if (u : Int) < v then (v : Int) else u := by unfold mxF; split <;> (try split) <;> omega
      rw [List.find?_cons, W_cons]
      by_cases c : x.1 = mnF (u : Int) v ∧ x.2.1 = mxF (u : Int) v
      · have hnone : t.find? (fun x => decide (x.1 = mnF (u : Int) v ∧ x.2.1 = mxF (u : Int) v)) = none := by
          rw [List.find?_eq_none]
          intro y hy
          have := ht y hy
          simp only [decide_eq_true_eq]
          omega
        rw [hnone] at ih
        have hw : w1 x u v = x.2.2 := by
          unfold w1
          rw [if_pos]
          rw [hmn, hmx] at c
          by_cases q : (u : Int) < v
          · rw [if_pos q, if_pos q] at c; omega
          · rw [if_neg q, if_neg q] at c; omega
        rw [decide_eq_true c, hw, ← ih]
        simp
      · have hw : w1 x u v = 0 := by
          unfold w1
          rw [if_neg]
          intro q
          apply c
          rw [hmn, hmx]
          by_cases q2 : (u : Int) < v
          · rw [if_pos q2, if_pos q2]; omega
          · rw [if_neg q2, if_neg q2]; omega
        rw [decide_eq_false c, hw, ← ih]
        simp
    · rw [if_neg h0] at h; exact absurd h h0
theorem ydX {n : Int} {es : List E3} (h : yaZ n es = 0) : gchk n (-1) (-1) es = 0 := by
  unfold yaZ at h
  split at h
  · exact h
  · omega
def smallF (n : Int) (es : List E3) (a b : Int) : Bool := decide (es.length ≤ 40 ∧ (yaZ n es = 0 → n ≤ a ∧ (es.map (·.2.2)).sum ≤ b))
theorem gb_rep (n v : Nat) : gb (List.replicate n false) v = false := by
  rcases Nat.lt_or_ge v n with h | h
  · rw [yd4 (by simpa using h)]; simp
  · exact gb_ge (by simpa using h)
theorem set_same {l : List Bool} {v : Nat} (h : gb l v = true) : l.set v true = l := by
  rcases Nat.lt_or_ge v l.length with hv | hv
  · rw [yd4 hv] at h
    rw [← h]; exact List.set_getElem_self hv
  · rw [gb_ge hv] at h; cases h
def Cl (n : Nat) (es : List E3) (o : List Bool) : Prop := ∀ a b, a < n → b < n → gb o a = true → 0 < W es a b → gb o b = true
theorem root_W {n : Nat} {es : List E3} (hE : EOk n es) (hn : 1 ≤ n) (h12 : n ≤ 12) {a b : Nat} (h : 0 < W es a b) : root (ygX es) a = root (ygX es) b := by
  obtain ⟨m, hm⟩ := (W_adj hE).1 h
  obtain ⟨x, hx, q1, q2, q3, q4⟩ := yb3.1 hm
  have h1 := root_edge es (hE.ends hn h12) x hx
  have hbx := hE x hx
  rcases q2 with q2 | q2
  · rwa [show x.1.toNat = a by omega, show x.2.1.toNat = b by omega] at h1
  · rw [show x.1.toNat = b by omega, show x.2.1.toNat = a by omega] at h1; exact h1.symm
theorem cl_root {n : Nat} {es : List E3} (hE : EOk n es) (hn : 1 ≤ n) (h12 : n ≤ 12) {o : List Bool} (hC : Cl n es o) {v : Nat} (hv : v < n) (hvo : gb o v = true) (hs : ∀ u, u < n → gb o u = true → root (ygX es) u = root (ygX es) v) :
    ∀ u, u < n → gb o u = decide (root (ygX es) u = root (ygX es) v) := by
  have hcl : ∀ x ∈ es, gb o x.1.toNat = gb o x.2.1.toNat := fun x hx => by
    have hb := hE x hx
    by_cases e : x.1 = x.2.1
    · rw [e]
    · have hw := W_edge hE hn h12 hx e
      cases h1 : gb o x.1.toNat <;> cases h2 : gb o x.2.1.toNat
      · rfl
      · rw [hC _ _ (by omega) (by omega) h2 (by rw [yho]; exact hw)] at h1; cases h1
      · rw [hC _ _ (by omega) (by omega) h1 hw] at h2; cases h2
      · rfl
  have hside := yhw (n := n) (S := gb o) es (hE.ends hn h12) hcl
  intro u hu
  cases h : gb o u with
  | true => exact (decide_eq_true (hs u hu h)).symm
  | false =>
    symm
    rw [decide_eq_false_iff_not]
    intro e
    have h1 := hside u (by omega)
    have h2 := hside v (by omega)
    rw [e, h2, hvo] at h1
    rw [h] at h1; cases h1
end Go.Proofs.Ytinoedockljfeaa

/- Reduce of a divisor that is reduced already: it is the form, and the script is 0. -/
namespace Go.Proofs.Ytinoedockljfeaa
open Go Go.Proofs.Try
set_option linter.unusedVariables false
set_option linter.unusedSectionVars false
end Go.Proofs.Ytinoedockljfeaa

/- Pure forms of functions whose walks were proved by hand: reduced's, connect.Connected, the law's awake. -/
namespace Go.Proofs.Ytinoedockljfeaa
open Go Go.RowKit Go.Shelf Go.Proofs.Try
set_option linter.unusedVariables false
set_option linter.unusedSectionVars false
section
variable {O : Nat → Prop} {w : World} {n : Int} {es : List E3} {q : Int} {d : List Int} {A : Option Addr} {l c : Nat} {D : Option Addr} {ld cd : Nat}
end
end Go.Proofs.Ytinoedockljfeaa

/- A table whose rows are slices of one's own: the outer slice holds their addresses, the rows are one thing. No program in sight. -/
namespace Go.Proofs.Ytinoedockljfeaa
open Go Go.RowKit Go.Shelf Go.Proofs.Try
set_option linter.unusedVariables false
set_option linter.unusedSimpArgs false
theorem tn_lt {a : Int} {n : Nat} (h : 0 ≤ a ∧ a < (n : Int)) : a.toNat < n := by omega
def fA : Fl (Option Addr × Nat × Nat) := ⟨1, fun x => [.slice x.1 x.2.1 x.2.2], fun _ => rfl, fun x u hu => by rw [List.mem_singleton] at hu; subst hu; rfl⟩
def cA : Cod (Option Addr × Nat × Nat) := fA.cod
def rowH (g : Nat) (xs : List Int) : Option Addr × Nat × Nat := (some ⟨g, 0, none⟩, xs.length, xs.length)
def ows (G : List Nat) (T : List (List Int)) : List (Option Addr × Nat × Nat) := List.zipWith rowH G T
def rowA (G : List Nat) (a : Int) : Option Addr := some ⟨G.getD a.toNat 0, 0, none⟩
theorem ows_len {G : List Nat} {T : List (List Int)} (h : G.length = T.length) : (ows G T).length = T.length := by simp [ows, h]
theorem ows_get {G : List Nat} {T : List (List Int)} {k g : Nat} {xs : List Int} (hg : G[k]? = some g) (hx : T[k]? = some xs) : (ows G T)[k]? = some (rowH g xs) := by
  simp [ows, List.getElem?_zipWith, hg, hx]
theorem ows_snoc {G : List Nat} {T : List (List Int)} (h : G.length = T.length) (g : Nat) (xs : List Int) : ows (G ++ [g]) (T ++ [xs]) = ows G T ++ [rowH g xs] := by
  unfold ows
  rw [List.zipWith_append h]; rfl
theorem ows_set {G : List Nat} {T : List (List Int)} {a : Nat} {xs ys : List Int} (hx : T[a]? = some xs) (hl : ys.length = xs.length) : ows G (T.set a ys) = ows G T := by
  apply List.ext_getElem?
  intro k
  simp only [ows, List.getElem?_zipWith, List.getElem?_set]
  by_cases hk : a = k
  · subst hk
    have : a < T.length := (List.getElem?_eq_some_iff.1 hx).1
    rw [hx]
    cases G[a]? <;> simp [this, rowH, hl]
  · simp [hk]
section
variable {w0 w w' : World} {S O : Nat → Prop} {L : Hold} {e e2 : TypeId} {G : List Nat} {T : List (List Int)}
theorem Sep.rowsl (h : Sep w0 S O w L) (i : Nat) (hi : L i = .rows e G T) : G.length = T.length := by
  have := h.ok i; rw [hi] at this; exact this.2.1
theorem Sep.rowsnil (h : Sep w0 S O w L) (i : Nat) (hi : L i = .gone) (e : TypeId) : Sep w0 S O w (stl L i (.rows e [] [])) :=
  h.add i hi _ (Keeps.refl _ _) (fun k hk => by cases hk) ⟨List.nodup_nil, rfl, fun k g xs hg => by simp at hg⟩
theorem Sep.rowadd (h : Sep w0 S O w L) (i j : Nat) (hij : Nat.beq i j = false) (hi : L i = .rows e G T) {g l : Nat} {xs : List Int} (hj : L j = .own cI e (some ⟨g, 0, none⟩) l l xs) : Sep w0 S O w (stl (stl L j .gone) i (.rows e (G ++ [g]) (T ++ [xs]))) := by
  have hij : i ≠ j := fun q => by subst q; simp at hij
  have hri := h.ok i
  rw [hi] at hri
  have hrj := h.own j hj
  have hgG : g ∉ G := fun hm => hij (h.nd i j g (by rw [hi]; exact hm) (by rw [hj]; exact rfl))
  have hl : l = xs.length := hrj.1
  have hsub : ∀ k, Bl O (stl (stl L j .gone) i (.rows e (G ++ [g]) (T ++ [xs]))) k → Bl O L k := by
    rintro k (q | ⟨x, hx⟩)
    · exact .inl q
    · by_cases e1 : x = i
      · subst e1
        rw [yaH] at hx
        rcases List.mem_append.1 hx with q | q
        · exact .inr ⟨x, by rw [hi]; exact q⟩
        · rw [List.mem_singleton] at q; subst q; exact .inr ⟨j, by rw [hj]; exact rfl⟩
      · rw [yau _ _ e1] at hx
        by_cases e2 : x = j
        · subst e2; rw [yaH] at hx; cases hx
        · rw [yau _ _ e2] at hx; exact .inr ⟨x, hx⟩
  have hhas : ∀ x k, (stl (stl L j .gone) i (.rows e (G ++ [g]) (T ++ [xs])) x).has k → (x = i ∧ (k ∈ G ∨ k = g)) ∨ (x ≠ i ∧ x ≠ j ∧ (L x).has k) := by
    intro x k hx
    by_cases e1 : x = i
    · subst e1
      rw [yaH] at hx
      refine .inl ⟨rfl, ?_⟩
      rcases List.mem_append.1 hx with q | q
      · exact .inl q
      · exact .inr (List.mem_singleton.1 q)
    · rw [yau _ _ e1] at hx
      by_cases e2 : x = j
      · subst e2; rw [yaH] at hx; cases hx
      · rw [yau _ _ e2] at hx; exact .inr ⟨e1, e2, hx⟩
  refine h.step (T := no) (Keeps.refl _ _) (fun _ _ h => h.elim) (fun x k hk => .inl ?_) (fun x => ?_) (fun a b k ha hb => ?_)
  · rcases hhas x k hk with ⟨rfl, q | rfl⟩ | ⟨_, _, q⟩
    · exact ⟨x, by rw [hi]; exact q⟩
    · exact ⟨j, by rw [hj]; exact rfl⟩
    · exact ⟨x, q⟩
  · by_cases e1 : x = i
    · subst e1
      rw [yaH]
      refine .inr ⟨?_, by simp [hri.2.1], fun k g' xs' hg' hx' => ?_⟩
      · rw [List.nodup_append]
        refine ⟨hri.1, by simp, fun a ha b hb => ?_⟩
        rw [List.mem_singleton] at hb; subst hb
        exact fun q => hgG (q ▸ ha)
      · have hfl : ∀ {O1 O2 : Nat → Prop} {A : Option Addr} {l c : Nat} {xs : List Int}, OwnC cI 0 O1 w e A l c xs → OwnC cI 0 O2 w e A l c xs := fun ⟨a, cells, b, c⟩ => ⟨a, cells, b, c⟩
        rcases Nat.lt_or_ge k G.length with q | q
        · rw [List.getElem?_append_left q] at hg'
          rw [List.getElem?_append_left (by rw [← hri.2.1]; exact q)] at hx'
          exact hfl (hri.2.2 k g' xs' hg' hx')
        · rw [List.getElem?_append_right q] at hg'
          rw [List.getElem?_append_right (by rw [← hri.2.1]; exact q)] at hx'
          have hk0 : k - G.length = 0 := by
            have := (List.getElem?_eq_some_iff.1 hg').1
            simp at this; omega
          have hk1 : k - T.length = 0 := by rw [← hri.2.1]; exact hk0
          rw [hk0] at hg'; rw [hk1] at hx'
          simp at hg' hx'
          subst hg'; subst hx'
          have := hfl (O2 := Bl O (stl (stl L j .gone) x (.rows e (G ++ [g]) (T ++ [xs])))) hrj
          rw [hl] at this
          exact this
    · rw [yau _ _ e1]
      by_cases e2 : x = j
      · subst e2; rw [yaH]; exact .inr trivial
      · rw [yau _ _ e2]; exact .inl ⟨x, rfl, fun _ _ => id⟩
  · rcases hhas a k ha with ⟨rfl, qa⟩ | ⟨a1, a2, qa⟩
    · rcases hhas b k hb with ⟨rfl, qb⟩ | ⟨b1, b2, qb⟩
      · rfl
      · rcases qa with qa | rfl
        · exact absurd (h.nd a b k (by rw [hi]; exact qa) qb).symm b1
        · exact absurd (h.nd j b k (by rw [hj]; exact rfl) qb).symm b2
    · rcases hhas b k hb with ⟨rfl, qb⟩ | ⟨b1, b2, qb⟩
      · rcases qb with qb | rfl
        · exact absurd (h.nd a b k qa (by rw [hi]; exact qb)) a1
        · exact absurd (h.nd a j k qa (by rw [hj]; exact rfl)) a2
      · exact h.nd a b k qa qb
theorem Sep.rowown (h : Sep w0 S O w L) (i : Nat) (hi : L i = .rows e G T) {a : Int} (ha : 0 ≤ a ∧ a < (T.length : Int)) : OwnC cI 0 (Bl O L) w e (rowA G a) (gx T a.toNat).length (gx T a.toNat).length (gx T a.toNat) := by
  have hri := h.ok i
  rw [hi] at hri
  have h1 : a.toNat < T.length := by omega
  have h2 : a.toNat < G.length := by rw [hri.2.1]; exact h1
  have := hri.2.2 a.toNat G[a.toNat] (gx T a.toNat) (List.getElem?_eq_getElem h2) (yaS h1)
  have e : rowA G a = some ⟨G[a.toNat], 0, none⟩ := by simp [rowA, h2]
  rw [e]; exact this
theorem Sep.rowfp (h : Sep w0 S O w L) (i : Nat) (hi : L i = .rows e G T) {a : Int} (ha : 0 ≤ a ∧ a < (T.length : Int)) : (FP.sl cI (rowA G a) (gx T a.toNat).length (gx T a.toNat).length (gx T a.toNat)).P no w :=
  (h.rowown i hi ha).rd (fun _ _ h => h.elim) fun _ _ => id
theorem Sep.rowcell (h : Sep w0 S O w L) (i j : Nat) (hi : L i = .rows e G T) {A : Option Addr} {l cap : Nat} (hj : L j = .own cA e2 A l cap (ows G T)) {a : Int} (ha : 0 ≤ a ∧ a < (T.length : Int)) : w.cell? (ixA A a 1) = some (.slice (rowA G a) (gx T a.toNat).length (gx T a.toNat).length) := by
  have hl := h.rowsl i hi
  have h1 : a.toNat < T.length := by omega
  have h2 : a.toNat < G.length := by omega
  have := rd_1 (f := fA) (h.rdo j hj) (i := a) (by rw [ows_len hl]; exact ha) (x := rowH G[a.toNat] (gx T a.toNat)) (fun _ => ows_get (List.getElem?_eq_getElem h2) (yaS h1)) (u := .slice (rowA G a) (gx T a.toNat).length (gx T a.toNat).length) (by simp [fA, rowH, rowA, h2])
  exact this
theorem Sep.rowix (h : Sep w0 S O w L) (i j : Nat) (hi : L i = .rows e G T) {A : Option Addr} {l cap : Nat} (hj : L j = .own cA e2 A l cap (ows G T)) {a : Int} (ha : 0 ≤ a ∧ a < (T.length : Int)) : Ix A l a :=
  yaN (h.rdo j hj) (by rw [ows_len (h.rowsl i hi)]; exact ha)
theorem Sep.rowwr (h : Sep w0 S O w L) (i : Nat) (hi : L i = .rows e G T) {a : Int} (ha : 0 ≤ a ∧ a < (T.length : Int)) {b : Int} (hb : 0 ≤ b ∧ b < ((gx T a.toNat).length : Int)) : Wr w (ixA (rowA G a) b 1) := by
  obtain ⟨hl, cells, ho, hE⟩ := h.rowown i hi ha
  obtain ⟨vs, hR, hu⟩ := hE b.toNat (gx T a.toNat)[b.toNat] (List.getElem?_eq_getElem (by omega))
  have hv := cI.len hR
  obtain ⟨v, rfl⟩ := List.length_eq_one_iff.1 hv
  obtain ⟨g, o, hA, _, h1, h2⟩ := ho.cellAt (hu 0 v rfl)
  have ho0 : o = 0 ∧ G.getD a.toNat 0 = g := by unfold rowA at hA; injection hA with hA; injection hA with q1 q2; exact ⟨q2.symm, q1⟩
  unfold rowA
  rw [yd6, ho0.2]
  rw [ho0.1] at h1 h2
  have hsz : cI.sz = 1 := rfl
  rw [hsz, Nat.add_zero] at h1 h2
  exact ⟨by rw [h1]; rfl, h2⟩
theorem Sep.rowst (h : Sep w0 S O w L) (i : Nat) (hi : L i = .rows e G T) {a : Int} (ha : 0 ≤ a ∧ a < (T.length : Int)) {b : Int} (hb : 0 ≤ b ∧ b < ((gx T a.toNat).length : Int)) (v : Int) (e1 : w' = w.setCell (ixA (rowA G a) b 1) (.int .i64 v)) : Sep w0 S O w' (stl L i (.rows e G (T.set a.toNat ((gx T a.toNat).set b.toNat v)))) := by
  have hri := h.ok i
  rw [hi] at hri
  have h1 : a.toNat < T.length := by omega
  have h2 : a.toNat < G.length := by rw [hri.2.1]; exact h1
  have hA : rowA G a = some ⟨G[a.toNat], 0, none⟩ := by simp [rowA, h2]
  rw [hA, yd6, Nat.mul_one, Nat.zero_add] at e1
  have hK : Keeps (fun j => j = G[a.toNat]) w w' := by rw [e1]; exact (Keeps.refl (fun j => j = G[a.toNat]) w).setCell (p := ⟨G[a.toNat], b.toNat, none⟩) (fun _ => rfl) _
  refine h.upd i _ hK (fun j _ hj => by rw [hi, hj]; exact List.getElem_mem h2) (fun j hj => .inl (by rw [hi]; exact hj)) ⟨hri.1, by rw [List.length_set]; exact hri.2.1, fun k g xs hg hx => ?_⟩
  by_cases q : a.toNat = k
  · subst q
    rw [List.getElem?_set, if_pos rfl, if_pos h1] at hx
    rw [List.getElem?_eq_getElem h2] at hg
    cases hg; cases hx
    obtain ⟨hl, cells, ho, hE⟩ := hri.2.2 a.toNat G[a.toNat] (gx T a.toNat) (List.getElem?_eq_getElem h2) (yaS h1)
    have hbl : b.toNat < (gx T a.toNat).length := by omega
    have hcl : cells.length = (gx T a.toNat).length := by rw [ho.1]; exact Nat.mul_one _
    have ho2 := ho.set1 (i := b.toNat) (by omega) (.int .i64 v) rfl
    refine ⟨rfl, cells.set b.toNat (.int .i64 v), ?_, fun t y hy => ?_⟩
    · rw [e1, List.length_set]
      simpa using ho2
    · rw [List.getElem?_set] at hy
      by_cases q2 : b.toNat = t
      · subst q2
        rw [if_pos rfl, if_pos hbl] at hy
        cases hy
        refine ⟨[.int .i64 v], rfl, fun s u hs => ?_⟩
        have hs0 : s = 0 := by
          have := (List.getElem?_eq_some_iff.1 hs).1
          simp at this; exact this
        subst hs0
        simp at hs
        subst hs
        show (cells.set b.toNat _)[b.toNat * 1 + 0]? = _
        rw [Nat.mul_one, Nat.add_zero, List.getElem?_set, if_pos rfl, if_pos (by omega)]
      · rw [if_neg q2] at hy
        obtain ⟨vs, hR, hu⟩ := hE t y hy
        refine ⟨vs, hR, fun s u hs => ?_⟩
        have hs0 : s = 0 := by
          have := (List.getElem?_eq_some_iff.1 hs).1
          have hv : vs.length = 1 := cI.len hR
          omega
        have := hu s u hs
        rw [List.getElem?_set, if_neg (by show ¬ b.toNat = t * 1 + s; omega)]
        exact this
  · rw [List.getElem?_set, if_neg q] at hx
    obtain ⟨hl, cells, ho, hE⟩ := hri.2.2 k g xs hg hx
    have hne : g ≠ G[a.toNat] := fun e => q (by
      obtain ⟨hk, e2⟩ := List.getElem?_eq_some_iff.1 hg
      exact ((List.getElem_inj hri.1).1 (e2.trans e)).symm)
    exact ⟨hl, cells, ho.keep_ fun k' hk => by cases hk; exact hK.block g (ho.at_ rfl).2 hne, fun t y hy => hE t y hy⟩
theorem Sep.rowre (h : Sep w0 S O w L) (j : Nat) {A : Option Addr} {l cap : Nat} (hj : L j = .own cA e2 A l cap (ows G T)) {T' : List (List Int)} (e : ows G T' = ows G T) : Sep w0 S O w (stl L j (.own cA e2 A l cap (ows G T'))) := by
  have : stl L j (.own cA e2 A l cap (ows G T')) = L := by
    funext k
    by_cases q : k = j
    · subst q; rw [yaH, e, hj]
    · rw [yau _ _ q]
  rw [this]; exact h
theorem Sep.rowfrz (h : Sep w0 S O w L) (i j : Nat) (hij : Nat.beq i j = false) (hi : L i = .rows e G T) {A : Option Addr} {l cap : Nat} (hj : L j = .own cA e2 A l cap (ows G T)) : Sep w0 S O w (stl (stl L i .gone) j (.own (cL cI) e2 A l cap T)) := by
  have hij : i ≠ j := fun q => by subst q; simp at hij
  have hri := h.ok i
  rw [hi] at hri
  obtain ⟨hl, cells, ho, hE⟩ := h.own j hj
  have hlen := ows_len hri.2.1
  have hhas : ∀ x k, (stl (stl L i .gone) j (.own (cL cI) e2 A l cap T) x).has k → x ≠ i ∧ (L x).has k := by
    intro x k hx
    by_cases e1 : x = j
    · subst e1; rw [yaH] at hx; exact ⟨hij.symm, by rw [hj]; exact hx⟩
    · rw [yau _ _ e1] at hx
      by_cases e2 : x = i
      · subst e2; rw [yaH] at hx; cases hx
      · rw [yau _ _ e2] at hx; exact ⟨e2, hx⟩
  have hnb : ∀ g, g ∈ G → ¬ Bl O (stl (stl L i .gone) j (.own (cL cI) e2 A l cap T)) g := by
    rintro g hg (q | ⟨x, hx⟩)
    · have h1 := h.lt g q
      rcases h.bd i g (by rw [hi]; exact hg) with h2 | h2
      · omega
      · exact h1.2 h2
    · obtain ⟨h1, h2⟩ := hhas x g hx
      exact h1 (h.nd x i g h2 (by rw [hi]; exact hg))
  refine h.step (T := no) (Keeps.refl _ _) (fun _ _ h => h.elim) (fun x k hk => .inl ⟨x, (hhas x k hk).2⟩) (fun x => ?_) (fun a b k ha hb => h.nd a b k (hhas a k ha).2 (hhas b k hb).2)
  by_cases e1 : x = j
  · subst e1
    rw [yaH]
    refine .inr ⟨by rw [hl, hlen], cells, ho, fun k xs hx => ?_⟩
    have hkT : k < T.length := (List.getElem?_eq_some_iff.1 hx).1
    have hkG : k < G.length := by rw [hri.2.1]; exact hkT
    obtain ⟨vs, hR, hu⟩ := hE k _ (ows_get (List.getElem?_eq_getElem hkG) hx)
    have hvs : vs = [.slice (some ⟨G[k], 0, none⟩) xs.length xs.length] := hR
    refine ⟨vs, ⟨_, _, _, hvs, rfl, Nat.le_refl _, ?_⟩, hu⟩
    have := (hri.2.2 k G[k] xs (List.getElem?_eq_getElem hkG) hx).rd (O' := Bl O (stl (stl L i .gone) x (.own (cL cI) e2 A l cap T))) (fun k _ hk => by
      rcases hk with q | ⟨y, hy⟩
      · exact .inl q
      · exact .inr ⟨y, (hhas y k hy).2⟩) (fun k' hk' => by cases hk'; exact hnb _ (List.getElem_mem hkG))
    exact this.2.2
  · rw [yau _ _ e1]
    by_cases e2 : x = i
    · subst e2; rw [yaH]; exact .inr trivial
    · rw [yau _ _ e2]; exact .inl ⟨x, rfl, fun _ _ => id⟩
theorem Sep.tabnil (h : Sep w0 S O w L) (i j : Nat) (hi : L i = .gone) (hj : L j = .gone) (d : Nat.beq j i = false) (e2 e : TypeId) : Sep w0 S O w (stl (stl L i (.own cA e2 none 0 0 (ows [] []))) j (.rows e [] [])) :=
  Sep.rowsnil (h.nil i hi cA e2) j (by rw [yau _ _ (fun q => by subst q; simp at d)]; exact hj) e
theorem Sep.rowpush (h : Sep w0 S O w L) (i j k : Nat) (d1 : Nat.beq j i = false) (d2 : Nat.beq j k = false) (d3 : Nat.beq i k = false) (hi : L i = .rows e G T) {A : Option Addr} {l cap g m : Nat} {xs : List Int} (hj : L j = .own cA e2 A l cap (ows G T ++ [(some ⟨g, 0, none⟩, m, m)])) (hk : L k = .own cI e (some ⟨g, 0, none⟩) m m xs) :
    Sep w0 S O w (stl (stl (stl L k .gone) i (.rows e (G ++ [g]) (T ++ [xs]))) j (.own cA e2 A l cap (ows (G ++ [g]) (T ++ [xs])))) := by
  have hm : m = xs.length := (h.own k hk).1
  have hl := h.rowsl i hi
  have h2 := h.rowadd i k d3 hi hk
  have e1 : ows (G ++ [g]) (T ++ [xs]) = ows G T ++ [(some ⟨g, 0, none⟩, m, m)] := by rw [ows_snoc hl, hm]; rfl
  have n1 : j ≠ i := fun q => by subst q; simp at d1
  have n2 : j ≠ k := fun q => by subst q; simp at d2
  have : stl (stl (stl L k .gone) i (.rows e (G ++ [g]) (T ++ [xs]))) j (.own cA e2 A l cap (ows (G ++ [g]) (T ++ [xs]))) = stl (stl L k .gone) i (.rows e (G ++ [g]) (T ++ [xs])) := by
    funext x
    by_cases q : x = j
    · subst q; rw [yaH, yau _ _ n1, yau _ _ n2, hj, e1]
    · rw [yau _ _ q]
  rw [this]; exact h2
end
end Go.Proofs.Ytinoedockljfeaa

/- Drawn regions whose operations with effects stand in several open orders: a tree of orders is walked. -/
namespace Go.Proofs.Ytinoedockljfeaa
open Go Go.Proofs.Try
set_option linter.unusedVariables false
set_option linter.unusedSimpArgs false
inductive OT where
  | nil : OT
  | one (i : Nat) (s : List Nat) (t : OT) : OT
  | both (a b : OT) : OT
namespace OT
def ids : OT → List Nat
  | nil => []
  | one i _ t => i :: t.ids
  | both a b => a.ids ++ b.ids
def nodes : OT → List (Nat × List Nat)
  | nil => []
  | one i s t => (i, s) :: t.nodes
  | both a b => a.nodes ++ b.nodes
def cands : OT → List Nat
  | nil => []
  | one i _ _ => [i]
  | both a b => a.cands ++ b.cands
def len : OT → Nat
  | nil => 0
  | one _ _ t => t.len + 1
  | both a b => max a.len b.len
theorem ids_nodes : ∀ (T : OT) (i : Nat), i ∈ T.ids ↔ ∃ s, (i, s) ∈ T.nodes
  | nil, i => by simp [ids, nodes]
  | one j s t, i => by
    simp only [ids, nodes, List.mem_cons, ids_nodes t i, Prod.mk.injEq]
    constructor
    · rintro (rfl | ⟨s', h⟩)
      · exact ⟨s, .inl ⟨rfl, rfl⟩⟩
      · exact ⟨s', .inr h⟩
    · rintro ⟨s', ⟨rfl, _⟩ | h⟩
      · exact .inl rfl
      · exact .inr ⟨s', h⟩
  | both a b, i => by
    simp only [ids, nodes, List.mem_append, ids_nodes a i, ids_nodes b i]
    constructor
    · rintro (⟨s, h⟩ | ⟨s, h⟩)
      · exact ⟨s, .inl h⟩
      · exact ⟨s, .inr h⟩
    · rintro ⟨s, h | h⟩
      · exact .inl ⟨s, h⟩
      · exact .inr ⟨s, h⟩
def same (a b : OT) : Bool := (a.ids.all fun i => b.ids.contains i) && (b.ids.all fun i => a.ids.contains i)
theorem same.iff {a b : OT} (h : same a b = true) (i : Nat) : i ∈ a.ids ↔ i ∈ b.ids := by
  simp only [same, Bool.and_eq_true, List.all_eq_true, List.contains_iff_mem] at h
  exact ⟨h.1 i, h.2 i⟩
end OT
def seqT (P : Program) (ops : Array Oper) (Q : Act → World → Prop) : OT → List (Nat × Sem Next × Value) → Act → World → Prop
  | .nil, _, a, w => Q a w
  | .one i s t, pend, a, w => match ops[i]? with
    | none => seqT P ops Q t pend a w
    | some o => if Region.wanted o (yielded ops a.tmps) = true then
        (if yax o.op = true then ∃ v, (execOp a.eval o).run P w = .ok (.value v) w ∧ seqT P ops Q t ((i, execOp a.eval o, v) :: pend) (a.put o.dst v) w
         else ya6 o.op = true ∧ ya3 P o a.eval w fun v w' => (∀ p ∈ pend, p.1 ∈ s → p.2.1.run P w' = .ok (.value p.2.2) w') ∧ seqT P ops Q t pend (a.put o.dst v) w')
      else seqT P ops Q t pend (a.put o.dst undef) w
  | .both x y, pend, a, w => seqT P ops Q x pend a w ∧ seqT P ops Q y pend a w
def okN (ops : Array Oper) (j : Nat) (x : Nat × List Nat) : Bool :=
  match ops[j]?, ops[x.1]? with
  | some oj, some oi => !(x.1 == j) && (oj.after.all fun e => !Region.binds .any e || !(e.on == x.1)) && ((yax oj.op && oj.apart ops oi && (yax oi.op || (ya6 oi.op && x.2.contains j))) || dep ops ops.size j x.1)
  | _, _ => false
def OT.ok (ops : Array Oper) : Option (List Nat) → OT → Bool
  | none, .nil => true
  | some _, .nil => false
  | none, .one j s t => OT.ok ops none t && t.nodes.all (okN ops j)
  | some c, .one p s t => OT.ok ops none t && (match ops[p]? with | some o => ya6 o.op && !yax o.op && t.nodes.all fun x => !(x.1 == p) && (o.after.all fun e => !Region.binds .any e || !(e.on == x.1)) && (c.contains x.1 || c.any fun q => dep ops ops.size q x.1) | none => false)
  | c, .both a b => let c' := c.getD (a.cands ++ b.cands); OT.ok ops (some c') a && OT.ok ops (some c') b && OT.same a b
section
variable {P : Program} {ops : Array Oper} {Q : Act → World → Prop} {i j : Nat}
theorem ycQ : ∀ (T : OT) (pend pend' : List (Nat × Sem Next × Value)) (a : Act) (w : World), (∀ p, p ∈ pend' → p ∈ pend) → seqT P ops Q T pend a w → seqT P ops Q T pend' a w
  | .nil, _, _, _, _, _, h => h
  | .both x y, _, _, _, _, hp, h => ⟨ycQ x _ _ _ _ hp h.1, ycQ y _ _ _ _ hp h.2⟩
  | .one i s R, pend, pend', a, w, hp, h => by
    simp only [seqT] at h ⊢
    cases ho : ops[i]? with
    | none => simp only [ho] at h ⊢; exact ycQ R _ _ _ _ hp h
    | some o =>
      simp only [ho] at h ⊢
      split
      · rename_i c
        rw [if_pos c] at h
        split
        · rename_i q
          rw [if_pos q] at h
          obtain ⟨v, hv, h⟩ := h
          refine ⟨v, hv, ycQ R _ _ _ _ (fun p hm => ?_) h⟩
          rcases List.mem_cons.1 hm with rfl | hm
          · exact List.mem_cons_self
          · exact List.mem_cons_of_mem _ (hp p hm)
        · rename_i q
          rw [if_neg q] at h
          exact ⟨h.1, h.2.mono fun v w' h => ⟨fun p hm => h.1 p (hp p hm), ycQ R _ _ _ _ hp h.2⟩⟩
      · rename_i c
        rw [if_neg c] at h
        exact ycQ R _ _ _ _ hp h
theorem seqT_swap {i j : Nat} {si sj : List Nat} {oi oj : Oper} {R : OT} {pend : List (Nat × Sem Next × Value)} {a : Act} {w : World} (hi : ops[i]? = some oi) (hj : ops[j]? = some oj) (qi : yax oi.op = true)
    (hap : oi.apart ops oj = true) (qj : yax oj.op = true ∨ (ya6 oj.op = true ∧ i ∈ sj)) (h : seqT P ops Q (.one i si (.one j sj R)) pend a w) : seqT P ops Q (.one j sj (.one i si R)) pend a w := by
  obtain ⟨h1, h2, h3⟩ := Oper.apart_spec hap
  have sj' : ∀ cs b, oj.op ≠ .select cs b := by rcases qj with q | q; exact yax.select q; exact ya6.select q.1
  have wi : ∀ v, Region.wanted oi (yielded ops (a.put oj.dst v).tmps) = Region.wanted oi (yielded ops a.tmps) := fun v => wanted_put oi a oj.dst v h3
  have wj : ∀ v, Region.wanted oj (yielded ops (a.put oi.dst v).tmps) = Region.wanted oj (yielded ops a.tmps) := fun v => wanted_put oj a oi.dst v h1
  have ei : ∀ v, execOp (a.put oj.dst v).eval oi = execOp a.eval oi := fun v => execOp_put oi (yax.select qi) a oj.dst v h3
  have ej : ∀ v, execOp (a.put oi.dst v).eval oj = execOp a.eval oj := fun v => execOp_put oj sj' a oi.dst v h1
  have pc : ∀ u v, (a.put oi.dst u).put oj.dst v = (a.put oj.dst v).put oi.dst u := fun u v => Act.put_comm a u v h2
  simp only [seqT, hi, hj, qi, if_true] at h ⊢
  by_cases ci : Region.wanted oi (yielded ops a.tmps) = true
  · by_cases cj : Region.wanted oj (yielded ops a.tmps) = true
    · simp only [ci, cj, wi, wj, ei, ej, if_true] at h ⊢
      by_cases q : yax oj.op = true
      · simp only [q, if_true] at h ⊢
        obtain ⟨u, hu, v, hv, h⟩ := h
        refine ⟨v, hv, u, hu, ?_⟩
        rw [← pc]
        exact ycQ R _ _ _ _ (fun p hm => by simp only [List.mem_cons] at hm ⊢; rcases hm with h | h | h; exact .inr (.inl h); exact .inl h; exact .inr (.inr h)) h
      · have q' : ya6 oj.op = true ∧ i ∈ sj := by rcases qj with h | h; exact absurd h q; exact h
        simp only [q, Bool.false_eq_true, if_false] at h ⊢
        obtain ⟨u, hu, hn, h⟩ := h
        refine ⟨hn, ?_⟩
        unfold ya3 at h ⊢
        rw [ej] at h
        split at h
        · obtain ⟨hs, h⟩ := h
          refine ⟨fun p hm hp => hs p (List.mem_cons_of_mem _ hm) hp, u, hs _ List.mem_cons_self q'.2, ?_⟩
          rw [← pc]; exact h
        · obtain ⟨hs, h⟩ := h
          refine ⟨fun p hm hp => hs p (List.mem_cons_of_mem _ hm) hp, u, hs _ List.mem_cons_self q'.2, ?_⟩
          rw [← pc]; exact h
        · intro cs
          obtain ⟨e, w', fr, ⟨v, rfl, hs, h⟩, r⟩ := h cs
          refine ⟨_, w', fr, ⟨v, rfl, fun p hm hp => hs p (List.mem_cons_of_mem _ hm) hp, u, hs _ List.mem_cons_self q'.2, ?_⟩, r⟩
          rw [← pc]; exact h
        · refine h.mono ?_
          rintro e w'' ⟨v, rfl, hs, h⟩
          exact ⟨v, rfl, fun p hm hp => hs p (List.mem_cons_of_mem _ hm) hp, u, hs _ List.mem_cons_self q'.2, by rw [← pc]; exact h⟩
        · exact h.elim
    · simp only [ci, cj, wi, wj, ei, ej, if_true, if_false, Bool.false_eq_true] at h ⊢
      obtain ⟨u, hu, h⟩ := h
      exact ⟨u, hu, by rw [← pc]; exact h⟩
  · by_cases cj : Region.wanted oj (yielded ops a.tmps) = true
    · simp only [ci, cj, wi, wj, ei, ej, if_true, if_false, Bool.false_eq_true] at h ⊢
      by_cases q : yax oj.op = true
      · simp only [q, if_true] at h ⊢
        obtain ⟨v, hv, h⟩ := h
        exact ⟨v, hv, by rw [← pc]; exact h⟩
      · simp only [q, Bool.false_eq_true, if_false] at h ⊢
        refine ⟨h.1, ?_⟩
        have h := h.2
        unfold ya3 at h ⊢
        rw [ej] at h
        split at h
        · exact ⟨h.1, by rw [← pc]; exact h.2⟩
        · exact ⟨h.1, by rw [← pc]; exact h.2⟩
        · intro cs
          obtain ⟨e, w', fr, ⟨v, rfl, hs, h⟩, r⟩ := h cs
          exact ⟨_, w', fr, ⟨v, rfl, hs, by rw [← pc]; exact h⟩, r⟩
        · refine h.mono ?_
          rintro e w'' ⟨v, rfl, hs, h⟩
          exact ⟨v, rfl, hs, by rw [← pc]; exact h⟩
        · exact h.elim
    · simp only [ci, cj, wi, wj, if_false, Bool.false_eq_true] at h ⊢
      rw [← pc]; exact h
theorem seqT_mono {i : Nat} {s : List Nat} {R R' : OT} {pend : List (Nat × Sem Next × Value)} (hm : ∀ pend a w, seqT P ops Q R pend a w → seqT P ops Q R' pend a w) {a : Act} {w : World}
    (h : seqT P ops Q (.one i s R) pend a w) : seqT P ops Q (.one i s R') pend a w := by
  simp only [seqT] at h ⊢
  cases ho : ops[i]? with
  | none => simp only [ho] at h ⊢; exact hm _ _ _ h
  | some o =>
    simp only [ho] at h ⊢
    split
    · rename_i c
      rw [if_pos c] at h
      split
      · rename_i q
        rw [if_pos q] at h
        obtain ⟨v, hv, h⟩ := h
        exact ⟨v, hv, hm _ _ _ h⟩
      · rename_i q
        rw [if_neg q] at h
        exact ⟨h.1, h.2.mono fun v w' h => ⟨h.1, hm _ _ _ h.2⟩⟩
    · rename_i c
      rw [if_neg c] at h
      exact hm _ _ _ h
theorem seqT_step {F : Fence} {n : Nat} {Q' : Exit → Act → World → Prop} (hF : ∀ f, F.fn f) (hD : F.depth = none) (hC : ∀ f args w R, Calls P f args w R → CallsIn F (n - 1) P f args w R) (hRd : ∀ l f tmps assign body w R, RoundIn Fence.wide 0 P l f tmps assign body w R → RoundIn F (n - 1) P l f tmps assign body w R)
    {i : Nat} {s : List Nat} {R : OT} {pend : List (Nat × Sem Next × Value)} {a : Act} {w : World} {K : Act → World → Prop} (h1 : seqT P ops Q (.one i s R) pend a w) (hrec : ∀ pend a w, seqT P ops Q R pend a w → K a w) : wpOpIn F n P ops Q' i K a w := by
  unfold wpOpIn
  cases hoi : ops[i]? with
  | none => simp only [seqT, hoi] at h1; exact hrec _ _ _ h1
  | some oi =>
    simp only [seqT, hoi] at h1 ⊢
    split
    · rename_i c
      rw [if_pos c] at h1
      split at h1
      · rename_i q
        obtain ⟨v, hv, h1⟩ := h1
        refine ⟨fun f _ => hF f, ?_⟩
        rw [Oper.semAt_eq _ _ _ (yax.defer q), hv]
        exact hrec _ _ _ h1
      · obtain ⟨hn, h1⟩ := h1
        refine ⟨fun f _ => hF f, ?_⟩
        rw [Oper.semAt_eq _ _ _ (ya6.defer hn)]
        unfold ya3 at h1
        split at h1
        · rename_i v w' hr
          rw [hr]
          exact hrec _ _ _ h1.2
        · rename_i w' hr
          rw [hr]
          exact hrec _ _ _ h1.2
        · rename_i f args w' hr
          rw [hr]
          refine ⟨fun hd => (by rw [hD] at hd; cases hd), (hC _ _ _ _ h1).mono ?_⟩
          rintro e w'' ⟨v, rfl, hh⟩
          exact hrec _ _ _ hh.2
        · rename_i l f tmps assign body w' hr
          rw [hr]
          refine ⟨fun hd => (by rw [hD] at hd; cases hd), (hRd _ _ _ _ _ _ _ h1).mono ?_⟩
          rintro e w'' ⟨v, rfl, hh⟩
          exact hrec _ _ _ hh.2
        · exact h1.elim
    · rename_i c
      rw [if_neg c] at h1
      exact ⟨fun f _ => hF f, hrec _ _ _ h1⟩
theorem okN.not {x : Nat × List Nat} (h : okN ops j x = true) {oj : Oper} (hj : ops[j]? = some oj) {e : Edge} (he : e ∈ oj.after) (hb : Region.binds .any e = true) : e.on ≠ x.1 := by
  unfold okN at h
  rw [hj] at h
  cases hi : ops[x.1]? with
  | none => rw [hi] at h; cases h
  | some oi =>
    rw [hi] at h
    simp only [Bool.and_eq_true] at h
    have h2 := h.1.2
    rw [Array.all_eq_true] at h2
    obtain ⟨k, hk, rfl⟩ := Array.getElem_of_mem he
    have := h2 k hk
    simpa [hb] using this
theorem okN.ne {x : Nat × List Nat} (h : okN ops j x = true) : x.1 ≠ j := by
  unfold okN at h
  split at h
  · simp only [Bool.and_eq_true, Bool.not_eq_true', beq_eq_false_iff_ne, ne_eq] at h
    exact h.1.1
  · cases h
theorem okN.two {x : Nat × List Nat} (h : okN ops j x = true) (hno : dep ops ops.size j x.1 = false) : ∃ oj oi, ops[j]? = some oj ∧ ops[x.1]? = some oi ∧ yax oj.op = true ∧ oj.apart ops oi = true ∧ (yax oi.op = true ∨ (ya6 oi.op = true ∧ j ∈ x.2)) := by
  unfold okN at h
  split at h
  · rename_i oj oi hj hi
    simp only [hno, Bool.or_false, Bool.and_eq_true, Bool.or_eq_true, List.contains_iff_mem] at h
    exact ⟨oj, oi, hj, hi, h.2.1.1, h.2.1.2, h.2.2⟩
  · cases h
structure Pulled (P : Program) (ops : Array Oper) (Q : Act → World → Prop) (i : Nat) (T : OT) (s : List Nat) (T' : OT) : Prop where
  ok : T'.ok ops none = true
  ids : ∀ x, x ∈ T.ids ↔ x = i ∨ x ∈ T'.ids
  no : i ∉ T'.ids
  len : T'.len + 1 ≤ T.len
  nodes : ∀ x ∈ T'.nodes, x ∈ T.nodes
  node : (i, s) ∈ T.nodes
  run : ∀ pend a w, seqT P ops Q T pend a w → seqT P ops Q (.one i s T') pend a w
theorem ye4 {c : List Nat} : ∀ T : OT, T.ok ops (some c) = true → i ∈ T.cands → ∃ s T', Pulled P ops Q i T s T'
  | .nil, h, _ => by simp [OT.ok] at h
  | .one p s t, h, hi => by
    simp only [OT.cands, List.mem_singleton] at hi
    subst hi
    simp only [OT.ok, Bool.and_eq_true] at h
    obtain ⟨h1, h2⟩ := h
    cases ho : ops[i]? with
    | none => rw [ho] at h2; cases h2
    | some o =>
      rw [ho] at h2
      simp only [Bool.and_eq_true, List.all_eq_true] at h2
      refine ⟨s, t, h1, fun x => by simp [OT.ids], fun hm => ?_, Nat.le_refl _, fun x hx => by simp [OT.nodes, hx], by simp [OT.nodes], fun _ _ _ h => h⟩
      obtain ⟨s', hs⟩ := (OT.ids_nodes t i).1 hm
      have := (h2.2 _ hs).1.1
      simp at this
  | .both a b, h, hi => by
    simp only [OT.ok, Option.getD_some, Bool.and_eq_true] at h
    obtain ⟨⟨h1, h2⟩, h3⟩ := h
    rcases List.mem_append.1 hi with hi | hi
    · obtain ⟨s, T', k⟩ := ye4 a h1 hi
      refine ⟨s, T', k.ok, fun x => ?_, k.no, Nat.le_trans k.len (Nat.le_max_left _ _), fun x hx => List.mem_append_left _ (k.nodes x hx), List.mem_append_left _ k.node, fun pend a w h => k.run _ _ _ h.1⟩
      rw [← k.ids x]
      simp only [OT.ids, List.mem_append, ← OT.same.iff h3 x, or_self]
    · obtain ⟨s, T', k⟩ := ye4 b h2 hi
      refine ⟨s, T', k.ok, fun x => ?_, k.no, Nat.le_trans k.len (Nat.le_max_right _ _), fun x hx => List.mem_append_right _ (k.nodes x hx), List.mem_append_right _ k.node, fun pend a w h => k.run _ _ _ h.2⟩
      rw [← k.ids x]
      simp only [OT.ids, List.mem_append, OT.same.iff h3 x, or_self]
theorem cand_or {c : List Nat} : ∀ T : OT, T.ok ops (some c) = true → (∀ x ∈ T.cands, x ∈ c) → ∀ i ∈ T.ids, i ∈ c ∨ ∃ q ∈ c, dep ops ops.size q i = true
  | .nil, h, _ => by simp [OT.ok] at h
  | .one p s t, h, hc => by
    intro i hi
    simp only [OT.ids, List.mem_cons] at hi
    rcases hi with rfl | hi
    · exact .inl (hc i (by simp [OT.cands]))
    · simp only [OT.ok, Bool.and_eq_true] at h
      obtain ⟨h1, h2⟩ := h
      cases ho : ops[p]? with
      | none => rw [ho] at h2; cases h2
      | some o =>
        rw [ho] at h2
        simp only [Bool.and_eq_true, List.all_eq_true] at h2
        obtain ⟨s', hs⟩ := (OT.ids_nodes t i).1 hi
        have := (h2.2 _ hs).2
        simpa [List.any_eq_true] using this
  | .both a b, h, hc => by
    intro i hi
    simp only [OT.ok, Option.getD_some, Bool.and_eq_true] at h
    rcases List.mem_append.1 hi with hi | hi
    · exact cand_or a h.1.1 (fun x hx => hc x (List.mem_append_left _ hx)) i hi
    · exact cand_or b h.1.2 (fun x hx => hc x (List.mem_append_right _ hx)) i hi
theorem yfd : ∀ (T : OT) (x : Nat), x ∈ T.cands → x ∈ T.ids
  | .nil, _, h => h
  | .one i _ t, x, h => by simp [OT.cands] at h; simp [OT.ids, h]
  | .both a b, x, h => by
    rcases List.mem_append.1 h with h | h
    · exact List.mem_append_left _ (yfd a x h)
    · exact List.mem_append_right _ (yfd b x h)
theorem pull {hole : Unit} : ∀ T : OT, T.ok ops none = true → i ∈ T.ids → (∀ r ∈ T.ids, dep ops ops.size r i = false) → ∃ s T', Pulled P ops Q i T s T'
  | .nil, _, hi, _ => by simp [OT.ids] at hi
  | .one j s t, h, hi, hd => by
    simp only [OT.ok, Bool.and_eq_true, List.all_eq_true] at h
    obtain ⟨h1, h2⟩ := h
    have hjt : j ∉ t.ids := fun hm => by
      obtain ⟨s', hs⟩ := (OT.ids_nodes t j).1 hm
      exact okN.ne (h2 _ hs) rfl
    by_cases hij : i = j
    · subst hij
      exact ⟨s, t, h1, fun x => by simp [OT.ids], hjt, Nat.le_refl _, fun x hx => by simp [OT.nodes, hx], by simp [OT.nodes], fun _ _ _ h => h⟩
    · have hit : i ∈ t.ids := by simpa [OT.ids, hij] using hi
      obtain ⟨si, t', k⟩ := pull (hole := hole) t h1 hit fun r hr => hd r (by simp [OT.ids, hr])
      obtain ⟨oj, oi, ej, ei, q1, q2, q3⟩ := okN.two (h2 _ k.node) (hd j (by simp [OT.ids]))
      refine ⟨si, .one j s t', ?_, fun x => ?_, ?_, ?_, fun x hx => ?_, by simp [OT.nodes, k.node], fun pend a w h => seqT_swap ej ei q1 q2 q3 (seqT_mono k.run h)⟩
      · simp only [OT.ok, Bool.and_eq_true, List.all_eq_true]
        exact ⟨k.ok, fun x hx => h2 x (k.nodes x hx)⟩
      · simp only [OT.ids, List.mem_cons, k.ids x]
        exact ⟨fun h => by rcases h with h | h | h; exact .inr (.inl h); exact .inl h; exact .inr (.inr h), fun h => by rcases h with h | h | h; exact .inr (.inl h); exact .inl h; exact .inr (.inr h)⟩
      · simp only [OT.ids, List.mem_cons, not_or]
        exact ⟨hij, k.no⟩
      · simp only [OT.len]; have := k.len; omega
      · simp only [OT.nodes, List.mem_cons] at hx ⊢
        rcases hx with h | h
        · exact .inl h
        · exact .inr (k.nodes x h)
  | .both a b, h, hi, hd => by
    simp only [OT.ok, Option.getD_none, Bool.and_eq_true] at h
    have hok : (OT.both a b).ok ops (some (a.cands ++ b.cands)) = true := by simp only [OT.ok, Option.getD_some, Bool.and_eq_true]; exact h
    rcases cand_or (.both a b) hok (fun x hx => hx) i hi with hc | ⟨q, hq, hdq⟩
    · exact ye4 (.both a b) hok hc
    · rw [hd q (yfd (.both a b) q hq)] at hdq; cases hdq
theorem first_free (hO : ∀ j oj, ops[j]? = some oj → ∀ e ∈ oj.after, Region.binds .any e = true → e.on < ops.size ∧ e.on ≠ j) : ∀ (T : OT) (c : Option (List Nat)), T.ok ops c = true → T.ids ≠ [] → ∃ r ∈ T.ids, ∀ o, ops[r]? = some o → ∀ e ∈ o.after, Region.binds .any e = true → e.on ∉ T.ids
  | .nil, _, _, h => absurd rfl h
  | .one j s t, c, h, _ => by
    refine ⟨j, by simp [OT.ids], fun o ho e he hb hm => ?_⟩
    simp only [OT.ids, List.mem_cons] at hm
    rcases hm with hm | hm
    · exact (hO j o ho e he hb).2 hm
    · obtain ⟨s', hs⟩ := (OT.ids_nodes t e.on).1 hm
      cases c with
      | none =>
        simp only [OT.ok, Bool.and_eq_true, List.all_eq_true] at h
        exact okN.not (h.2 _ hs) ho he hb rfl
      | some c =>
        simp only [OT.ok, Bool.and_eq_true] at h
        have h2 := h.2
        rw [ho] at h2
        simp only [Bool.and_eq_true, List.all_eq_true] at h2
        have h3 := (h2.2 _ hs).1.2
        rw [Array.all_eq_true] at h3
        obtain ⟨k, hk, rfl⟩ := Array.getElem_of_mem he
        have := h3 k hk
        simp [hb] at this
  | .both a b, c, h, hn => by
    simp only [OT.ok, Bool.and_eq_true] at h
    have hne : a.ids ≠ [] := fun e => hn (by
      have hb : b.ids = [] := List.eq_nil_iff_forall_not_mem.2 fun x hx => by
        have := (OT.same.iff h.2 x).2 hx
        rw [e] at this; cases this
      simp [OT.ids, e, hb])
    obtain ⟨r, hr, k⟩ := first_free hO a _ h.1.1 hne
    refine ⟨r, List.mem_append_left _ hr, fun o ho e he hb hm => k o ho e he hb ?_⟩
    rcases List.mem_append.1 hm with hm | hm
    · exact hm
    · exact (OT.same.iff h.2 _).2 hm
theorem len_ids : ∀ (T : OT), T.len = 0 → T.ok ops none = true → T = .nil
  | .nil, _, _ => rfl
  | .one _ _ _, h, _ => by simp [OT.len] at h
  | .both a b, h, hk => by
    exfalso
    simp only [OT.ok, Option.getD_none, Bool.and_eq_true] at hk
    have key : ∀ (T : OT) (c : List Nat), T.ok ops (some c) = true → T.len ≠ 0 := by
      intro T
      induction T with
      | nil => intro c h; simp [OT.ok] at h
      | one i s t ih => intro c h; simp [OT.len]
      | both a b iha ihb =>
        intro c h
        simp only [OT.ok, Option.getD_some, Bool.and_eq_true] at h
        have := iha c h.1.1
        simp only [OT.len]; omega
    have := key a _ hk.1.1
    simp only [OT.len] at h; omega
theorem seqT_any {F : Fence} {n : Nat} {Q' : Exit → Act → World → Prop} (hF : ∀ f, F.fn f) (hD : F.depth = none) (hC : ∀ f args w R, Calls P f args w R → CallsIn F (n - 1) P f args w R) (hRd : ∀ l f tmps assign body w R, RoundIn Fence.wide 0 P l f tmps assign body w R → RoundIn F (n - 1) P l f tmps assign body w R) (hQ : ∀ a w, Q a w → Q' .normal a w) (hO : ∀ j oj, ops[j]? = some oj → ∀ e ∈ oj.after, Region.binds .any e = true → e.on < ops.size ∧ e.on ≠ j) :
    ∀ (fuel : Nat) (T : OT) (listed : Array Bool) (pend : List (Nat × Sem Next × Value)) (a : Act) (w : World), T.len ≤ fuel → T.ok ops none = true →
    (∀ i, i ∈ T.ids ↔ listed.getD i true = false) → listed.size = ops.size → ycJ ops listed → seqT P ops Q T pend a w → wpAnyIn F n P .any ops Q' fuel listed a w := by
  have hnil : ∀ (T : OT) (listed : Array Bool), T.ok ops none = true → (∀ i, i ∈ T.ids ↔ listed.getD i true = false) → listed.size = ops.size → Region.ready .any ops listed = [] → T.ids = [] := by
    intro T listed hk hl hs h
    by_cases hn : T.ids = []
    · exact hn
    · exfalso
      obtain ⟨r, hr, hfree⟩ := first_free hO T none hk hn
      have hr0 := (hl r).1 hr
      have hlt : r < ops.size := by
        rcases Nat.lt_or_ge r listed.size with h | h
        · omega
        · simp [Array.getD_eq_getD_getElem?, Array.getElem?_eq_none h] at hr0
      have : r ∈ Region.ready .any ops listed := by
        refine mem_ready.2 ⟨hr0, ops[r], by simp [hlt], fun e he hb => ?_⟩
        have h1 := hO r _ (by simp [hlt] : ops[r]? = some ops[r]) e he hb
        have h3 := mt (hl e.on).2 (hfree _ (by simp [hlt]) e he hb)
        have h4 : e.on < listed.size := by omega
        simp [h4] at h3 ⊢
        exact h3
      rw [h] at this; cases this
  have hids : ∀ T : OT, T.ids = [] → T.ok ops none = true → T = .nil := by
    intro T h hk
    cases T with
    | nil => rfl
    | one i s t => simp [OT.ids] at h
    | both a b =>
      exfalso
      simp only [OT.ok, Option.getD_none, Bool.and_eq_true] at hk
      have key : ∀ (T : OT) (c : List Nat), T.ok ops (some c) = true → T.ids ≠ [] := by
        intro T
        induction T with
        | nil => intro c h; simp [OT.ok] at h
        | one i s t ih => intro c h; simp [OT.ids]
        | both a b iha ihb =>
          intro c h
          simp only [OT.ok, Option.getD_some, Bool.and_eq_true] at h
          have := iha c h.1.1
          simp [OT.ids, this]
      have := key a _ hk.1.1
      simp [OT.ids, this] at h
  intro fuel
  induction fuel with
  | zero =>
    intro T listed pend a w hf hk hl hs hdw h
    have hT := len_ids T (by omega) hk
    subst hT
    refine ⟨?_, hQ _ _ h⟩
    cases hrd : Region.ready .any ops listed with
    | nil => rfl
    | cons r rs =>
      have h1 : r ∈ Region.ready .any ops listed := by rw [hrd]; simp
      exact absurd ((hl r).2 (mem_ready.1 h1).1) (by simp [OT.ids])
  | succ fuel ih =>
    intro T listed pend a w hf hk hl hs hdw h
    refine ⟨fun h0 => by have := hids T (hnil T listed hk hl hs h0) hk; subst this; exact hQ _ _ h, fun i hi => ?_⟩
    obtain ⟨hun, oi, hoi, hall⟩ := mem_ready.1 hi
    have hlb : ∀ x : Nat, listed.getD x false = true → listed.getD x true = true := by
      intro x hx
      rcases Nat.lt_or_ge x listed.size with h | h
      · simp [Array.getD_eq_getD_getElem?, h] at hx ⊢; exact hx
      · simp [Array.getD_eq_getD_getElem?, h]
    have hall' : ∀ e ∈ oi.after, Region.binds .any e = true → listed.getD e.on true = true := fun e he hb => hlb _ (hall e he hb)
    have hil : i < listed.size := by have := (Array.getElem?_eq_some_iff.1 hoi).1; omega
    obtain ⟨s, T', k⟩ := pull (P := P) (Q := Q) (hole := ()) T hk ((hl i).2 hun) fun r hr => by
      cases hq : dep ops ops.size r i with
      | false => rfl
      | true =>
        have h1 := ybQ hdw ops.size r i oi hoi hall' hq
        rw [(hl r).1 hr] at h1; cases h1
    refine seqT_step hF hD hC hRd (k.run _ _ _ h) fun pend a w h => ih T' _ pend a w (by have := k.len; omega) k.ok (fun x => ?_) (by simp [hs]) (set_down hil hoi hall' hdw) h
    by_cases hix : i = x
    · subst hix
      constructor
      · intro h; exact absurd h k.no
      · intro h; simp [hil] at h
    · rw [getD_set_ne true hix, ← hl x, k.ids x]
      exact ⟨.inr, fun h => h.resolve_left fun e => hix e.symm⟩
end
def orderlyT (ops : Array Oper) (T : OT) : Bool :=
  (T.ids.all fun j => match ops[j]? with
    | none => false
    | some oj => oj.after.all fun e => !Region.binds .any e || (decide (e.on < ops.size) && !(e.on == j))) && (List.range ops.size).all (T.ids.contains ·) && decide (T.len ≤ ops.size) && T.ok ops none
def RT (P : Program) (N : Nat) (ops : Array Oper) (Qa : Act → World → Prop) (T : OT) (pend : List (Nat × Sem Next × Value)) (E : Env) (ds : List Deferred) (w : World) : Prop :=
  ∀ a, Rep N E ds a → seqT P ops Qa T pend a w
section
variable {F : Fence} {n : Nat} {P : Program} {N : Nat} {Q : Exit → Act → World → Prop} {E : Env} {ds : List Deferred} {w : World} {t : List Item}
theorem wt_drawT {id : Nat} {ops : Array Oper} (T : OT) (hw : Wd F) (hm : P.follows .mixedOrders = true) (hO : orderlyT ops T = true) (h : RT P N ops (WTa F n P t Q) T [] E ds w.drew) :
    WT F n P N (.code (.region id ops true) :: t) Q E ds w := by
  intro a r
  simp only [orderlyT, Bool.and_eq_true, decide_eq_true_eq] at hO
  obtain ⟨⟨⟨h1, h2⟩, h3⟩, h4⟩ := hO
  have h5 : ∀ i, i < ops.size → i ∈ T.ids := fun i hi => by simpa using List.all_eq_true.1 h2 i (List.mem_range.2 hi)
  have h6 : ∀ i, i ∈ T.ids → i < ops.size := fun i hi => by
    have := List.all_eq_true.1 h1 i hi
    rcases Nat.lt_or_ge i ops.size with h | h
    · exact h
    · rw [Array.getElem?_eq_none h] at this; cases this
  refine WTa.of (wpIn_region_any hm ?_)
  refine seqT_any hw.fn hw.depth (fun f args w R h => hw.calls _ _ _ _ _ _ h) (fun l f tmps assign body w R h => hw.rounds _ _ _ _ _ _ _ _ _ h) (fun a w h => ⟨rfl, h⟩) (fun j oj hj e he hb => ?_) ops.size T _ [] a _ h3 h4 (fun i => ?_) (by simp) (fun j oj hj hl => ?_) (h a r)
  · have := List.all_eq_true.1 h1 j (h5 j (Array.getElem?_eq_some_iff.1 hj).1)
    rw [hj] at this
    simp only at this
    rw [Array.all_eq_true] at this
    obtain ⟨k, hk, rfl⟩ := Array.getElem_of_mem he
    have h3 := this k hk
    simpa [hb] using h3
  · constructor
    · intro hi; simp [h6 i hi]
    · intro hi
      apply h5
      rcases Nat.lt_or_ge i ops.size with h | h
      · exact h
      · simp [Array.getD_eq_getD_getElem?, h] at hi
  · exfalso
    have := (Array.getElem?_eq_some_iff.1 hj).1
    simp [Array.getD_eq_getD_getElem?, this] at hl
end
section
variable {P : Program} {N : Nat} {ops : Array Oper} {Qa : Act → World → Prop} {pend : List (Nat × Sem Next × Value)} {E : Env} {ds : List Deferred} {w : World} {i : Nat} {s : List Nat} {T T1 T2 : OT}
theorem rt_end {F : Fence} {n : Nat} {t : List Item} {Q : Exit → Act → World → Prop} (h : WT F n P N t Q E ds w) : RT P N ops (WTa F n P t Q) .nil pend E ds w := fun a r => h a r
theorem rt_both (h1 : RT P N ops Qa T1 pend E ds w) (h2 : RT P N ops Qa T2 pend E ds w) : RT P N ops Qa (.both T1 T2) pend E ds w := fun a r => ⟨h1 a r, h2 a r⟩
variable {d : Nat} {op : Op} {ty : TypeId} {ps : String} {af : Array Edge} {g : Option (Nat × Bool)}
theorem rt_q {v : Value} (ho : ops[i]? = some ⟨some d, op, ty, ps, af, g⟩) (hw : Region.wanted ⟨some d, op, ty, ps, af, g⟩ (yE ops E) = true) (hq : yax op = true) (hd : Nat.blt d N = true)
    (hv : (execOp (evE E) ⟨some d, op, ty, ps, af, g⟩).run P w = .ok (.value v) w) (h : RT P N ops Qa T ((i, execOp (evE E) ⟨some d, op, ty, ps, af, g⟩, v) :: pend) (upd E d v) ds w) : RT P N ops Qa (.one i s T) pend E ds w := by
  intro a r
  simp only [seqT, ho, r.yielded, hw, hq, if_true, r.eval]
  exact ⟨v, hv, h _ (r.put (yda (d := some d) hd) v)⟩
theorem rt_n (ho : ops[i]? = some ⟨some d, op, ty, ps, af, g⟩) (hw : Region.wanted ⟨some d, op, ty, ps, af, g⟩ (yE ops E) = true) (hq : yax op = false) (hn : ya6 op = true) (hd : Nat.blt d N = true)
    (h : ya3 P ⟨some d, op, ty, ps, af, g⟩ (evE E) w fun v w' => Stb P s w' pend ∧ RT P N ops Qa T pend (upd E d v) ds w') : RT P N ops Qa (.one i s T) pend E ds w := by
  intro a r
  simp only [seqT, ho, r.yielded, hw, hq, if_true, if_false, Bool.false_eq_true, r.eval]
  refine ⟨hn, h.mono fun v w' h => ⟨h.1.all, h.2 _ (r.put (yda (d := some d) hd) v)⟩⟩
theorem rt_n0 (ho : ops[i]? = some ⟨none, op, ty, ps, af, g⟩) (hw : Region.wanted ⟨none, op, ty, ps, af, g⟩ (yE ops E) = true) (hq : yax op = false) (hn : ya6 op = true)
    (h : ya3 P ⟨none, op, ty, ps, af, g⟩ (evE E) w fun v w' => Stb P s w' pend ∧ RT P N ops Qa T pend E ds w') : RT P N ops Qa (.one i s T) pend E ds w := by
  intro a r
  simp only [seqT, ho, r.yielded, hw, hq, if_true, if_false, Bool.false_eq_true, r.eval]
  refine ⟨hn, h.mono fun v w' h => ⟨h.1.all, h.2 _ (r.put (yda (d := none) rfl) v)⟩⟩
end
end Go.Proofs.Ytinoedockljfeaa

/- Arrays of numbers as values: stored whole, handed back whole. -/
namespace Go.Proofs.Ytinoedockljfeaa
open Go Go.RowKit Go.Shelf Go.Proofs.Try
set_option linter.unusedVariables false
theorem arr_idx (L : List Int) {i : Int} (h : 0 ≤ i ∧ i < (L.length : Int)) : (L.map (Value.int .i64)).toArray[i.toNat]? = some (.int .i64 (gi L i.toNat)) := by
  rw [List.getElem?_toArray, List.getElem?_map, yby (by omega)]; rfl
end Go.Proofs.Ytinoedockljfeaa

/- Words for proofs from pure forms: loops that count up, lists that are filled from the left. No program in sight. -/
namespace Go.Proofs.Ytinoedockljfeaa
open Go Go.Proofs.Try
set_option linter.unusedVariables false
def Cnt (N : Nat) (P : Nat → Prop) (m : Nat) (v : Int) : Prop := ∃ k : Nat, m = N - k ∧ v = (k : Int) ∧ k ≤ N ∧ P k
theorem Cnt.start {N : Nat} {P : Nat → Prop} (h : P 0) : ∃ m0, Cnt N P m0 0 := ⟨N, 0, rfl, rfl, Nat.zero_le _, h⟩
theorem Cnt.next {N : Nat} {P : Nat → Prop} {k : Nat} (hk : k < N) (hN : N ≤ 1000000000000) (h : P (k + 1)) : In64 ((k : Int) + 1) ∧ ∃ m', m' < N - k ∧ Cnt N P m' ((k : Int) + 1) :=
  ⟨⟨by omega, by omega⟩, N - (k + 1), by omega, k + 1, rfl, by omega, by omega, h⟩
theorem Cnt.next' {N : Nat} {P : Nat → Prop} {k : Nat} (hk : k < N) (h : P (k + 1)) : ∃ m', m' < N - k ∧ Cnt N P m' ((k : Int) + 1) :=
  ⟨N - (k + 1), by omega, k + 1, rfl, by omega, by omega, h⟩
theorem i64 {a : Int} (h : -9000000000000000000 ≤ a ∧ a ≤ 9000000000000000000) : In64 a := ⟨by omega, by omega⟩
theorem sm_bound {f : Nat → Int} {B : Int} (hB : 0 ≤ B) : ∀ {n : Nat}, (∀ i, i < n → -B ≤ f i ∧ f i ≤ B) → -(n * B) ≤ sm n f ∧ sm n f ≤ n * B
  | 0, _ => by simp [sm]
  | n + 1, h => by
    have ih := sm_bound hB (n := n) fun i hi => h i (by omega)
    have := h n (by omega)
    rw [sm, show ((n + 1 : Nat) : Int) * B = n * B + B by rw [Int.natCast_add, Int.add_mul]; simp]
    omega
def dg (d : List Int) : Int := sm d.length (gi d)
end Go.Proofs.Ytinoedockljfeaa

/- What the arguments of the laws read as: numbers, lists, graphs; and what is handed back. -/
namespace Go.Proofs.Ytinoedockljfeaa
open Go Go.ChangeShapes Go.WideShapes Go.ChangeAt Go.RowKit Go.Joins Go.Deep Go.Proofs.Try
theorem own : ownKnob Try.prog.godebug = none := by kernel_rfl
theorem laidOut : laidOutB Try.prog = true := by kernel_rfl
theorem cells_int : Try.prog.cellsOf 3 = 1 := by kernel_rfl
theorem cells_graph : Try.prog.cellsOf 24 = 2 := by kernel_rfl
theorem cells_edge : Try.prog.cellsOf 75 = 3 := by kernel_rfl
theorem cells3 {w : World} {base : Nat} {a : Addr} {cs : List Value} (h : w.cells? base a 3 = some cs) : ∃ x y z, cs = [x, y, z] ∧ w.cell? a = some x ∧ w.cell? (a.add 1) = some y ∧ w.cell? (a.add 2) = some z := by
  unfold World.cells? at h
  split at h
  · have e : List.range 3 = [0, 1, 2] := rfl
    rw [e] at h
    cases h0 : w.cell? (a.add 0) with
    | none => simp [h0] at h
    | some x =>
      cases h1 : w.cell? (a.add 1) with
      | none => simp [h0, h1] at h
      | some y =>
        cases h2 : w.cell? (a.add 2) with
        | none => simp [h0, h1, h2] at h
        | some z =>
          simp [h0, h1, h2] at h
          exact ⟨x, y, z, h.symm, h0, rfl, rfl⟩
  · cases h
theorem ints_sl {W : World} {A : Option Addr} {xs : List Int} {c : Nat} (hc : xs.length ≤ c) (h : Ints W A xs) : (FP.sl cI A xs.length c xs).P no W := by
  refine ⟨rfl, hc, fun h0 => ?_⟩
  obtain ⟨b, off, e, hb, hcell⟩ := h h0
  refine ⟨b, off, e, hb, id, fun k x hx => ⟨_, rfl, fun j u hj => ?_⟩⟩
  have hk : k < xs.length := (List.getElem?_eq_some_iff.1 hx).1
  have hj0 : j = 0 := by
    have := (List.getElem?_eq_some_iff.1 hj).1
    simp [fI] at this; exact this
  subst hj0
  have hu : u = .int .i64 x := by
    have : (some (Value.int .i64 x)) = some u := hj
    simpa using this.symm
  rw [yby hk] at hx
  cases hx
  rw [hu]
  have := hcell k hk
  simpa [cI, Fl.cod, fI] using this
theorem edges_sl {W : World} {A : Option Addr} {xs : List E3} {c : Nat} (hc : xs.length ≤ c) (h : Edges W A xs) : (FP.sl c3 A xs.length c xs).P no W := by
  refine ⟨rfl, hc, fun h0 => ?_⟩
  obtain ⟨b, off, e, hb, hcell⟩ := h h0
  refine ⟨b, off, e, hb, id, fun k x hx => ⟨_, rfl, fun j u hj => ?_⟩⟩
  have hk : k < xs.length := (List.getElem?_eq_some_iff.1 hx).1
  rw [ycW hk] at hx
  cases hx
  obtain ⟨q0, q1, q2⟩ := hcell k hk
  match j, hj with
  | 0, hj =>
    have : (some (Value.int .i64 (ge xs k).1)) = some u := hj
    cases this; exact q0
  | 1, hj =>
    have : (some (Value.int .i64 (ge xs k).2.1)) = some u := hj
    cases this; exact q1
  | 2, hj =>
    have : (some (Value.int .i64 (ge xs k).2.2)) = some u := hj
    cases this; exact q2
  | j + 3, hj => cases hj
set_option maxRecDepth 100000
variable {H : Type} {enc : TypeId × Value → H} {W : World} {r : Reach} {b0 : Nat}
theorem open_list {t : TypeId} (ht : Try.prog.underlying t = some (.slice 3)) {v : Value} {d : DataW H} {p : List MemPlace} (hv : Value.okWide Try.prog W r b0 t v) (h : DataW.Trod enc Try.prog W 0 (fun _ => true) true t v d p) :
    ∃ (A : Option Addr) (l : List Int) (c : Nat), v = .slice A l.length c ∧ (FP.sl cI A l.length c l).P no W := by
  suffices h : ∃ (A : Option Addr) (l : List Int) (c : Nat), v = .slice A l.length c ∧ l.length ≤ c ∧ Ints W A l by
    obtain ⟨A, l, c, e, hlc, hi⟩ := h
    exact ⟨A, l, c, e, ints_sl hlc hi⟩
  obtain ⟨a0, len, cap, rfl⟩ := okWide_slice ht hv
  obtain ⟨fuel, hf⟩ := h
  rcases open_ints ht underlying3 cells_int hf with ⟨hcs, hx⟩ | ⟨a, len', cap', zs, hcs, _, hl, hm, hz, hx, hcell, hwz⟩
  · simp [Value.cells] at hcs
    obtain ⟨rfl, rfl, rfl⟩ := hcs
    exact ⟨none, [], 0, rfl, Nat.le_refl _, Ints.nil _ _⟩
  · simp [Value.cells] at hcs
    obtain ⟨rfl, rfl, rfl⟩ := hcs
    simp only [if_true] at hz
    refine ⟨some a, zs.take len, cap, by rw [List.length_take, Nat.min_eq_left (by omega)], by rw [List.length_take]; omega, fun hp => ?_⟩
    rw [List.length_take, Nat.min_eq_left (by omega)] at hp ⊢
    obtain ⟨b, off, rfl, hc⟩ := ints_at hcell (by omega)
    refine ⟨b, off, rfl, ?_, fun k hk => ?_⟩
    · have := hc 0 (by omega)
      apply Nat.lt_of_not_le
      intro hle
      unfold World.cell? at this
      rw [Array.getElem?_eq_none hle] at this
      simp at this
    · rw [hc k (by omega), ybl (by rw [List.length_take]; omega), List.getElem_take, List.getD_eq_getElem?_getD, List.getElem?_eq_getElem (by omega)]
      rfl
theorem open_arr2 {t e : TypeId} {k : IntKind} (ht : Try.prog.underlying t = some (.array 2 e)) (he : Try.prog.underlying e = some (.int k)) (hC : Try.prog.cellsOf t = 2) (hce : Try.prog.cellsOf e = 1) {v : Value} {d : DataW H} {p : List MemPlace} (hv : Value.okWide Try.prog W r b0 t v) (h : DataW.Trod enc Try.prog W 0 (fun _ => true) true t v d p) :
    ∃ x y : Int, v = .agg #[.int k x, .int k y] ∧ (Lit.int k x).wf = true ∧ (Lit.int k y).wf = true := by
  simp only [Value.okWide, ht] at hv
  obtain ⟨cs, rfl, hsz, _⟩ := hv
  obtain ⟨c0, c1, rfl⟩ := array2 (hsz.trans (by first | exact hC | simp [hce]))
  obtain ⟨fuel, hf⟩ := h
  obtain ⟨xs, m, rfl, hx, hl, hn, hel⟩ := DataW.trod_array ht hf
  obtain ⟨x0, x1, rfl⟩ : ∃ x0 x1, xs = [x0, x1] := by
    match xs, hn with
    | [x0, x1], _ => exact ⟨_, _, rfl⟩
  have f0 := hel 0 (by omega)
  have f1 := hel 1 (by omega)
  simp [hce, Value.cells] at f0 f1
  obtain ⟨a, e0, -, w0⟩ := DataW.trod_int he f0
  obtain ⟨b, e1, -, w1⟩ := DataW.trod_int he f1
  simp at e0 e1
  subst e0; subst e1
  exact ⟨a, b, rfl, w0, w1⟩
theorem open_edge {fuel base : Nat} {spare : Nat → Bool} {held : Bool} {x y z : Value} {o : DataW H × List MemPlace} (h : DataW.trod enc Try.prog W base spare held fuel 75 [x, y, z] = some o) : ∃ a b c : Int, x = .int .i64 a ∧ y = .int .i64 b ∧ z = .int .i64 c := by
  obtain ⟨xs, n, _, rfl, hl, hlen, hf⟩ := DataW.trod_struct underlying75 h
  obtain ⟨x0, x1, x2, rfl⟩ : ∃ x0 x1 x2, xs = [x0, x1, x2] := by
    match xs, hlen with
    | [x0, x1, x2], _ => exact ⟨_, _, _, rfl⟩
  have f0 := hf 0 _ rfl
  have f1 := hf 1 _ rfl
  have f2 := hf 2 _ rfl
  simp [cells_int] at f0 f1 f2
  obtain ⟨a, e0, -, -⟩ := DataW.trod_int underlying3 f0
  obtain ⟨b, e1, -, -⟩ := DataW.trod_int underlying3 f1
  obtain ⟨c, e2, -, -⟩ := DataW.trod_int underlying3 f2
  simp at e0 e1 e2
  exact ⟨a, b, c, e0, e1, e2⟩
theorem open_graph {v : Value} {d : DataW H} {p : List MemPlace} (hv : Value.okWide Try.prog W r b0 24 v) (h : DataW.Trod enc Try.prog W 0 (fun _ => true) true 24 v d p) :
    ∃ (n : Int) (A : Option Addr) (es : List E3) (c : Nat), v = .agg #[.int .i64 n, .slice A es.length c] ∧ (FP.sl c3 A es.length c es).P no W := by
  suffices h : ∃ (n : Int) (A : Option Addr) (es : List E3) (c : Nat), v = .agg #[.int .i64 n, .slice A es.length c] ∧ es.length ≤ c ∧ Edges W A es by
    obtain ⟨n, A, l, c, e, hlc, hi⟩ := h
    exact ⟨n, A, l, c, e, edges_sl hlc hi⟩
  obtain ⟨c0, c1, y0, y1, m, rfl, rfl, rfl, hy0, hy1⟩ := open_agg2 underlying24 (by kernel_rfl) cells_graph hv h
  obtain ⟨n, e0, -, -⟩ := DataW.trod_int underlying3 hy0
  simp at e0
  subst e0
  rcases open_slice underlying22 hy1 with ⟨hcs, -⟩ | ⟨a, len, cap, mm, nn, D, Pl, hcs, -, hl, hm, hmm, -, hel⟩
  · simp at hcs
    subst hcs
    exact ⟨n, none, [], 0, rfl, Nat.le_refl _, fun h => absurd h (by simp)⟩
  · simp at hcs
    subst hcs
    simp only [if_true] at hmm
    have hex : ∀ i, i < len → ∃ e : E3, W.cell? (a.add (i * 3)) = some (.int .i64 e.1) ∧ W.cell? ((a.add (i * 3)).add 1) = some (.int .i64 e.2.1) ∧ W.cell? ((a.add (i * 3)).add 2) = some (.int .i64 e.2.2) := fun i hi => by
      obtain ⟨cs', hc, ht⟩ := hel i (by omega)
      rw [cells_edge] at hc
      obtain ⟨x, y, z, rfl, k0, k1, k2⟩ := cells3 hc
      obtain ⟨xa, xb, xc, rfl, rfl, rfl⟩ := open_edge ht
      exact ⟨(xa, xb, xc), k0, k1, k2⟩
    let f : Nat → E3 := fun i => if h : i < len then Classical.choose (hex i h) else (0, 0, 0)
    have hf : ∀ i, i < len → W.cell? (a.add (i * 3)) = some (.int .i64 (f i).1) ∧ W.cell? ((a.add (i * 3)).add 1) = some (.int .i64 (f i).2.1) ∧ W.cell? ((a.add (i * 3)).add 2) = some (.int .i64 (f i).2.2) := fun i hi => by
      show _ ∧ _ ∧ _
      have e : f i = Classical.choose (hex i hi) := dif_pos hi
      rw [e]
      exact Classical.choose_spec (hex i hi)
    have hlen : ((List.range len).map f).length = len := by simp
    refine ⟨n, some a, (List.range len).map f, cap, by rw [hlen], by rw [hlen]; omega, fun hp => ?_⟩
    rw [hlen] at hp ⊢
    obtain ⟨b, off, spot⟩ := a
    have hspot : spot = none := by simpa [Addr.add] using World.cell?_spot (hf 0 hp).1
    subst hspot
    refine ⟨b, off, rfl, ?_, fun k hk => ?_⟩
    · have := (hf 0 hp).1
      apply Nat.lt_of_not_le
      intro hle
      unfold World.cell? at this
      rw [Array.getElem?_eq_none (by simpa [Addr.add] using hle)] at this
      simp at this
    · have hg : ge ((List.range len).map f) k = f k := by rw [ydH (by rw [hlen]; exact hk)]; simp
      rw [hg]
      have := hf k hk
      simpa [Addr.add_mid] using this
end Go.Proofs.Ytinoedockljfeaa

/- What arguments read as: lists of lists, pairs of lists. -/
namespace Go.Proofs.Ytinoedockljfeaa
open Go Go.ChangeShapes Go.WideShapes Go.ChangeAt Go.RowKit Go.Joins Go.Deep Go.Proofs.Try
set_option maxRecDepth 100000
set_option linter.unusedVariables false
variable {H : Type} {enc : TypeId × Value → H} {W : World} {r : Reach} {b0 : Nat}
end Go.Proofs.Ytinoedockljfeaa

/- Tables of structs, functions compared with nil. No program in sight. -/
namespace Go.Proofs.Ytinoedockljfeaa
open Go Go.RowKit Go.Shelf Go.Proofs.Try
set_option linter.unusedVariables false
section
variable {P : Program} {E : Env} {w : World} {d : Option Tmp} {ty : TypeId} {ps : String} {af : Array Edge} {g : Option (Nat × Bool)} {x y : Operand} {xt yt : TypeId}
end
def rowT' (sz : Nat) (r : List Value) : List Value := if r.length = sz ∧ ∀ u ∈ r, u.oneCell' = true then r else List.replicate sz (.bool false)
def fT (sz : Nat) (rows : List (List Value)) : Fl Nat := ⟨sz, fun i => rowT' sz (rows.getD i []), fun i => by
    unfold rowT'; split
    · rename_i h; exact h.1
    · simp, fun i u hu => by
    unfold rowT' at hu; split at hu
    · rename_i h; exact h.2 u hu
    · rw [(List.mem_replicate.1 hu).2]; rfl⟩
end Go.Proofs.Ytinoedockljfeaa
