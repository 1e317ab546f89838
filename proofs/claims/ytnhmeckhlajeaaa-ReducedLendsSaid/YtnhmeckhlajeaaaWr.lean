/- Pure forms of functions whose walks were proved by hand: reduced's, connect.Connected, the law's awake. -/
import Derived.Test.YtnhmeckhlajeaaaPf
import Derived.Test.YtnhmeckhlajeaaaRm
namespace Go.Proofs.Ytnhmeckhlajeaaa
open Go Go.RowKit Go.Shelf
set_option linter.unusedVariables false
set_option linter.unusedSectionVars false

theorem sl_ints {A : Option Addr} {l cap : Nat} {xs : List Int} {O : Nat → Prop} {w : World} (h : (FP.sl cI A l cap xs).P O w) : l = xs.length ∧ Ints w A xs := by
  obtain ⟨h1, h2, h3⟩ := h
  refine ⟨h1, fun h0 => ?_⟩
  obtain ⟨b, off, e, hb, ho, hc⟩ := h3 h0
  refine ⟨b, off, e, hb, fun k hk => ?_⟩
  obtain ⟨vs, hv, hu⟩ := hc k _ (gi_some hk)
  have hv : vs = [.int .i64 (gi xs k)] := hv
  subst hv
  have := hu 0 _ rfl
  simpa [cI, Fl.cod, fI] using this
theorem sl_edges {A : Option Addr} {l cap : Nat} {es : List E3} {O : Nat → Prop} {w : World} (h : (FP.sl c3 A l cap es).P O w) : l = es.length ∧ Edges w A es := by
  obtain ⟨h1, h2, h3⟩ := h
  refine ⟨h1, fun h0 => ?_⟩
  obtain ⟨b, off, e, hb, ho, hc⟩ := h3 h0
  refine ⟨b, off, e, hb, fun k hk => ?_⟩
  obtain ⟨vs, hv, hu⟩ := hc k _ (ge_some hk)
  have hv : vs = [.int .i64 (ge es k).1, .int .i64 (ge es k).2.1, .int .i64 (ge es k).2.2] := hv
  subst hv
  exact ⟨hu 0 _ rfl, hu 1 _ rfl, hu 2 _ rfl⟩
theorem sep_pure {w w' : World} {O : Nat → Prop} (hO : ∀ k, O k → k < w.heap.size) (h : Pure w w') : Sep w no O w' (rl []) := (Sep.start w hO).pur h
theorem ownC_ints {B : Nat} {O : Nat → Prop} {w : World} {e : TypeId} {A : Option Addr} {l cap : Nat} {xs : List Int} (h : OwnS w B e 1 A l cap (xs.map (Value.int .i64))) : OwnC cI 0 O w e A l cap xs := by
  have hl := h.1
  simp at hl
  refine ⟨hl.symm, _, h.base (Nat.zero_le _), fun k x hx => ⟨_, rfl, fun j u hj => ?_⟩⟩
  have hj0 : j = 0 := by
    have := (List.getElem?_eq_some_iff.1 hj).1
    simp [fI] at this; exact this
  subst hj0
  have hu : u = .int .i64 x := by
    have : (some (Value.int .i64 x)) = some u := hj
    simpa using this.symm
  rw [hu]
  show (xs.map (Value.int .i64))[k * 1 + 0]? = _
  rw [Nat.mul_one, Nat.add_zero, List.getElem?_map, hx]; rfl
/-- A result that is a new slice of numbers. -/
theorem Sep.addOwn {w0 w w' : World} {S O : Nat → Prop} {L : Hold} (h : Sep w0 S O w L) (i : Nat) (hi : L i = .gone) (hK : Pure w w') {B : Nat} {e : TypeId} {A : Option Addr} {l cap : Nat} {xs : List Int} (ho : OwnS w' B e 1 A l cap (xs.map (Value.int .i64))) (hB : w.heap.size ≤ B) : Sep w0 S O w' (stl L i (.own cI e A l cap xs)) :=
  h.add i hi _ hK (fun k hk => Nat.le_trans hB (ho.at_ hk).1) (ownC_ints ho)
theorem row_ownS {w : World} {g : Nat} {e : TypeId} {cap : Nat} {xs : List Int} (h : IRow w g e cap xs) (hc : cap ≤ maxLen) {B : Nat} (hB : B ≤ g) : OwnS w B e 1 (some ⟨g, 0, none⟩) xs.length cap (xs.map (Value.int .i64)) := by
  have hle := IRow.le h
  obtain ⟨cur, h1, h2, h3⟩ := h
  refine ⟨by simp, .inr ⟨g, 0, cur, rfl, hB, h1, hle, hc, by omega, ?_⟩⟩
  rw [List.drop_zero, Nat.mul_one]
  simpa using h3

theorem sep_two {w w' : World} {O : Nat → Prop} (hO : ∀ k, O k → k < w.heap.size) (p : Pure w w') {e : TypeId} {A1 A2 : Option Addr} {l1 c1 l2 c2 : Nat} {xs ys : List Int} (o1 : OwnS w' w.heap.size e 1 A1 l1 c1 (xs.map (Value.int .i64))) (o2 : OwnS w' w.heap.size e 1 A2 l2 c2 (ys.map (Value.int .i64)))
    (hne : ∀ k, A1.map (·.block) = some k → A2.map (·.block) = some k → False) : Sep w no O w' (rl [.own cI e A1 l1 c1 xs, .own cI e A2 l2 c2 ys]) := by
  have hb : ∀ i k, (rl [.own cI e A1 l1 c1 xs, .own cI e A2 l2 c2 ys] i).blk = some k → (i = 0 ∧ A1.map (·.block) = some k) ∨ (i = 1 ∧ A2.map (·.block) = some k) := fun i k hk => by
    match i with
    | 0 => exact .inl ⟨rfl, hk⟩
    | 1 => exact .inr ⟨rfl, hk⟩
    | i + 2 => cases hk
  refine ⟨p, fun k hk => ⟨hO k hk, id⟩, fun i => ?_, fun i k hk => ?_, fun i j k hi hj => ?_⟩
  · match i with
    | 0 => exact ownC_ints o1
    | 1 => exact ownC_ints o2
    | i + 2 => trivial
  · rcases hb i k hk with ⟨_, q⟩ | ⟨_, q⟩
    · exact .inl (o1.at_ q).1
    · exact .inl (o2.at_ q).1
  · rcases hb i k hi with ⟨e1, q1⟩ | ⟨e1, q1⟩ <;> rcases hb j k hj with ⟨e2, q2⟩ | ⟨e2, q2⟩
    · omega
    · exact (hne k q1 q2).elim
    · exact (hne k q2 q1).elim
    · omega

section
variable {O : Nat → Prop} {w : World} {n : Int} {es : List E3} {q : Int} {d : List Int} {A : Option Addr} {l c : Nat} {D : Option Addr} {ld cd : Nat}
def pf_reduced_given (n : Int) (es : List E3) (q : Int) (d : List Int) (R : Int → Prop) : Prop := es.length ≤ 1000000000 ∧ d.length ≤ 1000000000 ∧ R (givenF n es q d)
theorem pok_reduced_given {R : Int → Prop} (h : pf_reduced_given n es q d R) (hO : ∀ k, O k → k < w.heap.size) (a0 : (FP.sl c3 A l c es).P O w) (a1 : (FP.sl cI D ld cd d).P O w) :
    Calls Try.prog 63 #[.agg #[.int .i64 n, .slice A l c], .int .i64 q, .slice D ld cd] w fun e w' => ∃ r : Int, e = .returned (.int .i64 r) ∧ Sep w no O w' (rl []) ∧ R r := by
  obtain ⟨h1, h2, h3⟩ := h
  obtain ⟨rfl, he⟩ := sl_edges a0
  obtain ⟨rfl, hd⟩ := sl_ints a1
  refine (given_any A D es d c cd n q w he h1 hd h2).mono ?_
  rintro _ w' ⟨rfl, p⟩
  exact ⟨_, rfl, sep_pure hO p, h3⟩
def pf_connect_Connected (n : Int) (es : List E3) (R : Bool → Int → Prop) : Prop := es.length ≤ 1000000000 ∧ R (decide (gcheckF n es = 0 ∧ connF n es = true)) (gcheckF n es)
theorem pok_connect_Connected {R : Bool → Int → Prop} (h : pf_connect_Connected n es R) (hO : ∀ k, O k → k < w.heap.size) (a0 : (FP.sl c3 A l c es).P O w) :
    Calls Try.prog 110 #[.agg #[.int .i64 n, .slice A l c]] w fun e w' => ∃ r : Bool, ∃ r2 : Int, e = .returned (.tuple #[.bool r, .int .i64 r2]) ∧ Sep w no O w' (rl []) ∧ R r r2 := by
  obtain ⟨h1, h3⟩ := h
  obtain ⟨rfl, he⟩ := sl_edges a0
  refine (connected_any A es c n w he h1).mono ?_
  rintro _ w' ⟨rfl, p⟩
  exact ⟨_, _, rfl, sep_pure hO p, h3⟩
def pf_l34_awake (R : Bool → Prop) : Prop := R true
theorem pok_l34_awake {R : Bool → Prop} (h : pf_l34_awake R) (hO : ∀ k, O k → k < w.heap.size) :
    Calls Try.prog 16 #[] w fun e w' => ∃ r : Bool, e = .returned (.bool r) ∧ Sep w no O w' (rl []) ∧ R r := by
  refine (awake_any w).mono ?_
  rintro _ w' ⟨rfl, p⟩
  exact ⟨_, rfl, sep_pure hO p, h⟩
def pf_reduced_IsReduced (n : Int) (es : List E3) (q : Int) (d : List Int) (R : Bool → Int → Prop) : Prop := es.length ≤ 1000 ∧ d.length ≤ 1000000000 ∧ ∀ r, (givenF n es q d ≠ 0 → r = false) → (givenF n es q d = 0 → (r = true ↔ Red n.toNat es q.toNat d)) → R r (givenF n es q d)
theorem pok_reduced_IsReduced {R : Bool → Int → Prop} (h : pf_reduced_IsReduced n es q d R) (hO : ∀ k, O k → k < w.heap.size) (a0 : (FP.sl c3 A l c es).P O w) (a1 : (FP.sl cI D ld cd d).P O w) :
    Calls Try.prog 29 #[.agg #[.int .i64 n, .slice A l c], .int .i64 q, .slice D ld cd] w fun e w' => ∃ r : Bool, ∃ r2 : Int, e = .returned (.tuple #[.bool r, .int .i64 r2]) ∧ Sep w no O w' (rl []) ∧ R r r2 := by
  obtain ⟨h1, h2, h3⟩ := h
  obtain ⟨rfl, he⟩ := sl_edges a0
  obtain ⟨rfl, hd⟩ := sl_ints a1
  refine (isreduced_any A D es d c cd n q w he hd h2 h1).mono ?_
  rintro _ w' ⟨r, er, rfl, p, rfl, k1, k2⟩
  exact ⟨_, _, rfl, sep_pure hO p, h3 r k1 k2⟩
def pf_reduced_Unburnt (n : Int) (es : List E3) (q : Int) (d : List Int) (R : List Int → Int → Prop) : Prop := es.length ≤ 1000 ∧ d.length ≤ 1000000000 ∧
  ((if givenF n es q d = 0 then (if owesF q d = true then (15 : Int) else 0) else givenF n es q d) ≠ 0 → R [] (if givenF n es q d = 0 then (if owesF q d = true then 15 else 0) else givenF n es q d)) ∧
  ((if givenF n es q d = 0 then (if owesF q d = true then (15 : Int) else 0) else givenF n es q d) = 0 → ∀ burnt, Burns n.toNat es q.toNat d burnt → R (setF (leftOf burnt) n.toNat) 0)
theorem pok_reduced_Unburnt {R : List Int → Int → Prop} (h : pf_reduced_Unburnt n es q d R) (hO : ∀ k, O k → k < w.heap.size) (a0 : (FP.sl c3 A l c es).P O w) (a1 : (FP.sl cI D ld cd d).P O w) :
    Calls Try.prog 31 #[.agg #[.int .i64 n, .slice A l c], .int .i64 q, .slice D ld cd] w fun e w' => ∃ r : List Int, ∃ r2 : Int, ∃ Ar : Option Addr, ∃ lr cr : Nat, e = .returned (.tuple #[.slice Ar lr cr, .int .i64 r2]) ∧ Sep w no O w' (rl [.own cI 3 Ar lr cr r]) ∧ R r r2 := by
  obtain ⟨h1, h2, h3, h4⟩ := h
  obtain ⟨rfl, he⟩ := sl_edges a0
  obtain ⟨rfl, hd⟩ := sl_ints a1
  refine (unburntp_any A D es d c cd n q w he hd h2 h1).mono ?_
  rintro _ w' ⟨A1, l1, c1, er, rfl, p, rfl, k1, k2⟩
  by_cases h0 : (if givenF n es q d = 0 then (if owesF q d = true then (15 : Int) else 0) else givenF n es q d) = 0
  · obtain ⟨burnt, hb, ho⟩ := k2 h0
    refine ⟨_, _, A1, l1, c1, rfl, ((Sep.start w hO).addOwn 0 rfl p ho (Nat.le_refl _)).sel [0] (by decide), ?_⟩
    rw [h0]; exact h4 h0 burnt hb
  · obtain ⟨rfl, rfl, rfl⟩ := k1 h0
    exact ⟨[], _, none, 0, 0, rfl, (((Sep.start w hO).pur p).nil 0 rfl cI 3).sel [0] (by decide), h3 h0⟩
/-- What the functions with a script compute. -/
def outPf (P : Nat → Nat → List Int → List Int → Prop) (n : Int) (es : List E3) (q : Int) (d : List Int) (R : List Int → List Int → Int → Prop) : Prop :=
  Small n es d ∧ d.length ≤ 1000000000 ∧ (givenF n es q d ≠ 0 → R [] [] (givenF n es q d)) ∧ (givenF n es q d = 0 → ∀ d' s', P n.toNat q.toNat d' s' → d'.length = n.toNat → s'.length = n.toNat → R d' s' 0)
theorem outPf_ok {P : Nat → Nat → List Int → List Int → Prop} {R : List Int → List Int → Int → Prop} (h : outPf P n es q d R) (hO : ∀ k, O k → k < w.heap.size) {w' : World} {A1 : Option Addr} {l1 c1 : Nat} {A2 : Option Addr} {l2 c2 : Nat} {er : Int} (ho : OutPost P n es q d w A1 l1 c1 A2 l2 c2 er w') (hlen : ∀ d' s', P n.toNat q.toNat d' s' → d'.length = n.toNat ∧ s'.length = n.toNat) :
    ∃ r r2 : List Int, ∃ r3 : Int, ∃ Ar : Option Addr, ∃ lr cr : Nat, ∃ As : Option Addr, ∃ ls cs : Nat, Ending.returned (.tuple #[.slice A1 l1 c1, .slice A2 l2 c2, .int .i64 er]) = .returned (.tuple #[.slice Ar lr cr, .slice As ls cs, .int .i64 r3]) ∧ Sep w no O w' (rl [.own cI 3 Ar lr cr r, .own cI 3 As ls cs r2]) ∧ R r r2 r3 := by
  obtain ⟨-, -, h3, h4⟩ := h
  obtain ⟨p, rfl, k1, k2⟩ := ho
  by_cases h0 : givenF n es q d = 0
  · obtain ⟨gd, gs, cd', cs', d', s', hP, hr, b1, b2, b3, m1, m2⟩ := k2 h0
    obtain ⟨q1, q2⟩ := hlen d' s' hP
    obtain ⟨rfl, rfl, rfl, rfl, rfl, rfl, r1, r2⟩ := hr
    have o1 := row_ownS r1 m1 b1
    have o2 := row_ownS r2 m2 b2
    rw [q1] at o1
    rw [q2] at o2
    exact ⟨d', s', _, _, _, _, _, _, _, rfl, sep_two hO p o1 o2 (fun k h1 h2 => by simp at h1 h2; omega), by rw [h0]; exact h4 h0 d' s' hP q1 q2⟩
  · obtain ⟨rfl, rfl, rfl, rfl, rfl, rfl⟩ := k1 h0
    exact ⟨[], [], _, none, 0, 0, none, 0, 0, rfl, ((((Sep.start w hO).pur p).nil 0 rfl cI 3).nil 1 rfl cI 3).sel [0, 1] (by decide), h3 h0⟩
def pf_reduced_Reduce (n : Int) (es : List E3) (q : Int) (d : List Int) (R : List Int → List Int → Int → Prop) : Prop := outPf (fun n q d' s' => Reduces n es q d d' s') n es q d R
theorem pok_reduced_Reduce {R : List Int → List Int → Int → Prop} (h : pf_reduced_Reduce n es q d R) (hO : ∀ k, O k → k < w.heap.size) (a0 : (FP.sl c3 A l c es).P O w) (a1 : (FP.sl cI D ld cd d).P O w) :
    Calls Try.prog 17 #[.agg #[.int .i64 n, .slice A l c], .int .i64 q, .slice D ld cd] w fun e w' => ∃ r r2 : List Int, ∃ r3 : Int, ∃ Ar : Option Addr, ∃ lr cr : Nat, ∃ As : Option Addr, ∃ ls cs : Nat, e = .returned (.tuple #[.slice Ar lr cr, .slice As ls cs, .int .i64 r3]) ∧ Sep w no O w' (rl [.own cI 3 Ar lr cr r, .own cI 3 As ls cs r2]) ∧ R r r2 r3 := by
  obtain ⟨rfl, he⟩ := sl_edges a0
  obtain ⟨rfl, hd⟩ := sl_ints a1
  refine (reduce_any A D es d c cd n q w he hd h.2.1 h.1).mono ?_
  rintro _ w' ⟨A1, l1, c1, A2, l2, c2, er, rfl, ho⟩
  exact outPf_ok h hO ho fun d' s' hP => ⟨hP.dl, hP.sl⟩
def pf_reduced_Lend (n : Int) (es : List E3) (q : Int) (d : List Int) (R : List Int → List Int → Int → Prop) : Prop := outPf (fun n q d' s' => Lends n es q d d' s') n es q d R
theorem pok_reduced_Lend {R : List Int → List Int → Int → Prop} (h : pf_reduced_Lend n es q d R) (hO : ∀ k, O k → k < w.heap.size) (a0 : (FP.sl c3 A l c es).P O w) (a1 : (FP.sl cI D ld cd d).P O w) :
    Calls Try.prog 23 #[.agg #[.int .i64 n, .slice A l c], .int .i64 q, .slice D ld cd] w fun e w' => ∃ r r2 : List Int, ∃ r3 : Int, ∃ Ar : Option Addr, ∃ lr cr : Nat, ∃ As : Option Addr, ∃ ls cs : Nat, e = .returned (.tuple #[.slice Ar lr cr, .slice As ls cs, .int .i64 r3]) ∧ Sep w no O w' (rl [.own cI 3 Ar lr cr r, .own cI 3 As ls cs r2]) ∧ R r r2 r3 := by
  obtain ⟨rfl, he⟩ := sl_edges a0
  obtain ⟨rfl, hd⟩ := sl_ints a1
  refine (lendp_any A D es d c cd n q w he hd h.2.1 h.1).mono ?_
  rintro _ w' ⟨A1, l1, c1, A2, l2, c2, er, rfl, ho⟩
  exact outPf_ok h hO ho fun d' s' hP => ⟨hP.dl, hP.sl⟩
end
end Go.Proofs.Ytnhmeckhlajeaaa
