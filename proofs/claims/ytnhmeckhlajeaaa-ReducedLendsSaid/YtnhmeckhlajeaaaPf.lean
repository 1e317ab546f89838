/- Words for walks whose shallow forms speak of what is read and owned alone (pf.py). No program in sight. -/
import Derived.Test.YtnhmeckhlajeaaaApp
import Derived.Test.YtnhmeckhlajeaaaRange
namespace Go.Proofs.Ytnhmeckhlajeaaa
open Go Go.RowKit Go.Shelf
set_option linter.unusedVariables false
set_option linter.unusedSimpArgs false

/-- All facts of a list. -/
def allP (O : Nat → Prop) (w : World) : List FP → Prop
  | [] => True
  | Φ :: t => Φ.P O w ∧ allP O w t
theorem Sep.startl {w : World} {O : Nat → Prop} (hO : ∀ k, O k → k < w.heap.size) (Φs : List FP) (h : allP O w Φs) : Sep w no O w (rl (Φs.map .ro)) := by
  have hr : ∀ (Φs : List FP) (i : Nat), (rl (Φs.map .ro) i = .gone) ∨ ∃ Φ, rl (Φs.map .ro) i = .ro Φ ∧ (allP O w Φs → Φ.P O w) := by
    intro Φs
    induction Φs with
    | nil => intro i; cases i <;> exact .inl rfl
    | cons a t ih =>
      intro i
      cases i with
      | zero => exact .inr ⟨a, rfl, fun h => h.1⟩
      | succ i =>
        rcases ih i with q | ⟨Φ, q, hq⟩
        · exact .inl q
        · exact .inr ⟨Φ, q, fun h => hq h.2⟩
  have hb : ∀ i, (rl (Φs.map .ro) i).blk = none := fun i => by
    rcases hr Φs i with q | ⟨Φ, q, _⟩ <;> rw [q] <;> rfl
  have hB : ∀ k, Bl O (rl (Φs.map .ro)) k → O k := by
    rintro k (q | ⟨j, hj⟩)
    · exact q
    · rw [hb j] at hj; cases hj
  refine ⟨Keeps.refl _ _, fun k hk => ⟨hO k hk, id⟩, fun i => ?_, fun i k hi => (by rw [hb i] at hi; cases hi), fun i j k hi => (by rw [hb i] at hi; cases hi)⟩
  rcases hr Φs i with q | ⟨Φ, q, hq⟩
  · rw [q]; trivial
  · rw [q]; exact Φ.sub (hq h) fun k _ hk => hB k hk
section
variable {P : Program} {E : Env} {w : World} {d : Option Tmp} {x y z : Operand} {ty xt yt : TypeId} {ps : String} {af : Array Edge} {g : Option (Nat × Bool)}
theorem v_lenx {A : Option Addr} {l c n : Nat} {e : TypeId} (hx : evE E x = .slice A l c) (hu : P.underlying xt = some (.slice e)) (hl : l = n) : (execOp (evE E) ⟨d, .call ⟨.builtin .len, #[x], #[xt]⟩, ty, ps, af, g⟩).run P w = .ok (.value (.int .i64 (n : Int))) w := by
  subst hl; exact v_len hx hu
end
section
variable {P : Program} {E : Env} {w : World} {d : Option Tmp} {x y z : Operand} {ty xt yt : TypeId} {ps : String} {af : Array Edge} {g : Option (Nat × Bool)}
theorem v_seqlx {A : Option Addr} {l c l2 c2 : Nat} {e : TypeId} {b : Bool} (hx : evE E x = .slice A l c) (hy : evE E y = .slice none l2 c2) (hu : P.underlying xt = some (.slice e)) (hb : Option.isNone A = b) : (execOp (evE E) ⟨d, .binOp .eql xt x y yt, ty, ps, af, g⟩).run P w = .ok (.value (.bool b)) w := by
  subst hb; exact v_seql hx hy hu
theorem v_sneq {A : Option Addr} {l c l2 c2 : Nat} {e : TypeId} (hx : evE E x = .slice A l c) (hy : evE E y = .slice none l2 c2) (hu : P.underlying xt = some (.slice e)) : (execOp (evE E) ⟨d, .binOp .neq xt x y yt, ty, ps, af, g⟩).run P w = .ok (.value (.bool (!A.isNone))) w := by
  have h2 : binOp .neq xt (.slice A l c) (.slice none l2 c2) = (do pure (.bool (!(← Op.equal xt (.slice A l c) (.slice none l2 c2))))) := rfl
  have h3 : eqGuard .neq xt x y (.slice A l c) (.slice none l2 c2) = pure () := rfl
  have h4 : (Op.equal xt (.slice A l c) (.slice none l2 c2)).run P w = .ok A.isNone w := by
    unfold Op.equal Op.maxDepth
    rw [show (10000 : Nat) = 9999 + 1 from rfl, Op.equalIn]
    simp only [Sem.run_bind, run_underlying hu, Result.andThen]
    cases A <;> rfl
  unfold execOp
  simp only [hx, hy, h2, h3, h4, Sem.run_bind, Sem.run_pure, Result.andThen]
theorem v_sneqx {A : Option Addr} {l c l2 c2 : Nat} {e : TypeId} {b : Bool} (hx : evE E x = .slice A l c) (hy : evE E y = .slice none l2 c2) (hu : P.underlying xt = some (.slice e)) (hb : Option.isNone A = b) : (execOp (evE E) ⟨d, .binOp .neq xt x y yt, ty, ps, af, g⟩).run P w = .ok (.value (.bool (!b))) w := by
  subst hb; exact v_sneq hx hy hu
end
/-! ### What is lent -/
def asc : List (Nat × Nat) → Nat → Option Nat
  | [], _ => none
  | (i, a) :: t, j => bif Nat.beq j i then some a else asc t j
theorem asc_mem : ∀ {l : List (Nat × Nat)} {j a : Nat}, asc l j = some a → (j, a) ∈ l
  | [], _, _, h => by cases h
  | (i, b) :: t, j, a, h => by
    unfold asc at h
    cases hq : Nat.beq j i with
    | true =>
      rw [hq] at h
      simp at h
      have := Nat.eq_of_beq_eq_true hq
      subst this; subst h
      exact List.mem_cons_self
    | false => rw [hq] at h; simp at h; exact List.mem_cons_of_mem _ (asc_mem h)
theorem asc_inj : ∀ {l : List (Nat × Nat)}, (l.map (·.2)).Nodup → ∀ i j a, asc l i = some a → asc l j = some a → i = j := by
  intro l hn i j a hi hj
  have h1 := asc_mem hi
  have h2 := asc_mem hj
  clear hi hj
  induction l with
  | nil => cases h1
  | cons x t ih =>
    rw [List.map_cons, List.nodup_cons] at hn
    rcases List.mem_cons.1 h1 with q | q <;> rcases List.mem_cons.1 h2 with r | r
    · rw [← q] at r; exact (Prod.mk.inj r).1.symm
    · exact absurd (List.mem_map.2 ⟨_, r, by rw [← q]⟩) hn.1
    · exact absurd (List.mem_map.2 ⟨_, q, by rw [← r]⟩) hn.1
    · exact ih hn.2 q r
theorem ne_none {o : Option Nat} {a : Nat} (h : o = some a) : o ≠ none := by rw [h]; exact nofun
def LentS (L : Hold) (f : Nat → Option Nat) (k : Nat) : Prop := ∃ j, f j ≠ none ∧ (L j).blk = some k
def LentO (O : Nat → Prop) (L : Hold) (f : Nat → Option Nat) (k : Nat) : Prop := O k ∨ ∃ j, f j = none ∧ (L j).blk = some k
def allJ (p : Nat → Prop) : List Nat → Prop
  | [] => True
  | a :: t => p a ∧ allJ p t
theorem allJ.out {p : Nat → Prop} : ∀ {l : List Nat}, allJ p l → ∀ j ∈ l, p j
  | a :: t, h, j, hj => by
    rcases List.mem_cons.1 hj with rfl | q
    · exact h.1
    · exact allJ.out h.2 j q
theorem rl_map (L : Hold) : ∀ (js : List Nat) (i : Nat), rl (js.map L) i = match js[i]? with | some j => L j | none => .gone
  | [], i => by cases i <;> rfl
  | a :: t, 0 => rfl
  | a :: t, i + 1 => by rw [List.map_cons, rl, rl_map L t i]; simp
section
variable {w0 w w' : World} {S O : Nat → Prop} {L : Hold}
theorem Sep.lend (h : Sep w0 S O w L) (f : Nat → Option Nat) (js : List Nat) (hj : js.Nodup) (hf : allJ (fun j => f j ≠ none ∨ (L j).blk = none) js) : Sep w (LentS L f) (LentO O L f) w (rl (js.map L)) := by
  have hm : ∀ i k, (rl (js.map L) i).blk = some k → ∃ j, j ∈ js ∧ js[i]? = some j ∧ (L j).blk = some k := fun i k hk => by
    rw [rl_map] at hk
    cases hq : js[i]? with
    | none => rw [hq] at hk; cases hk
    | some j => rw [hq] at hk; exact ⟨j, List.mem_of_getElem? hq, rfl, hk⟩
  refine ⟨Keeps.refl _ _, fun k hk => ?_, fun i => ?_, fun i k hk => ?_, fun a b k ha hb => ?_⟩
  · rcases hk with hk | ⟨j, hj, hb⟩
    · refine ⟨Nat.lt_of_lt_of_le (h.lt k hk).1 h.pure.size, ?_⟩
      rintro ⟨j, _, hb⟩
      have := h.lt k hk
      rcases h.bd j k hb with q | q
      · omega
      · exact this.2 q
    · refine ⟨((h.ok j).lt hb).2, ?_⟩
      rintro ⟨j2, hj2, hb2⟩
      have := h.nd j j2 k hb hb2
      subst this
      exact hj2 hj
  · rw [rl_map]
    cases hq : js[i]? with
    | none => trivial
    | some j =>
      refine (h.ok j).sub fun k _ hk => ?_
      rcases hk with (q | ⟨j2, _, q⟩) | ⟨i2, q⟩
      · exact .inl q
      · exact .inr ⟨j2, q⟩
      · obtain ⟨j3, _, _, q3⟩ := hm i2 k q
        exact .inr ⟨j3, q3⟩
  · obtain ⟨j, hj1, _, hb⟩ := hm i k hk
    refine .inr ⟨j, ?_, hb⟩
    rcases hf.out j hj1 with q | q
    · exact q
    · rw [q] at hb; cases hb
  · obtain ⟨j1, _, h1, b1⟩ := hm a k ha
    obtain ⟨j2, _, h2, b2⟩ := hm b k hb
    have := h.nd j1 j2 k b1 b2
    subst this
    obtain ⟨l1, e1⟩ := List.getElem?_eq_some_iff.1 h1
    obtain ⟨l2, e2⟩ := List.getElem?_eq_some_iff.1 h2
    exact (List.getElem_inj hj).1 (e1.trans e2.symm)
theorem Sep.back (h : Sep w0 S O w L) (f : Nat → Option Nat) (inj : ∀ i j a, f i = some a → f j = some a → i = j) {Lr : Hold} (hC : Sep w (LentS L f) (LentO O L f) w' Lr) : Sep w0 S O w' (pick L Lr f) := by
  have hn : ∀ j, f j = none → pick L Lr f j = L j := fun j hq => by unfold pick; rw [hq]
  have hsm : ∀ j a, f j = some a → pick L Lr f j = Lr a := fun j a hq => by unfold pick; rw [hq]
  have hs : ∀ k, Bl O (pick L Lr f) k → Bl (LentO O L f) Lr k := by
    rintro k (q | ⟨j, hj⟩)
    · exact .inl (.inl q)
    · cases hq : f j with
      | none => rw [hn j hq] at hj; exact .inl (.inr ⟨j, hq, hj⟩)
      | some a => rw [hsm j a hq] at hj; exact .inr ⟨a, hj⟩
  refine h.step (T := LentS L f) hC.pure (fun k _ ⟨j, _, hj⟩ => ⟨j, hj⟩) (fun j k hk => ?_) (fun j => ?_) (fun x y k hx hy => ?_)
  · cases hq : f j with
    | none => rw [hn j hq] at hk; exact .inl ⟨j, hk⟩
    | some a =>
      rw [hsm j a hq] at hk
      rcases hC.bd a k hk with q | ⟨j2, _, q⟩
      · exact .inr q
      · exact .inl ⟨j2, q⟩
  · cases hq : f j with
    | none =>
      refine .inl ⟨j, hn j hq, fun k hk => ?_⟩
      rintro ⟨j2, h2, hb⟩
      have := h.nd j j2 k hk hb
      subst this
      exact h2 hq
    | some a => rw [hsm j a hq]; exact .inr ((hC.ok a).sub fun k _ hk => hs k hk)
  · have cross : ∀ x y b, f x = none → f y = some b → (L x).blk = some k → (Lr b).blk = some k → False := fun x y b hx hy h1 h2 => by
      rcases hC.bd b k h2 with q | ⟨j2, q2, q⟩
      · have := ((h.ok x).lt h1).2; omega
      · have := h.nd x j2 k h1 q
        subst this
        exact q2 hx
    cases hq : f x with
    | none =>
      rw [hn x hq] at hx
      cases hq2 : f y with
      | none => rw [hn y hq2] at hy; exact h.nd x y k hx hy
      | some b => rw [hsm y b hq2] at hy; exact (cross x y b hq hq2 hx hy).elim
    | some a =>
      rw [hsm x a hq] at hx
      cases hq2 : f y with
      | none => rw [hn y hq2] at hy; exact (cross y x a hq2 hq hy hx).elim
      | some b => rw [hsm y b hq2] at hy; have := hC.nd a b k hx hy; subst this; exact inj x y a hq hq2
end
/-- A fact that stays while what it reaches is kept. -/
def FP.st (Φ : World → Prop) : FP := ⟨fun O w => ∀ w', Keeps O w w' → Φ w', fun h hk w' hk' => h w' (hk.trans hk'), fun h hs w' hk => h w' (hk.mono hs)⟩
theorem nil_sl {τ : Type} (c : Cod τ) (O : Nat → Prop) (w : World) : (FP.sl c none 0 0 []).P O w := ⟨rfl, Nat.le_refl _, Sl.nil _ _ _ _⟩
theorem ro_R {τ : Type} {c : Cod τ} {O : Nat → Prop} {w : World} {A : Option Addr} {l cap : Nat} {xs : List τ} (h : (FP.sl c A l cap xs).P O w) : (cL c).R O w [.slice A l cap] xs := ⟨A, l, cap, rfl, h⟩
theorem rd_nil {τ : Type} {c : Cod τ} {O : Nat → Prop} {w : World} {A : Option Addr} {l cap : Nat} {xs : List τ} (h : (FP.sl c A l cap xs).P O w) : A.isNone = true → xs = [] := fun hA => by
  rcases Nat.eq_zero_or_pos xs.length with h0 | h0
  · exact List.length_eq_zero_iff.1 h0
  · obtain ⟨b, off, e, _⟩ := h.2.2 h0
    rw [e] at hA; cases hA
theorem cast_calls {P : Program} {f : FuncId} {vs vs' : Array Value} {w : World} {R : Ending → World → Prop} (e : vs = vs') (h : Calls P f vs w R) : Calls P f vs' w R := by subst e; exact h
theorem le_cap {τ : Type} {c : Cod τ} {O : Nat → Prop} {w : World} {A : Option Addr} {l cap : Nat} {xs : List τ} (h : (FP.sl c A l cap xs).P O w) {k : Int} (hk : 0 ≤ k ∧ k ≤ ((xs.length : Nat) : Int)) : 0 ≤ k ∧ k ≤ ((cap : Nat) : Int) := by
  have h1 := h.1; have h2 := h.2.1; omega
theorem le_cap2 {τ : Type} {c : Cod τ} {O : Nat → Prop} {w : World} {A : Option Addr} {l cap : Nat} {xs : List τ} (h : (FP.sl c A l cap xs).P O w) {k m : Int} (hk : 0 ≤ k ∧ k ≤ m ∧ m ≤ ((xs.length : Nat) : Int)) : 0 ≤ k ∧ k ≤ m ∧ m ≤ ((cap : Nat) : Int) := by
  have h1 := h.1; have h2 := h.2.1; omega
end Go.Proofs.Ytnhmeckhlajeaaa
