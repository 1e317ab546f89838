/- The walk of a function's code over an environment: flat, a step a lemma. No program in sight. -/
import Derived.OrdersIn
import Derived.TacticsIn
import Derived.RegionIn
import Derived.RangeFuncCalls
import Derived.IntWalk
namespace Go.Proofs.Ytnhmeckhlajeaaa
open Go
set_option linter.unusedVariables false
set_option linter.unusedSimpArgs false

/-! ### Environments -/
abbrev Env := Nat → Value
def upd (E : Env) (d : Nat) (v : Value) : Env := fun t => bif Nat.beq t d then v else E t
def updO (E : Env) (d : Option Nat) (v : Value) : Env := match d with | some d => upd E d v | none => E
def evE (E : Env) : Operand → Value
  | .tmp t => E t
  | .const v => v
  | .global g => .pointer (some ⟨g, 0, none⟩)
  | .func f => .func (.func f) #[] #[]

/-- The act a holds what the environment says; it has N slots. -/
structure Rep (N : Nat) (E : Env) (ds : List Deferred) (a : Act) : Prop where
  size : a.tmps.size = N
  get : ∀ t, a.tmps.getD t undef = E t
  defers : a.defers = ds

theorem Rep.eval {N : Nat} {E : Env} {ds : List Deferred} {a : Act} (h : Rep N E ds a) : a.eval = evE E := by
  funext x
  cases x <;> simp [Act.eval, evE, h.get]
theorem Rep.put {N : Nat} {E : Env} {ds : List Deferred} {a : Act} (h : Rep N E ds a) {d : Option Nat} (hd : ∀ k, d = some k → k < N) (v : Value) : Rep N (updO E d v) ds (a.put d v) := by
  cases d with
  | none => exact h
  | some d =>
    have hd := hd d rfl
    refine ⟨by simp [Act.put, h.size], fun t => ?_, h.defers⟩
    simp only [Act.put, updO, upd]
    have hs := h.size
    have hg := h.get t
    by_cases e : t = d
    · subst e
      have hb : Nat.beq t t = true := Nat.beq_refl t
      rw [hb]
      simp [Array.getD_eq_getD_getElem?, Array.getElem?_setIfInBounds, hs, hd]
    · have hb : Nat.beq t d = false := by
        cases hq : Nat.beq t d with
        | false => rfl
        | true => exact absurd (Nat.eq_of_beq_eq_true hq) e
      rw [hb]
      simp only [cond_false]
      rw [← hg]
      simp [Array.getD_eq_getD_getElem?, Array.getElem?_setIfInBounds, Ne.symm e]

/-- What an operation of the region yielded, by the environment. -/
def yE (ops : Array Oper) (E : Env) (j : Nat) : Option Bool :=
  match (ops[j]?).bind (·.dst) with
  | none => none
  | some d => match E d with
    | .bool b => some b
    | _ => none
theorem Rep.yielded {N : Nat} {E : Env} {ds : List Deferred} {a : Act} (h : Rep N E ds a) (ops : Array Oper) : yielded ops a.tmps = yE ops E := by
  funext j
  unfold Go.yielded yE
  cases (ops[j]?).bind (·.dst) with
  | none => rfl
  | some d =>
    have hg := h.get d
    simp only [Option.bind_some]
    rw [Array.getD_eq_getD_getElem?] at hg
    cases hq : a.tmps[d]? with
    | none =>
      rw [hq] at hg
      simp only [Option.getD_none] at hg
      rw [← hg]
      rfl
    | some v =>
      rw [hq] at hg
      simp only [Option.getD_some] at hg
      rw [← hg]
      cases v <;> rfl

/-! ### The flat walk -/
/-- From the items todo (with whatever lies behind them) the walk arrives as Q says. -/
def WTa (F : Fence) (n : Nat) (P : Program) (todo : List Item) (Q : Exit → Act → World → Prop) (a : Act) (w : World) : Prop :=
  ∀ (b : Frame) (k : List Item) (cs : List Frame), b.roundOf = F.round → F.fn b.fn → F.room (cs.length + 1 + n) →
    ∃ e a' w', Q e a' w' ∧ ArrivesIn (Machine.fenced P F) P (lone (b.atR a (todo ++ k)) cs w) b k cs e a' w'

section
variable {F : Fence} {n : Nat} {P : Program} {Q : Exit → Act → World → Prop} {a : Act} {w : World} {t : List Item}

theorem WTa.code {c : Code} (h : WTa F n P [.code c] Q a w) : c.wpIn F n P Q a w := h
theorem WTa.of {c : Code} (h : c.wpIn F n P (fun e a' w' => e = .normal ∧ WTa F n P t Q a' w') a w) : WTa F n P (.code c :: t) Q a w := by
  intro b k cs hro hb hr
  obtain ⟨e, a', w', ⟨he, hw⟩, harr⟩ := h b (t ++ k) cs hro hb hr
  subst he
  obtain ⟨e2, a2, w2, hq, harr2⟩ := hw b k cs hro hb hr
  exact ⟨e2, a2, w2, hq, .of_steps harr harr2⟩
theorem WTa.nil (h : Q .normal a w) : WTa F n P [] Q a w := fun b k cs _ _ _ => ⟨.normal, a, w, h, .refl _⟩
theorem WTa.skip (h : WTa F n P t Q a w) : WTa F n P (.code .skip :: t) Q a w := WTa.of (wpIn_skip ⟨rfl, h⟩)
theorem WTa.seq {x y : Code} (h : WTa F n P (.code x :: .code y :: t) Q a w) : WTa F n P (.code (.seq x y) :: t) Q a w := by
  intro b k cs hro hb hr
  obtain ⟨e, a', w', hq, harr⟩ := h b k cs hro hb hr
  exact ⟨e, a', w', hq, .of_steps (.one (fenced_calm hb hr rfl) stepR_seq) harr⟩
theorem WTa.block {id : Nat} {c : Code} (h : WTa F n P (.code c :: .inBlock id :: t) Q a w) : WTa F n P (.code (.block id c) :: t) Q a w := by
  intro b k cs hro hb hr
  obtain ⟨e, a', w', hq, harr⟩ := h b k cs hro hb hr
  exact ⟨e, a', w', hq, .of_steps (.one (fenced_calm hb hr rfl) stepR_block) harr⟩
theorem WTa.inBlock {id : Nat} (h : WTa F n P t Q a w) : WTa F n P (.inBlock id :: t) Q a w := by
  intro b k cs hro hb hr
  obtain ⟨e, a', w', hq, harr⟩ := h b k cs hro hb hr
  exact ⟨e, a', w', hq, .of_steps (.one (fenced_calm hb hr rfl) stepR_inBlock) harr⟩
theorem exitTo_append {id : Nat} {k' : List Item} (k : List Item) : ∀ {t : List Item}, exitTo id t = some k' → exitTo id (t ++ k) = some (k' ++ k)
  | [], h => by simp [exitTo] at h
  | x :: t, h => by
    cases x <;> simp only [exitTo, List.cons_append] at h ⊢
    case inBlock id' =>
      split at h
      · rename_i hc; rw [if_pos hc]; simp only [Option.some.injEq] at h; rw [h]
      · rename_i hc; rw [if_neg hc]; exact exitTo_append k h
    all_goals exact exitTo_append k h
theorem WTa.exit {id : Nat} {k' : List Item} (he : exitTo id t = some k') (h : WTa F n P k' Q a w) : WTa F n P (.code (.exit id) :: t) Q a w := by
  intro b k cs hro hb hr
  obtain ⟨e, a', w', hq, harr⟩ := h b k cs hro hb hr
  exact ⟨e, a', w', hq, .of_steps (.one (fenced_calm hb hr rfl) (stepR_exit (exitTo_append k he))) harr⟩
theorem exitTo_none {id : Nat} (k : List Item) : ∀ {t : List Item}, exitTo id t = none → exitTo id (t ++ k) = exitTo id k
  | [], _ => rfl
  | x :: t, h => by
    cases x <;> simp only [exitTo, List.cons_append] at h ⊢
    case inBlock id' =>
      split at h
      · cases h
      · rename_i hc; rw [if_neg hc]; exact exitTo_none k h
    all_goals exact exitTo_none k h
theorem WTa.leave {id : Nat} (he : exitTo id t = none) (h : Q (.exit id) a w) : WTa F n P (.code (.exit id) :: t) Q a w := by
  intro b k cs hro hb hr
  refine ⟨.exit id, a, w, h, ⟨fun k' hk => .one (fenced_calm hb hr rfl) (stepR_exit (show exitTo id (t ++ k) = some k' by rw [exitTo_none k he]; exact hk)), fun _ hk => ⟨t ++ k, by rw [exitTo_none k he]; exact hk, .refl _⟩⟩⟩
theorem WTa.ret (h : Q .ret a w) : WTa F n P (.code .ret :: t) Q a w :=
  fun _ k _ _ hb hr => ⟨.ret, a, w, h, fun hn => ⟨_, .one (fenced_calm hb hr rfl) (stepR_ret hn)⟩, fun _ => ⟨t ++ k, .refl _⟩⟩
theorem WTa.cond {c : Operand} {x y : Code} {d : Bool} (hc : a.eval c = .bool d) (h : WTa F n P (.code (if d then x else y) :: t) Q a w) : WTa F n P (.code (.cond c x y) :: t) Q a w := by
  intro b k cs hro hb hr
  obtain ⟨e, a', w', hq, harr⟩ := h b k cs hro hb hr
  exact ⟨e, a', w', hq, .of_steps (.one (fenced_calm hb hr rfl) (stepR_cond hc)) harr⟩
theorem WTa.loop {c : Code} (I : Act → World → Prop) (μ : Act → World → Nat) (h₀ : I a w)
    (round : ∀ a w, I a w → (∀ a' w', I a' w' → μ a' w' < μ a w → WTa F n P (.inLoop c :: t) Q a' w') → WTa F n P (.code c :: .inLoop c :: t) Q a w) : WTa F n P (.code (.loop c) :: t) Q a w := by
  have key : ∀ j a w, μ a w = j → I a w → WTa F n P (.code c :: .inLoop c :: t) Q a w := by
    intro j
    induction j using Nat.strongRecOn with
    | _ j ih =>
      intro a w hj hI
      refine round a w hI fun a' w' hI' hlt => ?_
      intro b k cs hro hb hr
      obtain ⟨e, a2, w2, hq, harr⟩ := ih (μ a' w') (hj ▸ hlt) a' w' rfl hI' b k cs hro hb hr
      exact ⟨e, a2, w2, hq, .of_steps (.one (fenced_calm hb hr rfl) stepR_inLoop) harr⟩
  intro b k cs hro hb hr
  obtain ⟨e, a2, w2, hq, harr⟩ := key _ a w rfl h₀ b k cs hro hb hr
  exact ⟨e, a2, w2, hq, .of_steps (.one (fenced_calm hb hr rfl) stepR_loop) harr⟩
end

/-! ### Regions: operations in the text's order; what reads may have been carried out later -/
/-- An operation that may read the world and leaves it as it was. -/
def quietOp : Op → Bool
  | .load .. | .nilCheck .. | .fieldAddr .. | .indexAddr .. | .move .. | .assign .. | .binOp .. | .unOp .. | .pick .. | .index .. | .field .. | .extract .. | .convert .. | .makeFunc .. | .slice .. => true
  | .call c => match c.callee with
    | .builtin .len | .builtin .cap | .builtin .max | .builtin .min => true
    | _ => false
  | _ => false
/-- An operation of the other kind that the walk knows. -/
def noisyOp : Op → Bool
  | .select .. | .defer .. | .go .. => false
  | _ => true

theorem quietOp.select {o : Op} (h : quietOp o = true) : ∀ cs b, o ≠ .select cs b := fun cs b e => by rw [e] at h; cases h
theorem quietOp.defer {o : Op} (h : quietOp o = true) : ∀ c, o ≠ .defer c := fun c e => by rw [e] at h; cases h
theorem noisyOp.select {o : Op} (h : noisyOp o = true) : ∀ cs b, o ≠ .select cs b := fun cs b e => by rw [e] at h; cases h
theorem noisyOp.defer {o : Op} (h : noisyOp o = true) : ∀ c, o ≠ .defer c := fun c e => by rw [e] at h; cases h

/-- What one operation of the other kind may do: yield, pass, call. -/
def noisy (P : Program) (o : Oper) (ρ : Operand → Value) (w : World) (K : Value → World → Prop) : Prop :=
  match (execOp ρ o).run P w with
  | .ok (.value v) w' => K v w'
  | .ok .skip w' => K undef w'
  | .ok (.enter f args) w' => Calls P f args w' fun e w'' => ∃ v, e = .returned v ∧ K v w''
  | _ => False
theorem noisy.mono {P : Program} {o : Oper} {ρ : Operand → Value} {w : World} {K K' : Value → World → Prop} (h : noisy P o ρ w K) (hk : ∀ v w', K v w' → K' v w') : noisy P o ρ w K' := by
  unfold noisy at h ⊢
  split at h
  · exact hk _ _ h
  · exact hk _ _ h
  · intro cs
    obtain ⟨e, w', fr, ⟨v, rfl, hK⟩, r⟩ := h cs
    exact ⟨_, w', fr, ⟨v, rfl, hk _ _ hK⟩, r⟩
  · exact h.elim

section
variable (P : Program) (ops : Array Oper) (st : Nat → List Nat) (Q : Act → World → Prop)
/-- The operations of a region in the list's order. pend: what was read so far; st: for an operation, those reads that may come behind it. -/
def seqS : List Nat → List (Nat × Sem Next × Value) → Act → World → Prop
  | [], _, a, w => Q a w
  | i :: rest, pend, a, w => match ops[i]? with
    | none => seqS rest pend a w
    | some o => if Region.wanted o (yielded ops a.tmps) = true then
        (if quietOp o.op = true then ∃ v, (execOp a.eval o).run P w = .ok (.value v) w ∧ seqS rest ((i, execOp a.eval o, v) :: pend) (a.put o.dst v) w
         else noisyOp o.op = true ∧ noisy P o a.eval w fun v w' => (∀ p ∈ pend, p.1 ∈ st i → p.2.1.run P w' = .ok (.value p.2.2) w') ∧ seqS rest pend (a.put o.dst v) w')
      else seqS rest pend (a.put o.dst undef) w
end

/-- Does operation j wait for operation i, perhaps by way of others? -/
def dep (ops : Array Oper) : Nat → Nat → Nat → Bool
  | 0, _, _ => false
  | fuel + 1, i, j => match ops[j]? with
    | none => false
    | some o => o.after.any fun e => Region.binds .any e && (e.on == i || dep ops fuel i e.on)

/-- Operation i may stand ahead of operation j in the list: j does not come first of need, and either j waits for i, or both are quiet, or i is quiet and st says so of j. -/
def okPair (ops : Array Oper) (st : Nat → List Nat) (i j : Nat) : Bool :=
  match ops[i]?, ops[j]? with
  | some oi, some oj => (oi.after.all fun e => !Region.binds .any e || !(e.on == j)) && (dep ops ops.size i j || (quietOp oi.op && oi.apart ops oj && (quietOp oj.op || (noisyOp oj.op && (st j).contains i))))
  | _, _ => false
def pairsOk (f : Nat → Nat → Bool) : List Nat → Bool
  | [] => true
  | i :: t => t.all (f i) && pairsOk f t
/-- The list has all operations, in a good order. -/
def orderlyS (ops : Array Oper) (st : Nat → List Nat) (R : List Nat) : Bool :=
  (R.all fun j => match ops[j]? with
    | none => false
    | some oj => oj.after.all fun e => !Region.binds .any e || (decide (e.on < ops.size) && !(e.on == j))) && (List.range ops.size).all (R.contains ·) && decide (R.length ≤ ops.size) && pairsOk (fun i j => !(i == j) && okPair ops st i j) R

section
variable {P : Program} {ops : Array Oper} {st : Nat → List Nat} {Q : Act → World → Prop} {i j : Nat}

theorem seqS_pend : ∀ (R : List Nat) (pend pend' : List (Nat × Sem Next × Value)) (a : Act) (w : World), (∀ p, p ∈ pend' → p ∈ pend) → seqS P ops st Q R pend a w → seqS P ops st Q R pend' a w
  | [], _, _, _, _, _, h => h
  | i :: R, pend, pend', a, w, hp, h => by
    simp only [seqS] at h ⊢
    cases ho : ops[i]? with
    | none => simp only [ho] at h ⊢; exact seqS_pend R _ _ _ _ hp h
    | some o =>
      simp only [ho] at h ⊢
      split
      · rename_i c
        rw [if_pos c] at h
        split
        · rename_i q
          rw [if_pos q] at h
          obtain ⟨v, hv, h⟩ := h
          refine ⟨v, hv, seqS_pend R _ _ _ _ (fun p hm => ?_) h⟩
          rcases List.mem_cons.1 hm with rfl | hm
          · exact List.mem_cons_self
          · exact List.mem_cons_of_mem _ (hp p hm)
        · rename_i q
          rw [if_neg q] at h
          exact ⟨h.1, h.2.mono fun v w' h => ⟨fun p hm => h.1 p (hp p hm), seqS_pend R _ _ _ _ hp h.2⟩⟩
      · rename_i c
        rw [if_neg c] at h
        exact seqS_pend R _ _ _ _ hp h

theorem seqS_swap {i j : Nat} {oi oj : Oper} {R : List Nat} {pend : List (Nat × Sem Next × Value)} {a : Act} {w : World} (hi : ops[i]? = some oi) (hj : ops[j]? = some oj) (qi : quietOp oi.op = true)
    (hap : oi.apart ops oj = true) (qj : quietOp oj.op = true ∨ (noisyOp oj.op = true ∧ i ∈ st j)) (h : seqS P ops st Q (i :: j :: R) pend a w) : seqS P ops st Q (j :: i :: R) pend a w := by
  obtain ⟨h1, h2, h3⟩ := Oper.apart_spec hap
  have sj : ∀ cs b, oj.op ≠ .select cs b := by rcases qj with q | q; exact quietOp.select q; exact noisyOp.select q.1
  have wi : ∀ v, Region.wanted oi (yielded ops (a.put oj.dst v).tmps) = Region.wanted oi (yielded ops a.tmps) := fun v => wanted_put oi a oj.dst v h3
  have wj : ∀ v, Region.wanted oj (yielded ops (a.put oi.dst v).tmps) = Region.wanted oj (yielded ops a.tmps) := fun v => wanted_put oj a oi.dst v h1
  have ei : ∀ v, execOp (a.put oj.dst v).eval oi = execOp a.eval oi := fun v => execOp_put oi (quietOp.select qi) a oj.dst v h3
  have ej : ∀ v, execOp (a.put oi.dst v).eval oj = execOp a.eval oj := fun v => execOp_put oj sj a oi.dst v h1
  have pc : ∀ u v, (a.put oi.dst u).put oj.dst v = (a.put oj.dst v).put oi.dst u := fun u v => Act.put_comm a u v h2
  simp only [seqS, hi, hj, qi, if_true] at h ⊢
  by_cases ci : Region.wanted oi (yielded ops a.tmps) = true
  · by_cases cj : Region.wanted oj (yielded ops a.tmps) = true
    · simp only [ci, cj, wi, wj, ei, ej, if_true] at h ⊢
      by_cases q : quietOp oj.op = true
      · simp only [q, if_true] at h ⊢
        obtain ⟨u, hu, v, hv, h⟩ := h
        refine ⟨v, hv, u, hu, ?_⟩
        rw [← pc]
        exact seqS_pend R _ _ _ _ (fun p hm => by simp only [List.mem_cons] at hm ⊢; rcases hm with h | h | h; exact .inr (.inl h); exact .inl h; exact .inr (.inr h)) h
      · have q' : noisyOp oj.op = true ∧ i ∈ st j := by rcases qj with h | h; exact absurd h q; exact h
        simp only [q, Bool.false_eq_true, if_false] at h ⊢
        obtain ⟨u, hu, hn, h⟩ := h
        refine ⟨hn, ?_⟩
        unfold noisy at h ⊢
        rw [ej] at h
        split at h
        · obtain ⟨hs, h⟩ := h
          refine ⟨fun p hm hp => hs p (List.mem_cons_of_mem _ hm) hp, u, hs _ List.mem_cons_self q'.2, ?_⟩
          rw [← pc]; exact h
        · obtain ⟨hs, h⟩ := h
          refine ⟨fun p hm hp => hs p (List.mem_cons_of_mem _ hm) hp, u, hs _ List.mem_cons_self q'.2, ?_⟩
          rw [← pc]; exact h
        · intro cs
          obtain ⟨e, w', fr, ⟨v, rfl, hs, h⟩, r⟩ := h cs
          refine ⟨_, w', fr, ⟨v, rfl, fun p hm hp => hs p (List.mem_cons_of_mem _ hm) hp, u, hs _ List.mem_cons_self q'.2, ?_⟩, r⟩
          rw [← pc]; exact h
        · exact h.elim
    · simp only [ci, cj, wi, wj, ei, ej, if_true, if_false, Bool.false_eq_true] at h ⊢
      obtain ⟨u, hu, h⟩ := h
      exact ⟨u, hu, by rw [← pc]; exact h⟩
  · by_cases cj : Region.wanted oj (yielded ops a.tmps) = true
    · simp only [ci, cj, wi, wj, ei, ej, if_true, if_false, Bool.false_eq_true] at h ⊢
      by_cases q : quietOp oj.op = true
      · simp only [q, if_true] at h ⊢
        obtain ⟨v, hv, h⟩ := h
        exact ⟨v, hv, by rw [← pc]; exact h⟩
      · simp only [q, Bool.false_eq_true, if_false] at h ⊢
        refine ⟨h.1, ?_⟩
        have h := h.2
        unfold noisy at h ⊢
        rw [ej] at h
        split at h
        · exact ⟨h.1, by rw [← pc]; exact h.2⟩
        · exact ⟨h.1, by rw [← pc]; exact h.2⟩
        · intro cs
          obtain ⟨e, w', fr, ⟨v, rfl, hs, h⟩, r⟩ := h cs
          exact ⟨_, w', fr, ⟨v, rfl, hs, by rw [← pc]; exact h⟩, r⟩
        · exact h.elim
    · simp only [ci, cj, wi, wj, if_false, Bool.false_eq_true] at h ⊢
      rw [← pc]; exact h

theorem seqS_cons_mono {i : Nat} {R R' : List Nat} {pend : List (Nat × Sem Next × Value)} (hm : ∀ pend a w, seqS P ops st Q R pend a w → seqS P ops st Q R' pend a w) {a : Act} {w : World}
    (h : seqS P ops st Q (i :: R) pend a w) : seqS P ops st Q (i :: R') pend a w := by
  simp only [seqS] at h ⊢
  cases ho : ops[i]? with
  | none => simp only [ho] at h ⊢; exact hm _ _ _ h
  | some o =>
    simp only [ho] at h ⊢
    split
    · rename_i c
      rw [if_pos c] at h
      split
      · rename_i q
        rw [if_pos q] at h
        obtain ⟨v, hv, h⟩ := h
        exact ⟨v, hv, hm _ _ _ h⟩
      · rename_i q
        rw [if_neg q] at h
        exact ⟨h.1, h.2.mono fun v w' h => ⟨h.1, hm _ _ _ h.2⟩⟩
    · rename_i c
      rw [if_neg c] at h
      exact hm _ _ _ h

theorem seqS_pull {i : Nat} {oi : Oper} (hi : ops[i]? = some oi) : ∀ (R1 R2 : List Nat), (∀ r ∈ R1, ∃ o, ops[r]? = some o ∧ quietOp o.op = true ∧ o.apart ops oi = true ∧ (quietOp oi.op = true ∨ (noisyOp oi.op = true ∧ r ∈ st i))) →
    ∀ (pend : List (Nat × Sem Next × Value)) (a : Act) (w : World), seqS P ops st Q (R1 ++ i :: R2) pend a w → seqS P ops st Q (i :: (R1 ++ R2)) pend a w
  | [], _, _, _, _, _, h => h
  | r :: R1, R2, hR, pend, a, w, h => by
    obtain ⟨o, ho, q1, hap, q2⟩ := hR r (by simp)
    have h1 : seqS P ops st Q (r :: i :: (R1 ++ R2)) pend a w := seqS_cons_mono (fun pend a w => seqS_pull hi R1 R2 (fun x hx => hR x (by simp [hx])) pend a w) h
    exact seqS_swap ho hi q1 hap q2 h1

theorem pairsOk.out {f : Nat → Nat → Bool} : ∀ {R : List Nat}, pairsOk f R = true → R.Pairwise (fun i j => f i j = true)
  | [], _ => List.Pairwise.nil
  | i :: t, h => by
    simp only [pairsOk, Bool.and_eq_true] at h
    exact List.pairwise_cons.2 ⟨fun j hj => List.all_eq_true.1 h.1 j hj, pairsOk.out h.2⟩
theorem okPair.two (h : okPair ops st i j = true) {oi oj : Oper} (hi : ops[i]? = some oi) (hj : ops[j]? = some oj)
    (hno : dep ops ops.size i j = false) : quietOp oi.op = true ∧ oi.apart ops oj = true ∧ (quietOp oj.op = true ∨ (noisyOp oj.op = true ∧ i ∈ st j)) := by
  simp only [okPair, hi, hj, hno, Bool.false_or, Bool.and_eq_true, Bool.or_eq_true, List.contains_iff_mem] at h
  exact ⟨h.2.1.1, h.2.1.2, h.2.2⟩
theorem okPair.not (h : okPair ops st i j = true) {oi : Oper} (hi : ops[i]? = some oi) {e : Edge} (he : e ∈ oi.after) (hb : Region.binds .any e = true) : e.on ≠ j := by
  unfold okPair at h
  rw [hi] at h
  cases hj : ops[j]? with
  | none => rw [hj] at h; cases h
  | some oj =>
    rw [hj] at h
    simp only [Bool.and_eq_true] at h
    have h2 := h.1
    rw [Array.all_eq_true] at h2
    obtain ⟨k, hk, rfl⟩ := Array.getElem_of_mem he
    have h3 := h2 k hk
    simpa [hb] using h3

/-- Whatever is carried out, that for which it waits was carried out. -/
def downward (ops : Array Oper) (listed : Array Bool) : Prop := ∀ j oj, ops[j]? = some oj → listed.getD j true = true → ∀ e ∈ oj.after, Region.binds .any e = true → listed.getD e.on true = true
theorem dep_listed {listed : Array Bool} (hd : downward ops listed) : ∀ (fuel i j : Nat) (oj : Oper), ops[j]? = some oj → (∀ e ∈ oj.after, Region.binds .any e = true → listed.getD e.on true = true) → dep ops fuel i j = true → listed.getD i true = true
  | 0, i, j, oj, hj, ha, h => by simp [dep] at h
  | fuel + 1, i, j, oj, hj, ha, h => by
    simp only [dep, hj] at h
    rw [Array.any_eq_true] at h
    obtain ⟨k, hk, h⟩ := h
    simp only [Bool.and_eq_true, Bool.or_eq_true, beq_iff_eq] at h
    obtain ⟨hb, h⟩ := h
    have hm : oj.after[k] ∈ oj.after := Array.getElem_mem hk
    rcases h with h | h
    · rw [← h]; exact ha _ hm hb
    · cases hq : ops[(oj.after[k]).on]? with
      | none =>
        cases fuel with
        | zero => simp [dep] at h
        | succ f => simp [dep, hq] at h
      | some o2 => exact dep_listed hd fuel i _ o2 hq (hd _ _ hq (ha _ hm hb)) h

theorem seqS_any {F : Fence} {n : Nat} {Q' : Exit → Act → World → Prop} (hF : ∀ f, F.fn f) (hD : F.depth = none) (hC : ∀ f args w R, Calls P f args w R → CallsIn F (n - 1) P f args w R) (hQ : ∀ a w, Q a w → Q' .normal a w) (hO : ∀ j oj, ops[j]? = some oj → ∀ e ∈ oj.after, Region.binds .any e = true → e.on < ops.size ∧ e.on ≠ j) :
    ∀ (fuel : Nat) (R : List Nat) (listed : Array Bool) (pend : List (Nat × Sem Next × Value)) (a : Act) (w : World), R.length ≤ fuel → R.Pairwise (fun i j => i ≠ j ∧ okPair ops st i j = true) →
    (∀ i, i ∈ R ↔ listed.getD i true = false) → listed.size = ops.size → downward ops listed → seqS P ops st Q R pend a w → wpAnyIn F n P .any ops Q' fuel listed a w := by
  have hready : ∀ (r : Nat) (R : List Nat) (listed : Array Bool), (r :: R).Pairwise (fun i j => i ≠ j ∧ okPair ops st i j = true) → (∀ i, i ∈ r :: R ↔ listed.getD i true = false) → listed.size = ops.size → r ∈ Region.ready .any ops listed := by
    intro r R listed hp hl hs
    have hr := (hl r).1 (by simp)
    have hlt : r < ops.size := by
      rcases Nat.lt_or_ge r listed.size with h | h
      · omega
      · simp [Array.getD_eq_getD_getElem?, Array.getElem?_eq_none h] at hr
    refine mem_ready.2 ⟨hr, ops[r], by simp [hlt], fun e he hb => ?_⟩
    have h1 := hO r _ (by simp [hlt] : ops[r]? = some ops[r]) e he hb
    have h2 : e.on ∉ r :: R := by
      intro h
      rcases List.mem_cons.1 h with h | h
      · exact h1.2 h
      · have := ((List.pairwise_cons.1 hp).1 _ h).2
        exact okPair.not this (by simp [hlt] : ops[r]? = some ops[r]) he hb rfl
    have h3 := mt (hl e.on).2 h2
    have h4 : e.on < listed.size := by omega
    simp [h4] at h3 ⊢
    exact h3
  have hnil : ∀ (R : List Nat) (listed : Array Bool), R.Pairwise (fun i j => i ≠ j ∧ okPair ops st i j = true) → (∀ i, i ∈ R ↔ listed.getD i true = false) → listed.size = ops.size → Region.ready .any ops listed = [] → R = [] := by
    intro R listed hp hl hs h
    cases R with
    | nil => rfl
    | cons r R => have := hready r R listed hp hl hs; rw [h] at this; cases this
  intro fuel
  induction fuel with
  | zero =>
    intro R listed pend a w hf hp hl hs hdw h
    have hR : R = [] := List.eq_nil_of_length_eq_zero (by omega)
    subst hR
    refine ⟨?_, hQ _ _ h⟩
    cases hrd : Region.ready .any ops listed with
    | nil => rfl
    | cons r rs =>
      have h1 : r ∈ Region.ready .any ops listed := by rw [hrd]; simp
      exact absurd ((hl r).2 (mem_ready.1 h1).1) (by simp)
  | succ fuel ih =>
    intro R listed pend a w hf hp hl hs hdw h
    refine ⟨fun h0 => by have := hnil R listed hp hl hs h0; subst this; exact hQ _ _ h, fun i hi => ?_⟩
    obtain ⟨hun, oi, hoi, hall⟩ := mem_ready.1 hi
    have hiR := (hl i).2 hun
    have hlb : ∀ x : Nat, listed.getD x false = true → listed.getD x true = true := by
      intro x hx
      rcases Nat.lt_or_ge x listed.size with h | h
      · simp [Array.getD_eq_getD_getElem?, h] at hx ⊢; exact hx
      · simp [Array.getD_eq_getD_getElem?, h]
    have hall' : ∀ e ∈ oi.after, Region.binds .any e = true → listed.getD e.on true = true := fun e he hb => hlb _ (hall e he hb)
    obtain ⟨R1, R2, rfl⟩ := List.append_of_mem hiR
    have hlt1 : ∀ r ∈ R1, r ≠ i ∧ okPair ops st r i = true := fun r hr => (List.pairwise_append.1 hp).2.2 r hr i (by simp)
    have h1 := seqS_pull hoi R1 R2 (fun r hr => by
      have hr0 := (hl r).1 (by simp [hr])
      have hrs : r < ops.size := by
        rcases Nat.lt_or_ge r listed.size with h | h
        · omega
        · simp [Array.getD_eq_getD_getElem?, Array.getElem?_eq_none h] at hr0
      have hd0 : dep ops ops.size r i = false := by
        cases hq : dep ops ops.size r i with
        | false => rfl
        | true =>
          have := dep_listed hdw ops.size r i oi hoi hall' hq
          rw [this] at hr0; cases hr0
      obtain ⟨a1, a2, a3⟩ := okPair.two (hlt1 r hr).2 (by simp [hrs] : ops[r]? = some ops[r]) hoi hd0
      exact ⟨ops[r], by simp [hrs], a1, a2, a3⟩) pend a w h
    have hsub : (R1 ++ R2).Sublist (R1 ++ i :: R2) := (List.Sublist.refl R1).append (List.sublist_cons_self i R2)
    have hni : i ∉ R1 ++ R2 := by
      intro hm
      rcases List.mem_append.1 hm with hm | hm
      · exact (hlt1 i hm).1 rfl
      · exact ((List.pairwise_cons.1 (List.pairwise_append.1 hp).2.1).1 i hm).1 rfl
    have hl' : ∀ k, k ∈ R1 ++ R2 ↔ (listed.setIfInBounds i true).getD k true = false := by
      intro k
      by_cases hki : i = k
      · subst hki
        constructor
        · intro h; exact absurd h hni
        · intro h
          have hil : i < listed.size := by have := (Array.getElem?_eq_some_iff.1 hoi).1; omega
          simp [hil] at h
      · rw [getD_set_ne true hki, ← hl k]
        simp only [List.mem_append, List.mem_cons]
        constructor
        · rintro (h | h)
          · exact .inl h
          · exact .inr (.inr h)
        · rintro (h | h | h)
          · exact .inl h
          · exact absurd h.symm hki
          · exact .inr h
    have hdw' : downward ops (listed.setIfInBounds i true) := by
      intro j oj hj hlj e he hb
      have hmono : ∀ x : Nat, listed.getD x true = true → (listed.setIfInBounds i true).getD x true = true := by
        intro x hx
        by_cases hki : i = x
        · subst hki
          have hil : i < listed.size := by have := (Array.getElem?_eq_some_iff.1 hoi).1; omega
          simp [hil]
        · rw [getD_set_ne true hki]; exact hx
      by_cases hji : i = j
      · subst hji
        rw [hoi] at hj
        cases hj
        exact hmono _ (hall' e he hb)
      · rw [getD_set_ne true hji] at hlj
        exact hmono _ (hdw j oj hj hlj e he hb)
    have hrec : ∀ pend a w, seqS P ops st Q (R1 ++ R2) pend a w → wpAnyIn F n P .any ops Q' fuel (listed.setIfInBounds i true) a w := fun pend a w hh =>
      ih (R1 ++ R2) _ pend a w (by simp at hf ⊢; omega) (hp.sublist hsub) hl' (by simp [hs]) hdw' hh
    unfold wpOpIn
    simp only [seqS, hoi] at h1 ⊢
    split
    · rename_i c
      rw [if_pos c] at h1
      split at h1
      · rename_i q
        obtain ⟨v, hv, h1⟩ := h1
        refine ⟨fun f _ => hF f, ?_⟩
        rw [Oper.semAt_eq _ _ _ (quietOp.defer q), hv]
        exact hrec _ _ _ h1
      · obtain ⟨hn, h1⟩ := h1
        refine ⟨fun f _ => hF f, ?_⟩
        rw [Oper.semAt_eq _ _ _ (noisyOp.defer hn)]
        unfold noisy at h1
        split at h1
        · rename_i v w' hr
          rw [hr]
          exact hrec _ _ _ h1.2
        · rename_i w' hr
          rw [hr]
          exact hrec _ _ _ h1.2
        · rename_i f args w' hr
          rw [hr]
          refine ⟨fun hd => (by rw [hD] at hd; cases hd), (hC _ _ _ _ h1).mono ?_⟩
          rintro e w'' ⟨v, rfl, hh⟩
          exact hrec _ _ _ hh.2
        · exact h1.elim
    · rename_i c
      rw [if_neg c] at h1
      exact ⟨fun f _ => hF f, hrec _ _ _ h1⟩

theorem seqS_ops {F : Fence} {n : Nat} {Q' : Exit → Act → World → Prop} (hF : ∀ f, F.fn f) (hD : F.depth = none) (hC : ∀ f args w R, Calls P f args w R → CallsIn F (n - 1) P f args w R) (hQ : ∀ a w, Q a w → Q' .normal a w) :
    ∀ (R : List Nat) (pend : List (Nat × Sem Next × Value)) (a : Act) (w : World), seqS P ops st Q R pend a w → wpOpsIn F n P ops Q' R a w
  | [], _, _, _, h => hQ _ _ h
  | i :: R, pend, a, w, h => by
    simp only [seqS, wpOpsIn] at h ⊢
    cases ho : ops[i]? with
    | none => simp only [ho] at h ⊢; exact seqS_ops hF hD hC hQ R _ _ _ h
    | some o =>
      simp only [ho] at h ⊢
      split
      · rename_i c
        rw [if_pos c] at h
        split at h
        · rename_i q
          obtain ⟨v, hv, h1⟩ := h
          refine ⟨fun f _ => hF f, ?_⟩
          rw [Oper.semAt_eq _ _ _ (quietOp.defer q), hv]
          exact seqS_ops hF hD hC hQ R _ _ _ h1
        · obtain ⟨hn, h1⟩ := h
          refine ⟨fun f _ => hF f, ?_⟩
          rw [Oper.semAt_eq _ _ _ (noisyOp.defer hn)]
          unfold noisy at h1
          split at h1
          · rename_i v w' hr
            rw [hr]
            exact seqS_ops hF hD hC hQ R _ _ _ h1.2
          · rename_i w' hr
            rw [hr]
            exact seqS_ops hF hD hC hQ R _ _ _ h1.2
          · rename_i f args w' hr
            rw [hr]
            refine ⟨fun hd => (by rw [hD] at hd; cases hd), (hC _ _ _ _ h1).mono ?_⟩
            rintro e w'' ⟨v, rfl, hh⟩
            exact seqS_ops hF hD hC hQ R _ _ _ hh.2
          · exact h1.elim
      · rename_i c
        rw [if_neg c] at h
        exact ⟨fun f _ => hF f, seqS_ops hF hD hC hQ R _ _ _ h⟩
end
end Go.Proofs.Ytnhmeckhlajeaaa
