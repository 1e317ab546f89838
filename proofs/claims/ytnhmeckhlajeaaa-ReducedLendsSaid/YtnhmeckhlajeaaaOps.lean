/- The walk over an environment, a step a lemma: the items, the regions, the operations. No program in sight. -/
import Derived.Test.YtnhmeckhlajeaaaW
import Derived.Test.YtnhmeckhlajeaaaMem
namespace Go.Proofs.Ytnhmeckhlajeaaa
open Go Go.RowKit
set_option linter.unusedVariables false
set_option linter.unusedSimpArgs false

/-! ### Items -/
def WT (F : Fence) (n : Nat) (P : Program) (N : Nat) (todo : List Item) (Q : Exit → Act → World → Prop) (E : Env) (ds : List Deferred) (w : World) : Prop :=
  ∀ a, Rep N E ds a → WTa F n P todo Q a w

/-- A fence that lets everything through. -/
structure Wd (F : Fence) : Prop where
  fn : ∀ f, F.fn f
  depth : F.depth = none
  calls : ∀ n P f args w R, Calls P f args w R → CallsIn F n P f args w R
theorem wd_wide : Wd Fence.wide := ⟨fun _ => trivial, rfl, fun _ _ _ _ _ _ h => callsIn_wide.2 h⟩
theorem wd_round (l : Nat) : Wd (Fence.wide.inRound l) := ⟨fun _ => trivial, rfl, fun _ _ _ _ _ _ h => CallsIn.inRound l (callsIn_wide.2 h)⟩

section
variable {F : Fence} {n : Nat} {P : Program} {N : Nat} {Q : Exit → Act → World → Prop} {E : Env} {ds : List Deferred} {w : World} {t : List Item}
theorem wt_skip (h : WT F n P N t Q E ds w) : WT F n P N (.code .skip :: t) Q E ds w := fun a r => WTa.skip (h a r)
theorem wt_seq {x y : Code} (h : WT F n P N (.code x :: .code y :: t) Q E ds w) : WT F n P N (.code (.seq x y) :: t) Q E ds w := fun a r => WTa.seq (h a r)
theorem wt_block {id : Nat} {c : Code} (h : WT F n P N (.code c :: .inBlock id :: t) Q E ds w) : WT F n P N (.code (.block id c) :: t) Q E ds w := fun a r => WTa.block (h a r)
theorem wt_inBlock {id : Nat} (h : WT F n P N t Q E ds w) : WT F n P N (.inBlock id :: t) Q E ds w := fun a r => WTa.inBlock (h a r)
theorem wt_exit {id : Nat} {k' : List Item} (he : exitTo id t = some k') (h : WT F n P N k' Q E ds w) : WT F n P N (.code (.exit id) :: t) Q E ds w := fun a r => WTa.exit he (h a r)
theorem wt_cond {c : Operand} {x y : Code} {b : Bool} (hc : evE E c = .bool b) (h : WT F n P N (.code (if b then x else y) :: t) Q E ds w) : WT F n P N (.code (.cond c x y) :: t) Q E ds w :=
  fun a r => WTa.cond (by rw [r.eval]; exact hc) (h a r)
theorem wt_cond_t {c : Operand} {x y : Code} (hc : evE E c = .bool true) (h : WT F n P N (.code x :: t) Q E ds w) : WT F n P N (.code (.cond c x y) :: t) Q E ds w := wt_cond hc h
theorem wt_cond_f {c : Operand} {x y : Code} (hc : evE E c = .bool false) (h : WT F n P N (.code y :: t) Q E ds w) : WT F n P N (.code (.cond c x y) :: t) Q E ds w := wt_cond hc h
theorem wt_nil (h : ∀ a, Rep N E ds a → Q .normal a w) : WT F n P N [] Q E ds w := fun a r => WTa.nil (h a r)
theorem wt_ret (h : ∀ a, Rep N E ds a → Q .ret a w) : WT F n P N (.code .ret :: t) Q E ds w := fun a r => WTa.ret (h a r)
theorem wt_leave {id : Nat} (he : exitTo id t = none) (h : ∀ a, Rep N E ds a → Q (.exit id) a w) : WT F n P N (.code (.exit id) :: t) Q E ds w := fun a r => WTa.leave he (h a r)

/-- A loop: the invariant speaks of the environment; the measure is a number that the invariant names. -/
theorem wt_loop {c : Code} (I : Nat → Env → List Deferred → World → Prop) (m : Nat) (h₀ : I m E ds w)
    (round : ∀ m E ds w, I m E ds w → (∀ m' E' ds' w', I m' E' ds' w' → m' < m → WT F n P N (.inLoop c :: t) Q E' ds' w') → WT F n P N (.code c :: .inLoop c :: t) Q E ds w) : WT F n P N (.code (.loop c) :: t) Q E ds w := by
  intro a r
  have key : ∀ j m E ds w, m = j → I m E ds w → ∀ a, Rep N E ds a → WTa F n P (.code c :: .inLoop c :: t) Q a w := by
    intro j
    induction j using Nat.strongRecOn with
    | _ j ih =>
      intro m E ds w hj hI a r
      refine round m E ds w hI (fun m' E' ds' w' hI' hlt a' r' => ?_) a r
      intro b k cs hro hb hr
      obtain ⟨e, a2, w2, hq, harr⟩ := ih m' (hj ▸ hlt) m' E' ds' w' rfl hI' a' r' b k cs hro hb hr
      exact ⟨e, a2, w2, hq, .of_steps (.one (fenced_calm hb hr rfl) stepR_inLoop) harr⟩
  intro b k cs hro hb hr
  obtain ⟨e, a2, w2, hq, harr⟩ := key _ m E ds w rfl h₀ a r b k cs hro hb hr
  exact ⟨e, a2, w2, hq, .of_steps (.one (fenced_calm hb hr rfl) stepR_loop) harr⟩

/-! ### Regions -/
def RJ (P : Program) (N : Nat) (ops : Array Oper) (st : Nat → List Nat) (Qa : Act → World → Prop) (R : List Nat) (pend : List (Nat × Sem Next × Value)) (E : Env) (ds : List Deferred) (w : World) : Prop :=
  ∀ a, Rep N E ds a → seqS P ops st Qa R pend a w
/-- No read need come behind another operation. -/
def st0 : Nat → List Nat := fun _ => []

theorem wt_region {id : Nat} {ops : Array Oper} {R : List Nat} (hw : Wd F) (hR : List.range ops.size = R) (h : RJ P N ops st0 (WTa F n P t Q) R [] E ds w) : WT F n P N (.code (.region id ops false) :: t) Q E ds w := by
  intro a r
  refine WTa.of (wpIn_region ?_)
  rw [hR]
  exact seqS_ops hw.fn hw.depth (fun f args w R h => hw.calls _ _ _ _ _ _ h) (fun a w h => ⟨rfl, h⟩) R [] a w (h a r)
theorem wt_draw {id : Nat} {ops : Array Oper} (R : List Nat) (st : Nat → List Nat) (hw : Wd F) (hm : P.follows .mixedOrders = true) (hO : orderlyS ops st R = true) (h : RJ P N ops st (WTa F n P t Q) R [] E ds w.drew) :
    WT F n P N (.code (.region id ops true) :: t) Q E ds w := by
  intro a r
  simp only [orderlyS, Bool.and_eq_true, decide_eq_true_eq] at hO
  obtain ⟨⟨⟨h1, h2⟩, h3⟩, h4⟩ := hO
  have h5 : ∀ i, i < ops.size → i ∈ R := fun i hi => by simpa using List.all_eq_true.1 h2 i (List.mem_range.2 hi)
  have h6 : ∀ i, i ∈ R → i < ops.size := fun i hi => by
    have := List.all_eq_true.1 h1 i hi
    rcases Nat.lt_or_ge i ops.size with h | h
    · exact h
    · rw [Array.getElem?_eq_none h] at this; cases this
  refine WTa.of (wpIn_region_any hm ?_)
  refine seqS_any hw.fn hw.depth (fun f args w R h => hw.calls _ _ _ _ _ _ h) (fun a w h => ⟨rfl, h⟩) (fun j oj hj e he hb => ?_) ops.size R _ [] a _ h3 ((pairsOk.out h4).imp (fun h => by simpa using h)) (fun i => ?_) (by simp) (fun j oj hj hl => ?_) (h a r)
  · have := List.all_eq_true.1 h1 j (h5 j (Array.getElem?_eq_some_iff.1 hj).1)
    rw [hj] at this
    simp only at this
    rw [Array.all_eq_true] at this
    obtain ⟨k, hk, rfl⟩ := Array.getElem_of_mem he
    have h3 := this k hk
    simpa [hb] using h3
  · constructor
    · intro hi; simp [h6 i hi]
    · intro hi
      apply h5
      rcases Nat.lt_or_ge i ops.size with h | h
      · exact h
      · simp [Array.getD_eq_getD_getElem?, h] at hi
  · exfalso
    have := (Array.getElem?_eq_some_iff.1 hj).1
    simp [Array.getD_eq_getD_getElem?, this] at hl
end

def dstLt (N : Nat) (d : Option Nat) : Bool := match d with | some k => Nat.blt k N | none => true
theorem dstLt_out {N : Nat} {d : Option Nat} (h : dstLt N d = true) : ∀ k, d = some k → k < N := by
  intro k e
  subst e
  simpa [dstLt] using h

section
variable {P : Program} {N : Nat} {ops : Array Oper} {st : Nat → List Nat} {Qa : Act → World → Prop} {R : List Nat} {pend : List (Nat × Sem Next × Value)} {E : Env} {ds : List Deferred} {w : World} {i : Nat} {o : Oper}
theorem rj_end {F : Fence} {n : Nat} {t : List Item} {Q : Exit → Act → World → Prop} (h : WT F n P N t Q E ds w) : RJ P N ops st (WTa F n P t Q) [] pend E ds w := fun a r => h a r
/-- A quiet operation. -/
theorem rj_q {v : Value} (ho : ops[i]? = some o) (hw : Region.wanted o (yE ops E) = true) (hq : quietOp o.op = true) (hd : dstLt N o.dst = true)
    (hv : (execOp (evE E) o).run P w = .ok (.value v) w) (h : RJ P N ops st Qa R ((i, execOp (evE E) o, v) :: pend) (updO E o.dst v) ds w) : RJ P N ops st Qa (i :: R) pend E ds w := by
  intro a r
  simp only [seqS, ho, r.yielded, hw, hq, if_true, r.eval]
  exact ⟨v, hv, h _ (r.put (dstLt_out hd) v)⟩
/-- An operation that is passed over. -/
theorem rj_p (ho : ops[i]? = some o) (hw : Region.wanted o (yE ops E) = false) (hd : dstLt N o.dst = true)
    (h : RJ P N ops st Qa R pend (updO E o.dst undef) ds w) : RJ P N ops st Qa (i :: R) pend E ds w := by
  intro a r
  simp only [seqS, ho, r.yielded, hw, if_false, Bool.false_eq_true]
  exact h _ (r.put (dstLt_out hd) undef)
/-- What was read holds behind an operation too. -/
def Stb (P : Program) (L : List Nat) (w : World) : List (Nat × Sem Next × Value) → Prop
  | [] => True
  | (i, s, v) :: t => (L.contains i = true → s.run P w = .ok (.value v) w) ∧ Stb P L w t
theorem Stb.all {P : Program} {L : List Nat} {w : World} : ∀ {l : List (Nat × Sem Next × Value)}, Stb P L w l → ∀ p ∈ l, p.1 ∈ L → p.2.1.run P w = .ok (.value p.2.2) w
  | (_, _, _) :: _, h, p, hp, hL => by
    rcases List.mem_cons.1 hp with rfl | hp
    · exact h.1 (List.contains_iff_mem.2 hL)
    · exact Stb.all h.2 p hp hL
theorem Stb.none {P : Program} {w : World} : ∀ (l : List (Nat × Sem Next × Value)), Stb P [] w l
  | [] => trivial
  | (_, _, _) :: t => ⟨fun h => Bool.noConfusion (show false = true from h), Stb.none t⟩
/-- Any other operation. -/
theorem rj_n (ho : ops[i]? = some o) (hw : Region.wanted o (yE ops E) = true) (hq : quietOp o.op = false) (hn : noisyOp o.op = true) (hd : dstLt N o.dst = true)
    (h : noisy P o (evE E) w fun v w' => Stb P (st i) w' pend ∧ RJ P N ops st Qa R pend (updO E o.dst v) ds w') : RJ P N ops st Qa (i :: R) pend E ds w := by
  intro a r
  simp only [seqS, ho, r.yielded, hw, hq, if_true, if_false, Bool.false_eq_true, r.eval]
  refine ⟨hn, h.mono fun v w' h => ⟨h.1.all, h.2 _ (r.put (dstLt_out hd) v)⟩⟩
end

/-- The operations from number i on are l. -/
def RL (P : Program) (N : Nat) (ops : Array Oper) (st : Nat → List Nat) (Qa : Act → World → Prop) (i : Nat) (l : List Oper) (pend : List (Nat × Sem Next × Value)) (E : Env) (ds : List Deferred) (w : World) : Prop :=
  ops.toList.drop i = l → RJ P N ops st Qa (List.range' i l.length) pend E ds w
theorem drop_cons {ops : Array Oper} {i : Nat} {o : Oper} {l : List Oper} (h : ops.toList.drop i = o :: l) : ops[i]? = some o ∧ ops.toList.drop (i + 1) = l := by
  have h1 : ops.toList[i]? = some o := by
    have := congrArg List.head? h
    rw [List.head?_drop] at this
    simpa using this
  refine ⟨by rw [← Array.getElem?_toList]; exact h1, ?_⟩
  have := congrArg List.tail h
  rw [List.tail_drop] at this
  simpa using this
section
variable {P : Program} {N : Nat} {ops : Array Oper} {st : Nat → List Nat} {Qa : Act → World → Prop} {l : List Oper} {pend : List (Nat × Sem Next × Value)} {E : Env} {ds : List Deferred} {w : World} {i : Nat}
theorem wl_region {F : Fence} {n : Nat} {t : List Item} {Q : Exit → Act → World → Prop} {id : Nat} (hw : Wd F) (h : RL P N ops st0 (WTa F n P t Q) 0 ops.toList [] E ds w) : WT F n P N (.code (.region id ops false) :: t) Q E ds w :=
  wt_region hw (R := List.range' 0 ops.toList.length) (by rw [List.range_eq_range', Array.length_toList]) (h rfl)
theorem rl_end {F : Fence} {n : Nat} {t : List Item} {Q : Exit → Act → World → Prop} (h : WT F n P N t Q E ds w) : RL P N ops st (WTa F n P t Q) i [] pend E ds w := fun _ => rj_end h
variable {d : Nat} {dd : Option Nat} {op : Op} {ty : TypeId} {ps : String} {af : Array Edge} {g : Option (Nat × Bool)}
theorem rl_q {v : Value} (hw : Region.wanted ⟨some d, op, ty, ps, af, g⟩ (yE ops E) = true) (hq : quietOp op = true) (hd : Nat.blt d N = true)
    (hv : (execOp (evE E) ⟨some d, op, ty, ps, af, g⟩).run P w = .ok (.value v) w) (h : RL P N ops st Qa (i + 1) l ((i, execOp (evE E) ⟨some d, op, ty, ps, af, g⟩, v) :: pend) (upd E d v) ds w) : RL P N ops st Qa i (⟨some d, op, ty, ps, af, g⟩ :: l) pend E ds w := by
  intro hl
  obtain ⟨h1, h2⟩ := drop_cons hl
  exact rj_q h1 hw hq hd hv (h h2)
theorem rl_p (hw : Region.wanted ⟨some d, op, ty, ps, af, g⟩ (yE ops E) = false) (hd : Nat.blt d N = true) (h : RL P N ops st Qa (i + 1) l pend (upd E d undef) ds w) : RL P N ops st Qa i (⟨some d, op, ty, ps, af, g⟩ :: l) pend E ds w := by
  intro hl
  obtain ⟨h1, h2⟩ := drop_cons hl
  exact rj_p h1 hw hd (h h2)
theorem rl_p0 (hw : Region.wanted ⟨none, op, ty, ps, af, g⟩ (yE ops E) = false) (h : RL P N ops st Qa (i + 1) l pend E ds w) : RL P N ops st Qa i (⟨none, op, ty, ps, af, g⟩ :: l) pend E ds w := by
  intro hl
  obtain ⟨h1, h2⟩ := drop_cons hl
  exact rj_p h1 hw rfl (h h2)
theorem rl_n (hw : Region.wanted ⟨some d, op, ty, ps, af, g⟩ (yE ops E) = true) (hq : quietOp op = false) (hn : noisyOp op = true) (hd : Nat.blt d N = true)
    (h : noisy P ⟨some d, op, ty, ps, af, g⟩ (evE E) w fun v w' => Stb P (st i) w' pend ∧ RL P N ops st Qa (i + 1) l pend (upd E d v) ds w') : RL P N ops st Qa i (⟨some d, op, ty, ps, af, g⟩ :: l) pend E ds w := by
  intro hl
  obtain ⟨h1, h2⟩ := drop_cons hl
  exact rj_n h1 hw hq hn hd (h.mono fun v w' h => ⟨h.1, h.2 h2⟩)
theorem rl_n0 (hw : Region.wanted ⟨none, op, ty, ps, af, g⟩ (yE ops E) = true) (hq : quietOp op = false) (hn : noisyOp op = true)
    (h : noisy P ⟨none, op, ty, ps, af, g⟩ (evE E) w fun v w' => Stb P (st i) w' pend ∧ RL P N ops st Qa (i + 1) l pend E ds w') : RL P N ops st Qa i (⟨none, op, ty, ps, af, g⟩ :: l) pend E ds w := by
  intro hl
  obtain ⟨h1, h2⟩ := drop_cons hl
  exact rj_n h1 hw hq hn rfl (h.mono fun v w' h => ⟨h.1, h.2 h2⟩)
end

/-- The operations with the numbers R are l. -/
def RP (P : Program) (N : Nat) (ops : Array Oper) (st : Nat → List Nat) (Qa : Act → World → Prop) (R : List Nat) (l : List Oper) (pend : List (Nat × Sem Next × Value)) (E : Env) (ds : List Deferred) (w : World) : Prop :=
  R.map (fun i => ops[i]?) = l.map some → RJ P N ops st Qa R pend E ds w
section
variable {P : Program} {N : Nat} {ops : Array Oper} {st : Nat → List Nat} {Qa : Act → World → Prop} {l : List Oper} {pend : List (Nat × Sem Next × Value)} {E : Env} {ds : List Deferred} {w : World} {i : Nat} {R : List Nat}
theorem wp_draw {F : Fence} {n : Nat} {t : List Item} {Q : Exit → Act → World → Prop} {id : Nat} (R : List Nat) (st : Nat → List Nat) (hw : Wd F) (hm : P.follows .mixedOrders = true) (hO : orderlyS ops st R = true)
    (h : RP P N ops st (WTa F n P t Q) R (R.map fun i => ops.getD i default) [] E ds w.drew) : WT F n P N (.code (.region id ops true) :: t) Q E ds w :=
  wt_draw R st hw hm hO (h (by
    simp only [orderlyS, Bool.and_eq_true, decide_eq_true_eq] at hO
    rw [List.map_map]
    refine List.map_congr_left fun i hi => ?_
    have := List.all_eq_true.1 hO.1.1.1 i hi
    cases hq : ops[i]? with
    | none => rw [hq] at this; cases this
    | some o => simp [Array.getD_eq_getD_getElem?, hq]))
theorem rp_end {F : Fence} {n : Nat} {t : List Item} {Q : Exit → Act → World → Prop} (h : WT F n P N t Q E ds w) : RP P N ops st (WTa F n P t Q) [] [] pend E ds w := fun _ => rj_end h
variable {d : Nat} {op : Op} {ty : TypeId} {ps : String} {af : Array Edge} {g : Option (Nat × Bool)}
theorem rp_q {v : Value} (hw : Region.wanted ⟨some d, op, ty, ps, af, g⟩ (yE ops E) = true) (hq : quietOp op = true) (hd : Nat.blt d N = true)
    (hv : (execOp (evE E) ⟨some d, op, ty, ps, af, g⟩).run P w = .ok (.value v) w) (h : RP P N ops st Qa R l ((i, execOp (evE E) ⟨some d, op, ty, ps, af, g⟩, v) :: pend) (upd E d v) ds w) : RP P N ops st Qa (i :: R) (⟨some d, op, ty, ps, af, g⟩ :: l) pend E ds w := by
  intro hl
  simp only [List.map_cons, List.cons.injEq] at hl
  exact rj_q hl.1 hw hq hd hv (h hl.2)
theorem rp_p (hw : Region.wanted ⟨some d, op, ty, ps, af, g⟩ (yE ops E) = false) (hd : Nat.blt d N = true) (h : RP P N ops st Qa R l pend (upd E d undef) ds w) : RP P N ops st Qa (i :: R) (⟨some d, op, ty, ps, af, g⟩ :: l) pend E ds w := by
  intro hl
  simp only [List.map_cons, List.cons.injEq] at hl
  exact rj_p hl.1 hw hd (h hl.2)
theorem rp_p0 (hw : Region.wanted ⟨none, op, ty, ps, af, g⟩ (yE ops E) = false) (h : RP P N ops st Qa R l pend E ds w) : RP P N ops st Qa (i :: R) (⟨none, op, ty, ps, af, g⟩ :: l) pend E ds w := by
  intro hl
  simp only [List.map_cons, List.cons.injEq] at hl
  exact rj_p hl.1 hw rfl (h hl.2)
theorem rp_n (hw : Region.wanted ⟨some d, op, ty, ps, af, g⟩ (yE ops E) = true) (hq : quietOp op = false) (hn : noisyOp op = true) (hd : Nat.blt d N = true)
    (h : noisy P ⟨some d, op, ty, ps, af, g⟩ (evE E) w fun v w' => Stb P (st i) w' pend ∧ RP P N ops st Qa R l pend (upd E d v) ds w') : RP P N ops st Qa (i :: R) (⟨some d, op, ty, ps, af, g⟩ :: l) pend E ds w := by
  intro hl
  simp only [List.map_cons, List.cons.injEq] at hl
  exact rj_n hl.1 hw hq hn hd (h.mono fun v w' h => ⟨h.1, h.2 hl.2⟩)
theorem rp_n0 (hw : Region.wanted ⟨none, op, ty, ps, af, g⟩ (yE ops E) = true) (hq : quietOp op = false) (hn : noisyOp op = true)
    (h : noisy P ⟨none, op, ty, ps, af, g⟩ (evE E) w fun v w' => Stb P (st i) w' pend ∧ RP P N ops st Qa R l pend E ds w') : RP P N ops st Qa (i :: R) (⟨none, op, ty, ps, af, g⟩ :: l) pend E ds w := by
  intro hl
  simp only [List.map_cons, List.cons.injEq] at hl
  exact rj_n hl.1 hw hq hn rfl (h.mono fun v w' h => ⟨h.1, h.2 hl.2⟩)
end

/-! ### Operations that yield -/
/-- A number that an int can hold. -/
def In64 (a : Int) : Prop := -9223372036854775808 ≤ a ∧ a ≤ 9223372036854775807
theorem In64.wrap {a : Int} (h : In64 a) : IntKind.i64.wrap a = a := IntWalk.i64_in _ h

section
variable {P : Program} {E : Env} {w : World} {d : Option Tmp} {x y z : Operand} {ty xt yt : TypeId} {ps : String} {af : Array Edge} {g : Option (Nat × Bool)}

theorem v_move {v : Value} (h : evE E x = v) : (execOp (evE E) ⟨d, .move x, ty, ps, af, g⟩).run P w = .ok (.value v) w := by rw [← h]; rfl
theorem v_assign {v : Value} (h : evE E x = v) : (execOp (evE E) ⟨d, .assign x, ty, ps, af, g⟩).run P w = .ok (.value v) w := by rw [← h]; rfl
theorem v_pick_t {v : Value} (hc : evE E x = .bool true) (h : evE E y = v) : (execOp (evE E) ⟨d, .pick x y z, ty, ps, af, g⟩).run P w = .ok (.value v) w := by
  simp [execOp, hc, h, go_sem]
theorem v_pick_f {v : Value} (hc : evE E x = .bool false) (h : evE E z = v) : (execOp (evE E) ⟨d, .pick x y z, ty, ps, af, g⟩).run P w = .ok (.value v) w := by
  simp [execOp, hc, h, go_sem]
theorem v_not {b : Bool} (h : evE E x = .bool b) : (execOp (evE E) ⟨d, .unOp .not xt x, ty, ps, af, g⟩).run P w = .ok (.value (.bool !b)) w := by
  simp [execOp, h, Op.unary, go_sem]
theorem v_neg {a : Int} (h : evE E x = .int .i64 a) (hi : In64 (-a)) : (execOp (evE E) ⟨d, .unOp .neg xt x, ty, ps, af, g⟩).run P w = .ok (.value (.int .i64 (-a))) w := by
  have := hi.wrap
  simp [execOp, h, Op.unary, Op.intArith, go_sem, Int.zero_sub, this]

theorem v_add {a b : Int} (hx : evE E x = .int .i64 a) (hy : evE E y = .int .i64 b) (hi : In64 (a + b)) : (execOp (evE E) ⟨d, .binOp .add xt x y yt, ty, ps, af, g⟩).run P w = .ok (.value (.int .i64 (a + b))) w := by
  simp [execOp, hx, hy, eqGuard, binOp, Op.intArith, go_sem, hi.wrap]
theorem v_sub {a b : Int} (hx : evE E x = .int .i64 a) (hy : evE E y = .int .i64 b) (hi : In64 (a - b)) : (execOp (evE E) ⟨d, .binOp .sub xt x y yt, ty, ps, af, g⟩).run P w = .ok (.value (.int .i64 (a - b))) w := by
  simp [execOp, hx, hy, eqGuard, binOp, Op.intArith, go_sem, hi.wrap]
theorem v_mul {a b : Int} (hx : evE E x = .int .i64 a) (hy : evE E y = .int .i64 b) (hi : In64 (a * b)) : (execOp (evE E) ⟨d, .binOp .mul xt x y yt, ty, ps, af, g⟩).run P w = .ok (.value (.int .i64 (a * b))) w := by
  simp [execOp, hx, hy, eqGuard, binOp, Op.intArith, go_sem, hi.wrap]
theorem v_quo {a b : Int} (hx : evE E x = .int .i64 a) (hy : evE E y = .int .i64 b) (hb : b ≠ 0) (hi : In64 (a.tdiv b)) : (execOp (evE E) ⟨d, .binOp .quo xt x y yt, ty, ps, af, g⟩).run P w = .ok (.value (.int .i64 (a.tdiv b))) w := by
  simp [execOp, hx, hy, eqGuard, binOp, Op.intDiv, go_sem, hi.wrap, hb]
theorem v_rem {a b : Int} (hx : evE E x = .int .i64 a) (hy : evE E y = .int .i64 b) (hb : b ≠ 0) : (execOp (evE E) ⟨d, .binOp .rem xt x y yt, ty, ps, af, g⟩).run P w = .ok (.value (.int .i64 (a.tmod b))) w := by
  simp [execOp, hx, hy, eqGuard, binOp, Op.intDiv, go_sem, hb]
theorem v_lss {k : IntKind} {a b : Int} (hx : evE E x = .int k a) (hy : evE E y = .int k b) : (execOp (evE E) ⟨d, .binOp .lss xt x y yt, ty, ps, af, g⟩).run P w = .ok (.value (.bool (decide (a < b)))) w := by
  simp [execOp, hx, hy, eqGuard, binOp, Op.intCmp, go_sem]
theorem v_leq {k : IntKind} {a b : Int} (hx : evE E x = .int k a) (hy : evE E y = .int k b) : (execOp (evE E) ⟨d, .binOp .leq xt x y yt, ty, ps, af, g⟩).run P w = .ok (.value (.bool (decide (a ≤ b)))) w := by
  simp [execOp, hx, hy, eqGuard, binOp, Op.intCmp, go_sem]
theorem v_gtr {k : IntKind} {a b : Int} (hx : evE E x = .int k a) (hy : evE E y = .int k b) : (execOp (evE E) ⟨d, .binOp .gtr xt x y yt, ty, ps, af, g⟩).run P w = .ok (.value (.bool (decide (b < a)))) w := by
  simp [execOp, hx, hy, eqGuard, binOp, Op.intCmp, go_sem]
theorem v_geq {k : IntKind} {a b : Int} (hx : evE E x = .int k a) (hy : evE E y = .int k b) : (execOp (evE E) ⟨d, .binOp .geq xt x y yt, ty, ps, af, g⟩).run P w = .ok (.value (.bool (decide (b ≤ a)))) w := by
  simp [execOp, hx, hy, eqGuard, binOp, Op.intCmp, go_sem]
theorem v_eql {k : IntKind} {a b : Int} (hx : evE E x = .int k a) (hy : evE E y = .int k b) : (execOp (evE E) ⟨d, .binOp .eql xt x y yt, ty, ps, af, g⟩).run P w = .ok (.value (.bool (decide (a = b)))) w := by
  simp [execOp, hx, hy, eqGuard, binOp, Op.intCmp, go_sem]
  rfl
theorem v_neq {k : IntKind} {a b : Int} (hx : evE E x = .int k a) (hy : evE E y = .int k b) : (execOp (evE E) ⟨d, .binOp .neq xt x y yt, ty, ps, af, g⟩).run P w = .ok (.value (.bool (!decide (a = b)))) w := by
  simp [execOp, hx, hy, eqGuard, binOp, Op.intCmp, go_sem]
  rfl
theorem run_equal_bool {t : TypeId} {a b : Bool} (hu : P.underlying t = some .bool) : (Op.equal t (.bool a) (.bool b)).run P w = .ok (a == b) w := by
  unfold Op.equal Op.maxDepth
  rw [show (10000 : Nat) = 9999 + 1 from rfl, Op.equalIn]
  simp only [underlying, program, Sem.run_bind, Sem.run, hu, Result.andThen, bind, Sem.bind]
  rfl
theorem v_beql {a b : Bool} (hx : evE E x = .bool a) (hy : evE E y = .bool b) (hu : P.underlying xt = some .bool) : (execOp (evE E) ⟨d, .binOp .eql xt x y yt, ty, ps, af, g⟩).run P w = .ok (.value (.bool (a == b))) w := by
  have h2 : binOp .eql xt (.bool a) (.bool b) = (do pure (.bool (← Op.equal xt (.bool a) (.bool b)))) := rfl
  have h3 : eqGuard .eql xt x y (.bool a) (.bool b) = pure () := rfl
  unfold execOp
  simp only [hx, hy, h2, h3, Sem.run_bind, Sem.run_pure, Result.andThen, run_equal_bool hu]
theorem v_bneq {a b : Bool} (hx : evE E x = .bool a) (hy : evE E y = .bool b) (hu : P.underlying xt = some .bool) : (execOp (evE E) ⟨d, .binOp .neq xt x y yt, ty, ps, af, g⟩).run P w = .ok (.value (.bool (!(a == b)))) w := by
  have h2 : binOp .neq xt (.bool a) (.bool b) = (do pure (.bool (!(← Op.equal xt (.bool a) (.bool b))))) := rfl
  have h3 : eqGuard .neq xt x y (.bool a) (.bool b) = pure () := rfl
  unfold execOp
  simp only [hx, hy, h2, h3, Sem.run_bind, Sem.run_pure, Result.andThen, run_equal_bool hu]
theorem v_shl {k : IntKind} {a b : Int} (hx : evE E x = .int .i64 a) (hy : evE E y = .int k b) (h0 : 0 ≤ b ∧ b < 64) (hi : In64 (a * 2 ^ b.toNat)) : (execOp (evE E) ⟨d, .binOp .shl xt x y yt, ty, ps, af, g⟩).run P w = .ok (.value (.int .i64 (a * 2 ^ b.toNat))) w := by
  have h1 : ¬ b < 0 := by omega
  have h2 : min b.toNat IntKind.i64.bits = b.toNat := by have : IntKind.i64.bits = 64 := rfl; omega
  simp [execOp, hx, hy, eqGuard, binOp, Op.shift, go_sem, h1, h2, hi.wrap]
theorem v_shr {k : IntKind} {a b : Int} (hx : evE E x = .int .i64 a) (hy : evE E y = .int k b) (h0 : 0 ≤ b ∧ b < 64) : (execOp (evE E) ⟨d, .binOp .shr xt x y yt, ty, ps, af, g⟩).run P w = .ok (.value (.int .i64 (a / 2 ^ b.toNat))) w := by
  have h1 : ¬ b < 0 := by omega
  have h2 : min b.toNat IntKind.i64.bits = b.toNat := by have : IntKind.i64.bits = 64 := rfl; omega
  simp [execOp, hx, hy, eqGuard, binOp, Op.shift, go_sem, h1, h2]

theorem v_len {s : Option Addr} {l c : Nat} {e : TypeId} (hx : evE E x = .slice s l c) (hu : P.underlying xt = some (.slice e)) : (execOp (evE E) ⟨d, .call ⟨.builtin .len, #[x], #[xt]⟩, ty, ps, af, g⟩).run P w = .ok (.value (.int .i64 (l : Int))) w := by
  simp [execOp, hx, resolve, invoke, builtin, Builtin.len_, go_sem, underlying, hu, goInt]
theorem v_nil {a : Addr} (hx : evE E x = .pointer (some a)) : (execOp (evE E) ⟨d, .nilCheck x, ty, ps, af, g⟩).run P w = .ok (.value (.pointer (some a))) w := by
  simp [execOp, hx, go_sem]
theorem v_extract {vs : Array Value} {v : Value} {k : Nat} (hx : evE E x = .tuple vs) (hv : vs[k]? = some v) : (execOp (evE E) ⟨d, .extract x k, ty, ps, af, g⟩).run P w = .ok (.value v) w := by
  simp [execOp, hx, Instr.extract, go_sem, hv]
theorem v_func {fn : Fn} {first captured : Array Operand} {vs us : Array Value} (h1 : first.map (evE E) = vs) (h2 : captured.map (evE E) = us) : (execOp (evE E) ⟨d, .makeFunc fn first captured, ty, ps, af, g⟩).run P w = .ok (.value (.func fn vs us)) w := by
  simp [execOp, Instr.makeFunc, go_sem, h1, h2]
end
end Go.Proofs.Ytnhmeckhlajeaaa
