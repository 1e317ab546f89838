/- Texts laid together: It, ItP, Kt, Chips, Slices, Forest, Links, Joins, Begin, Burn, Use, Sb, Sc, Rep, Bfs. -/
import Derived.Test.YtmeoemmemjipdaaProg
import Derived.ChangeAlike
import Derived.Handy
import Derived.Deep.QuietTactic
import Derived.BigQuiet
import Derived.Deep.RegionHeld3
import Derived.Laws.OwnMore
import Derived.Deep.Draws
import Derived.RangeFuncNested
import Derived.RangeFuncBound
import Derived.RangeFuncCalls
import Derived.RangeFuncLeaves
import Derived.RangeFuncFrom
import Derived.Shelf.Abstract
import Derived.Shelf.RegionOpen
import Derived.OwnWalkIn
import Derived.TacticsInMore
import Derived.LoopNIn
import Derived.LoopIn
import Derived.Deep.RegionWith
import Derived.Deep.LoopGhost
import Derived.Test.YtmeoemmemjipdaaK1
/- Iterators: what a generator and the loop over it owe each other; each side has its own blocks. No program in sight. -/
namespace Go.Proofs.Ytmeoemmemjipdaa
open Go Go.RowKit Go.Shelf Go.Proofs.Try
set_option linter.unusedVariables false
set_option linter.unusedSimpArgs false
set_option linter.unusedSectionVars false
theorem n_yield {P : Program} {E : Env} {w : World} {d : Option Tmp} {ty : TypeId} {ps : String} {af : Array Edge} {g : Option (Nat × Bool)} {K : Value → World → Prop} {l m : Nat} {args : Array Operand} {ats : Array TypeId} {vs : Array Value} {fo : Operand}
    (hf : evE E fo = .func (.yield l) #[] #[]) (ha : args.map (evE E) = vs) (h : YieldAt Fence.wide m P l vs w fun e w'' => ∃ v, e = .returned v ∧ K v w'') : ybd P ⟨d, .call ⟨.value fo, args, ats⟩, ty, ps, af, g⟩ (evE E) w K := by
  obtain ⟨fn, tmps, assign, body, hy, hR⟩ := h
  unfold ybd execOp
  simp only [resolve, hf, ha, Deferred.ofValue, Sem.run_bind, Sem.run_pure, Result.andThen, invoke, Array.empty_append, Array.append_empty, hy]
  exact ⟨trivial, fun c cs _ => hR.2 c cs (room_wide _)⟩
theorem WTa.ofx {F : Fence} {n : Nat} {P : Program} {Q : Exit → Act → World → Prop} {a : Act} {w : World} {t : List Item} {c : Code}
    (h : c.wpIn F n P (fun e a' w' => match e with
      | .normal => WTa F n P t Q a' w'
      | .ret => Q .ret a' w'
      | .exit id => (match exitTo id t with | some k' => WTa F n P k' Q a' w' | none => Q (.exit id) a' w')
      | _ => False) a w) : WTa F n P (.code c :: t) Q a w := by
  intro b k cs hro hb hr
  obtain ⟨e, a', w', hw, harr⟩ := h b (t ++ k) cs hro hb hr
  cases e with
  | normal =>
    obtain ⟨e2, a2, w2, hq, harr2⟩ := hw b k cs hro hb hr
    exact ⟨e2, a2, w2, hq, .of_steps harr harr2⟩
  | ret => exact ⟨.ret, a', w', hw, harr⟩
  | exit id =>
    cases he : exitTo id t with
    | some k' =>
      simp only [he] at hw
      obtain ⟨e2, a2, w2, hq, harr2⟩ := hw b k cs hro hb hr
      exact ⟨e2, a2, w2, hq, .of_steps (harr.1 _ (ydz k he)) harr2⟩
    | none =>
      simp only [he] at hw
      refine ⟨.exit id, a', w', hw, ?_⟩
      have h1 := harr.1
      have h2 := harr.2
      rw [ydR k he] at h1 h2
      exact ⟨h1, h2⟩
  | goto l => exact hw.elim
  | panic ch => exact hw.elim
  | outgrown => exact hw.elim
theorem Keeps.trans' {A B T S : Nat → Prop} {a b c d : World} (h : Keeps A a b) (k : Keeps B b c) (l : Keeps S c d) (h1 : ∀ k, A k → T k) (h2 : ∀ k, B k → T k) (h3 : ∀ k, S k → T k) : Keeps T a d :=
  ((h.mono fun k _ e => h1 k e).trans (k.mono fun k _ e => h2 k e)).trans (l.mono fun k _ e => h3 k e)
abbrev BS := Nat → Prop
structure RK (T : BS) (W : World) (T' : BS) (W' : World) : Prop where
  keeps : Keeps T W W'
  sub : ∀ k, T' k → T k ∨ W.heap.size ≤ k
  lt : ∀ k, T' k → k < W'.heap.size
def yfh {α : Type} (J : BS → BS → List α → World → Prop) : Prop :=
  ∀ {T G G' : BS} {pre : List α} {W W' : World}, J T G pre W → Keeps G W W' → (∀ k, G' k → G k ∨ W.heap.size ≤ k) → (∀ k, G' k → k < W'.heap.size) → J T G' pre W'
def yfg {α : Type} (J : BS → BS → List α → World → Prop) : Prop :=
  ∀ {T G : BS} {pre : List α} {W : World}, J T G pre W → (∀ k, T k → ¬ G k ∧ k < W.heap.size) ∧ ∀ k, G k → k < W.heap.size
structure Sess (P : Program) (l : Nat) {α : Type} (enc : α → Array Value) (pass : α → FP) (Pr : List α → Prop) (J Jx : BS → BS → List α → World → Prop) : Prop where
  gen : yfh J
  genx : yfh Jx
  two : yfg J
  twox : yfg Jx
  yld : ∀ {T G : BS} {pre : List α} {x : α} {W : World}, J T G pre W → Pr (pre ++ [x]) → (pass x).P (fun k => T k ∨ G k) W →
    YieldAt Fence.wide 1 P l (enc x) W fun e W' => ∃ T', RK T W T' W' ∧ ((e = .returned (.bool true) ∧ J T' G (pre ++ [x]) W') ∨ (e = .returned (.bool false) ∧ Jx T' G (pre ++ [x]) W'))
def yg7 (P : Program) (gf : FuncId) (lb : Array Value) {α : Type} (enc : α → Array Value) (pass : α → FP) (Pr R : List α → Prop) (T0 G0 : BS) (w : World) : Prop :=
  ∀ (l : Nat) (J Jx : BS → BS → List α → World → Prop) (T1 : BS) (w1 : World), Sess P l enc pass Pr J Jx → J T1 G0 [] w1 → Pure w w1 → (∀ k, T1 k → T0 k ∨ w.heap.size ≤ k) →
    CallsIn Fence.wide 2 P gf (#[.func (.yield l) #[] #[]] ++ lb) w1 fun e w' => (∃ v, e = .returned v) ∧ ((∃ xs T G, R xs ∧ J T G xs w') ∨ ∃ pre T G, Jx T G pre w')
structure RL1 (l : Nat) (busy : Obj) (T : BS) (W : World) (T' : BS) (W' : World) : Prop where
  keeps : Keeps (fun k => T k ∨ k = l) W W'
  sub : ∀ k, T' k → T k ∨ W.heap.size ≤ k
  lt : ∀ k, T' k → k < W'.heap.size
  at_ : W'.heap[l]? = some busy
def rndPost (l : Nat) (busy : Obj) {α : Type} (I : BS → BS → List α → World → Prop) (Ix : Option Nat → BS → BS → List α → World → Prop) (T G : BS) (xs : List α) (W : World) : Exit → Act → World → Prop
  | .normal, _, W' => ∃ T', RL1 l busy T W T' W' ∧ I T' G xs W'
  | .ret, _, W' => ∃ T', RL1 l busy T W T' W' ∧ Ix none T' G xs W'
  | .exit id, _, W' => ∃ T', RL1 l busy T W T' W' ∧ Ix (some id) T' G xs W'
  | _, _, _ => False
def jumpOf : Option Nat → Code
  | none => .ret
  | some id => .exit id
theorem yc8 (W : World) (l : Nat) (o : Obj) : (W.putObj l o).heap.size = W.heap.size := by simp
theorem ydg (W : World) (l : Nat) (o : Obj) : Keeps (fun k => k = l) W (W.putObj l o) :=
  ⟨rfl, rfl, rfl, by simp, fun k hk hn => World.putObj_heap_other hn⟩
def JumpTo (P : Program) (N : Nat) (t : List Item) (Q : Exit → Act → World → Prop) (E : Env) (ds : List Deferred) (w : World) : Option Nat → Prop
  | none => ∀ a, Rep N E ds a → Q .ret a w
  | some id => match exitTo id t with
    | some k' => WT Fence.wide 3 P N k' Q E ds w
    | none => ∀ a, Rep N E ds a → Q (.exit id) a w
theorem wpIn_iter {P : Program} {N : Nat} {Q : Exit → Act → World → Prop} {E : Env} {ds : List Deferred} {w : World} {t : List Item} {fo : Operand} {ps : Array Tmp} {assign body : Code} {gf : FuncId} {lb : Array Value} {a : Act}
    (hr : a.eval fo = .func (.func gf) #[] lb) (he : Enters P gf) {α : Type} {enc : α → Array Value} {pass : α → FP} {Pr R : List α → Prop} (hps : ∀ x, (enc x).size = ps.size)
    (T0 G0 : BS) (I : BS → BS → List α → World → Prop) (Ix : Option Nat → BS → BS → List α → World → Prop) (hI : yfh I) (hI2 : yfg I) (hIx : ∀ c, yfh (Ix c)) (hIx2 : ∀ c, yfg (Ix c)) (h0 : I T0 G0 [] w)
    (hgen : yg7 P gf lb enc pass Pr R T0 G0 w)
    (hround : ∀ (l : Nat) (T G : BS) (pre : List α) (x : α) (W : World) (rdy busy : Obj), I T G pre W → Pr (pre ++ [x]) → (pass x).P (fun k => T k ∨ G k) W → G l → W.heap[l]? = some rdy →
      assign.wpIn (Fence.wide.inRound l) 1 P (Exit.then (fun a1 W1 => W1.heap[l]? = some rdy ∧ ∀ W2, W2 = W1.putObj l busy → body.wpIn (Fence.wide.inRound l) 1 P (rndPost l busy I Ix T G (pre ++ [x]) W) a1 W2) (fun _ _ _ => False))
        { tmps := (ps.zip (enc x)).foldl (fun t (p, v) => t.setIfInBounds p v) a.tmps, defers := [] } W)
    (hdone : ∀ (D : Nat) (T G : BS) (xs : List α) (W : World), w.heap.size ≤ D → ¬ T D → G D → R xs → I T G xs W → W.heap[D]? = some (.deferred (some [])) → Q .normal { a with defers := { target := .collected D, args := #[] } :: a.defers } W)
    (hstop : ∀ (D : Nat) (T G : BS) (c : Option Nat) (xs : List α) (W : World), w.heap.size ≤ D → ¬ T D → G D → Ix c T G xs W → W.heap[D]? = some (.deferred (some [])) → (jumpOf c).wpIn Fence.wide 3 P Q { a with defers := { target := .collected D, args := #[] } :: a.defers } W) :
    (Code.rangeFunc fo ps assign body).wpIn Fence.wide 3 P Q a w := by
  refine wpIn_rangeFunc ?_
  intro fn hfn
  obtain ⟨D, hD⟩ : ∃ D, D = w.heap.size := ⟨_, rfl⟩
  obtain ⟨L, hL⟩ : ∃ L, L = w.heap.size + 1 := ⟨_, rfl⟩
  obtain ⟨rec, hrec⟩ : ∃ rec : LoopState → Option Code → Loop, rec = fun st pe => { state := st, pending := pe, fn, tmps := a.tmps, params := ps, assign, body, defers := w.heap.size } := ⟨_, rfl⟩
  obtain ⟨W1, hW1⟩ : ∃ W1, (w.alloc (.deferred (some []))).alloc (.loop (rec .ready none)) = W1 := ⟨_, rfl⟩
  have hL1 : W1.heap[L]? = some (.loop (rec .ready none)) := by
    rw [← hW1, hL]; have := World.alloc_heap_new (w.alloc (.deferred (some []))) (.loop (rec .ready none)); rwa [World.size_alloc] at this
  have hK1 : W1.heap[D]? = some (.deferred (some [])) := by
    rw [← hW1, hD]; exact (Below.heap_alloc _ _ _ (by simp)).trans (World.alloc_heap_new w _)
  have hP1 : Pure w W1 := by rw [← hW1]; exact ((Keeps.refl _ _).alloc _).alloc _
  have hs1 : W1.heap.size = w.heap.size + 2 := by rw [← hW1]; simp
  have two0 := hI2 h0
  refine ⟨L, [{ target := .collected D, args := #[] }], W1, { target := .fn (.func gf) lb, args := #[.func (.yield L) #[] #[]] }, W1, gf, #[.func (.yield L) #[] #[]] ++ lb, W1, ?_, ?_, fun _ _ => trivial, ?_, fun h => (by cases h), ?_⟩
  · rw [← hW1, hrec, hL, hD]; exact run_enterLoop_outer _ _ _ _ _
  · simp only [resolve, hr]
    simp [go_sem]
  · simp [invoke, go_sem, he _ _]
  · have key := hgen L
      (fun Tg G pre W => ∃ T, (∀ k, Tg k ↔ T k ∨ k = L ∨ k = D) ∧ I T (fun k => G k ∨ k = L ∨ k = D) pre W ∧ W.heap[L]? = some (.loop (rec .ready none)) ∧ W.heap[D]? = some (.deferred (some [])) ∧ ¬ G L ∧ ¬ G D ∧ ¬ T D)
      (fun Tg G pre W => ∃ T c, (∀ k, Tg k ↔ T k ∨ k = L ∨ k = D) ∧ Ix c T (fun k => G k ∨ k = L ∨ k = D) pre W ∧ W.heap[L]? = some (.loop (rec .done (some (jumpOf c)))) ∧ W.heap[D]? = some (.deferred (some [])) ∧ ¬ G L ∧ ¬ G D ∧ ¬ T D)
      (fun k => T0 k ∨ k = L ∨ k = D) W1 ⟨?_, ?_, ?_, ?_, ?_⟩ ⟨T0, fun _ => Iff.rfl, ?_, hL1, hK1, ?_, ?_, ?_⟩ hP1 (fun k hk => ?_)
    · refine (show CallsIn Fence.wide (3 - 1) P gf _ W1 _ from key).mono ?_
      rintro e W2 ⟨⟨v, rfl⟩, (⟨xs, Tg, G, hR, T, hT, hi, hl, hd, g1, g2, g3⟩ | ⟨pre, Tg, G, T, c, hT, hi, hl, hd, g1, g2, g3⟩)⟩
      · refine ⟨none, W2.putObj L (.loop { rec .ready none with state := .exhausted }), by have := run_endLoop (P := P) hl (by rw [hrec]; simp); rw [hrec] at this ⊢; exact this, ?_⟩
        have hLl : L < W2.heap.size := (Array.getElem?_eq_some_iff.1 hl).1
        have hlt := (hI2 hi).2
        exact hdone D T _ xs _ (by omega) g3 (.inr (.inr rfl)) hR (hI hi ((ydg _ _ _).mono fun k _ e => .inr (.inl e)) (fun k h => .inl h) (fun k h => by rw [yc8]; exact hlt k h)) ((World.putObj_heap_other (by omega)).trans hd)
      · refine ⟨some (jumpOf c), W2.putObj L (.loop { rec .done (some (jumpOf c)) with state := .exhausted }), by have := run_endLoop (P := P) hl (by rw [hrec]; simp); rw [hrec] at this ⊢; exact this, ?_⟩
        have hlt := (hIx2 c hi).2
        exact hstop D T _ c pre _ (by omega) g3 (.inr (.inr rfl)) (hIx c hi ((ydg _ _ _).mono fun k _ e => .inr (.inl e)) (fun k h => .inl h) (fun k h => by rw [yc8]; exact hlt k h)) ((World.putObj_heap_other (by omega)).trans hd)
    · -- the generator's steps
      rintro Tg G G' pre W W' ⟨T, hT, hi, hl, hd, g1, g2, g3⟩ hK hG hGl
      have lL := (Array.getElem?_eq_some_iff.1 hl).1
      have lD := (Array.getElem?_eq_some_iff.1 hd).1
      refine ⟨T, hT, hI hi (hK.mono fun k _ h => .inl h) (fun k h => ?_) (fun k h => ?_), (hK.block L lL g1).trans hl, (hK.block D lD g2).trans hd, fun h => ?_, fun h => ?_, g3⟩
      · rcases h with h | h
        · rcases hG k h with q | q
          · exact .inl (.inl q)
          · exact .inr q
        · exact .inl (.inr h)
      · rcases h with h | h | h
        · exact hGl k h
        · rw [h]; exact Nat.lt_of_lt_of_le lL hK.size
        · rw [h]; exact Nat.lt_of_lt_of_le lD hK.size
      · rcases hG L h with q | q
        · exact g1 q
        · omega
      · rcases hG D h with q | q
        · exact g2 q
        · omega
    · rintro Tg G G' pre W W' ⟨T, c, hT, hi, hl, hd, g1, g2, g3⟩ hK hG hGl
      have lL := (Array.getElem?_eq_some_iff.1 hl).1
      have lD := (Array.getElem?_eq_some_iff.1 hd).1
      refine ⟨T, c, hT, hIx c hi (hK.mono fun k _ h => .inl h) (fun k h => ?_) (fun k h => ?_), (hK.block L lL g1).trans hl, (hK.block D lD g2).trans hd, fun h => ?_, fun h => ?_, g3⟩
      · rcases h with h | h
        · rcases hG k h with q | q
          · exact .inl (.inl q)
          · exact .inr q
        · exact .inl (.inr h)
      · rcases h with h | h | h
        · exact hGl k h
        · rw [h]; exact Nat.lt_of_lt_of_le lL hK.size
        · rw [h]; exact Nat.lt_of_lt_of_le lD hK.size
      · rcases hG L h with q | q
        · exact g1 q
        · omega
      · rcases hG D h with q | q
        · exact g2 q
        · omega
    · rintro Tg G pre W ⟨T, hT, hi, hl, hd, g1, g2, g3⟩
      have lL := (Array.getElem?_eq_some_iff.1 hl).1
      refine ⟨fun k hk => ?_, fun k hk => (hI2 hi).2 k (.inl hk)⟩
      rcases (hT k).1 hk with q | q
      · exact ⟨fun hg => ((hI2 hi).1 k q).1 (.inl hg), ((hI2 hi).1 k q).2⟩
      · rcases q with q | q
        · rw [q]; exact ⟨g1, lL⟩
        · rw [q]; exact ⟨g2, (Array.getElem?_eq_some_iff.1 hd).1⟩
    · rintro Tg G pre W ⟨T, c, hT, hi, hl, hd, g1, g2, g3⟩
      have lL := (Array.getElem?_eq_some_iff.1 hl).1
      refine ⟨fun k hk => ?_, fun k hk => (hIx2 c hi).2 k (.inl hk)⟩
      rcases (hT k).1 hk with q | q
      · exact ⟨fun hg => ((hIx2 c hi).1 k q).1 (.inl hg), ((hIx2 c hi).1 k q).2⟩
      · rcases q with q | q
        · rw [q]; exact ⟨g1, lL⟩
        · rw [q]; exact ⟨g2, (Array.getElem?_eq_some_iff.1 hd).1⟩
    · -- one round
      rintro Tg G pre x W ⟨T, hT, hi, hl, hd, g1, g2, g3⟩ hPr hpass
      have lL := (Array.getElem?_eq_some_iff.1 hl).1
      have lD := (Array.getElem?_eq_some_iff.1 hd).1
      have hy := run_yield (P := P) (args := enc x) hl (by rw [hrec]; exact hps x)
      rw [hrec] at hy
      have hp2 : (pass x).P (fun k => T k ∨ (G k ∨ k = L ∨ k = D)) W := (pass x).sub hpass (fun k _ h => by
        rcases h with h | h | h
        · exact .inl ((hT k).2 (.inl h))
        · exact .inr h
        · exact .inl ((hT k).2 (.inr h)))
      refine ⟨fn, _, assign, body, hy, roundIn_of_wpIn hfn (wpIn_mono (hround L T _ pre x W _ (.loop { rec .ready none with state := .busy }) hi hPr hp2 (.inr (.inl rfl)) hl) ?_)⟩
      rintro e1 a1 V1 hq
      cases e1 with
      | exit id => exact hq.elim
      | ret => exact hq.elim
      | goto l => exact hq.elim
      | panic c => exact hq.elim
      | outgrown => exact hq.elim
      | normal =>
      obtain ⟨hl1, hb1⟩ := hq
      refine ⟨_, run_beginRound hl1 (by rw [hrec]), wpIn_mono (hb1 _ rfl) ?_⟩
      have fin : ∀ (T' : BS) (jump : Option Code) (W3 : World), RL1 L (.loop { rec .ready none with state := .busy }) T W T' W3 →
          (Instr.endRound L jump).run P W3 = .ok (.bool jump.isNone) (W3.putObj L (.loop (rec (if jump.isNone then .ready else .done) jump))) ∧
          (W3.putObj L (.loop (rec (if jump.isNone then .ready else .done) jump))).heap[L]? = some (.loop (rec (if jump.isNone then .ready else .done) jump)) ∧
          (W3.putObj L (.loop (rec (if jump.isNone then .ready else .done) jump))).heap[D]? = some (.deferred (some [])) ∧
          RK Tg W (fun k => T' k ∨ k = L ∨ k = D) (W3.putObj L (.loop (rec (if jump.isNone then .ready else .done) jump))) ∧ Keeps (fun k => k = L) W3 (W3.putObj L (.loop (rec (if jump.isNone then .ready else .done) jump))) ∧ L < W3.heap.size ∧ ¬ T' D := fun T' jump W3 hk3 => by
        have hl3 : W3.heap[L]? = some (.loop { rec .ready none with state := .busy }) := hk3.at_
        have hd3 : W3.heap[D]? = some (.deferred (some [])) := (hk3.keeps.block D (by omega) (fun h => h.elim g3 (fun e => by omega))).trans hd
        have lL3 := (Array.getElem?_eq_some_iff.1 hl3).1
        have hrun := run_endRound (P := P) jump hl3
        rw [hrec] at hrun ⊢
        have hkk := ydg W3 L (.loop ((fun st pe => ({ state := st, pending := pe, fn, tmps := a.tmps, params := ps, assign, body, defers := w.heap.size } : Loop)) (if jump.isNone then .ready else .done) jump))
        refine ⟨hrun, World.putObj_heap_same lL3, (World.putObj_heap_other (by omega)).trans hd3, ⟨(Keeps.refl (fun _ => False) W).trans' hk3.keeps hkk (T := Tg) (fun k e => e.elim) (fun k e => e.elim (fun e => (hT k).2 (.inl e)) (fun e => (hT k).2 (.inr (.inl e)))) (fun k e => (hT k).2 (.inr (.inl e))), fun k h => ?_, fun k h => ?_⟩, hkk, lL3, fun h => ?_⟩
        · rcases h with h | h
          · rcases hk3.sub k h with q | q
            · exact .inl ((hT k).2 (.inl q))
            · exact .inr (by omega)
          · exact .inl ((hT k).2 (.inr h))
        · rw [yc8]
          rcases h with h | h
          · exact hk3.lt k h
          · rcases h with h | h
            · rw [h]; exact lL3
            · rw [h]; exact (Array.getElem?_eq_some_iff.1 hd3).1
        · rcases hk3.sub D h with q | q
          · exact g3 q
          · omega
      rintro e a3 W3 hp
      cases e with
      | normal =>
        obtain ⟨T', hk3, hi3⟩ := hp
        obtain ⟨hr3, hl4, hd4, hrk, hkk, lL3, hTD⟩ := fin T' none W3 hk3
        exact ⟨_, _, hr3, _, hrk, .inl ⟨rfl, T', fun _ => Iff.rfl, hI hi3 (hkk.mono fun k _ e => .inr (.inl e)) (fun k h => .inl h) (fun k h => by rw [yc8]; exact (hI2 hi3).2 k h), hl4, hd4, g1, g2, hTD⟩⟩
      | ret =>
        obtain ⟨T', hk3, hi3⟩ := hp
        obtain ⟨hr3, hl4, hd4, hrk, hkk, lL3, hTD⟩ := fin T' (some .ret) W3 hk3
        exact ⟨_, _, hr3, _, hrk, .inr ⟨rfl, T', none, fun _ => Iff.rfl, hIx none hi3 (hkk.mono fun k _ e => .inr (.inl e)) (fun k h => .inl h) (fun k h => by rw [yc8]; exact (hIx2 none hi3).2 k h), hl4, hd4, g1, g2, hTD⟩⟩
      | exit id =>
        obtain ⟨T', hk3, hi3⟩ := hp
        obtain ⟨hr3, hl4, hd4, hrk, hkk, lL3, hTD⟩ := fin T' (some (.exit id)) W3 hk3
        exact ⟨_, _, hr3, _, hrk, .inr ⟨rfl, T', some id, fun _ => Iff.rfl, hIx (some id) hi3 (hkk.mono fun k _ e => .inr (.inl e)) (fun k h => .inl h) (fun k h => by rw [yc8]; exact (hIx2 (some id) hi3).2 k h), hl4, hd4, g1, g2, hTD⟩⟩
      | goto t => exact hp.elim
      | panic ch => exact hp.elim
      | outgrown => exact hp.elim
    · have hsz : ∀ k, G0 k → k < w.heap.size := two0.2
      exact hI h0 (G := G0) (hP1.mono fun k _ h => h.elim) (fun k h => h.elim .inl (fun e => .inr (by omega))) (fun k h => h.elim (fun h => by have := hsz k h; omega) (fun e => by omega))
    · intro h; have := two0.2 L h; omega
    · intro h; have := two0.2 D h; omega
    · intro h; have := (two0.1 D h).2; omega
    · rcases hk with h | h
      · exact .inl h
      · exact .inr (by omega)
theorem wt_iter {P : Program} {N : Nat} {Q : Exit → Act → World → Prop} {E : Env} {ds : List Deferred} {w : World} {t : List Item} {fo : Operand} {ps : Array Tmp} {assign body : Code} {gf : FuncId} {lb : Array Value}
    (hr : evE E fo = .func (.func gf) #[] lb) (he : Enters P gf) {α : Type} {val : α → Array Value} {pass : α → FP} {Pr R : List α → Prop} (hps : ∀ x, (val x).size = ps.size) (hpN : ps.toList.all (fun p => Nat.blt p N) = true)
    (T0 G0 : BS) (I : BS → BS → List α → World → Prop) (Ix : Option Nat → BS → BS → List α → World → Prop) (hI : yfh I) (hI2 : yfg I) (hIx : ∀ c, yfh (Ix c)) (hIx2 : ∀ c, yfg (Ix c)) (h0 : I T0 G0 [] w)
    (hgen : yg7 P gf lb val pass Pr R T0 G0 w)
    (hround : ∀ (l : Nat) (T G : BS) (pre : List α) (x : α) (W : World) (rdy busy : Obj), I T G pre W → Pr (pre ++ [x]) → (pass x).P (fun k => T k ∨ G k) W → G l → W.heap[l]? = some rdy →
      WT (Fence.wide.inRound l) 1 P N [.code assign] (fun e a1 W1 => e = .normal ∧ ∃ E1, Rep N E1 [] a1 ∧ W1.heap[l]? = some rdy ∧ ∀ W2, W2 = W1.putObj l busy → WT (Fence.wide.inRound l) 1 P N [.code body] (rndPost l busy I Ix T G (pre ++ [x]) W) E1 [] W2) (setE E (ps.toList.zip (val x).toList)) [] W)
    (hdone : ∀ (D : Nat) (T G : BS) (xs : List α) (W : World), w.heap.size ≤ D → ¬ T D → G D → R xs → I T G xs W → W.heap[D]? = some (.deferred (some [])) → WT Fence.wide 3 P N t Q E ({ target := .collected D, args := #[] } :: ds) W)
    (hstop : ∀ (D : Nat) (T G : BS) (c : Option Nat) (xs : List α) (W : World), w.heap.size ≤ D → ¬ T D → G D → Ix c T G xs W → W.heap[D]? = some (.deferred (some [])) → JumpTo P N t Q E ({ target := .collected D, args := #[] } :: ds) W c) :
    WT Fence.wide 3 P N (.code (.rangeFunc fo ps assign body) :: t) Q E ds w := by
  intro a ra
  let mk : Env → Act := fun E' => { tmps := Array.ofFn (n := N) fun i => E' i, defers := [] }
  have hmk : ∀ E' : Env, (∀ t, N ≤ t → E' t = undef) → Rep N E' [] (mk E') := by
    intro E' h
    refine ⟨by simp [mk], fun t => ?_, rfl⟩
    simp only [mk, Array.getD_eq_getD_getElem?]
    rcases Nat.lt_or_ge t N with ht | ht
    · simp [ht]
    · simp [ht, h t ht]
  have hun : ∀ {E' : Env} {ds' : List Deferred} {a' : Act}, Rep N E' ds' a' → ∀ t, N ≤ t → E' t = undef := by
    intro E' ds' a' h t ht
    rw [← h.get t]
    simp [Array.getD_eq_getD_getElem?, h.size, ht]
  have hpr : ∀ x, Rep N (setE E (ps.toList.zip (val x).toList)) [] { tmps := (ps.zip (val x)).foldl (fun t (p, v) => t.setIfInBounds p v) a.tmps, defers := [] } := by
    intro x
    have h1 : Rep N E [] { tmps := a.tmps, defers := [] } := ⟨ra.size, ra.get, rfl⟩
    have h2 := setE_rep (ps.toList.zip (val x).toList) E [] _ h1 (fun p hp => by
      have := List.all_eq_true.1 hpN p.1 (List.of_mem_zip hp).1
      simpa using this)
    have h3 : (ps.zip (val x)).foldl (fun t (p, v) => t.setIfInBounds p v) a.tmps = (ps.toList.zip (val x).toList).foldl (fun t p => t.setIfInBounds p.1 p.2) a.tmps := by
      rw [← Array.foldl_toList, Array.toList_zip]
    rw [h3]; exact h2
  refine WTa.ofx (wpIn_iter (N := N) (E := E) (ds := ds) (t := t) (a := a) (by rw [ra.eval, hr]) he hps T0 G0 I Ix hI hI2 hIx hIx2 h0 hgen ?_ ?_ ?_)
  · intro l T G pre x W rdy busy hi hp hq hg hl
    refine wpIn_mono (WTa.code (hround l T G pre x W rdy busy hi hp hq hg hl _ (hpr x))) ?_
    rintro e a1 W1 ⟨rfl, E1, r1, h1, h2⟩
    exact ⟨h1, fun W2 hW => WTa.code (h2 W2 hW _ r1)⟩
  · intro D T G xs W hD hT hG hR hi hd
    exact hdone D T G xs W hD hT hG hR hi hd _ ⟨ra.size, ra.get, by rw [ra.defers]⟩
  · intro D T G c xs W hD hT hG hi hd
    have hj := hstop D T G c xs W hD hT hG hi hd
    have ra2 : Rep N E ({ target := .collected D, args := #[] } :: ds) { a with defers := { target := .collected D, args := #[] } :: a.defers } := ⟨ra.size, ra.get, by rw [ra.defers]⟩
    cases c with
    | none => exact WTa.code (WTa.ret (hj _ ra2))
    | some id =>
      refine WTa.code (WTa.leave rfl ?_)
      unfold JumpTo at hj
      cases hq : exitTo id t with
      | none => simp only [hq] at hj ⊢; exact hj _ ra2
      | some k' => simp only [hq] at hj ⊢; exact hj _ ra2
def OwnB (L : Hold) : BS := fun k => ∃ i, (L i).blk = some k
structure Two (w0 : World) (S O G : BS) (W : World) (L : Hold) : Prop where
  pure : Keeps S w0 W
  lt : ∀ k, O k → k < w0.heap.size ∧ ¬ S k
  g : ∀ k, G k → k < W.heap.size ∧ (w0.heap.size ≤ k ∨ S k) ∧ ∀ i, (L i).blk ≠ some k
  ok : ∀ i, (L i).ok 0 (Bl (fun k => O k ∨ G k) L) W
  bd : ∀ i k, (L i).blk = some k → w0.heap.size ≤ k ∨ S k
  nd : ∀ i j k, (L i).blk = some k → (L j).blk = some k → i = j
section
variable {w0 w w' W W' : World} {S O G G' T : BS} {L L' : Hold}
theorem yg9 {js : List Nat} {i k : Nat} (h : (rl (js.map L) i).blk = some k) : ∃ j, js[i]? = some j ∧ (L j).blk = some k := by
  rw [rl_map] at h
  cases hq : js[i]? with
  | none => rw [hq] at h; cases h
  | some j => rw [hq] at h; exact ⟨j, rfl, h⟩
theorem Sep.give (h : Sep w0 S O w L) (js gs : List Nat) (hj : js.Nodup) (hg : gs.Nodup) (hf : allJ (fun j => (j ∉ js) ∨ (L j).blk = none) gs) :
    Two w0 S O (OwnB (rl (gs.map L))) w (rl (js.map L)) ∧ Sep w (OwnB (rl (gs.map L))) (Bl O (rl (js.map L))) w (rl (gs.map L)) := by
  have hdis : ∀ a b k, (rl (js.map L) a).blk = some k → (rl (gs.map L) b).blk = some k → False := fun a b k ha hb => by
    obtain ⟨j1, e1, b1⟩ := yg9 ha
    obtain ⟨j2, e2, b2⟩ := yg9 hb
    have := h.nd j1 j2 k b1 b2
    subst this
    rcases hf.out j1 (List.mem_of_getElem? e2) with q | q
    · exact q (List.mem_of_getElem? e1)
    · rw [q] at b1; cases b1
  have hO : ∀ k, (OwnB L) k → ¬ O k := fun k ⟨i, hi⟩ hk => by
    have := h.lt k hk
    rcases h.bd i k hi with q | q
    · omega
    · exact this.2 q
  have hsz : ∀ i k, (L i).blk = some k → k < w.heap.size := fun i k hk => ((h.ok i).lt hk).2
  have ndl : ∀ (l : List Nat), l.Nodup → ∀ a b k, (rl (l.map L) a).blk = some k → (rl (l.map L) b).blk = some k → a = b := fun l hl a b k ha hb => by
    obtain ⟨j1, e1, b1⟩ := yg9 ha
    obtain ⟨j2, e2, b2⟩ := yg9 hb
    have := h.nd j1 j2 k b1 b2
    subst this
    obtain ⟨l1, q1⟩ := List.getElem?_eq_some_iff.1 e1
    obtain ⟨l2, q2⟩ := List.getElem?_eq_some_iff.1 e2
    exact (List.getElem_inj hl).1 (q1.trans q2.symm)
  have okl : ∀ (l : List Nat) (O' : BS), (∀ k, O' k → Bl O L k) → ∀ i, (rl (l.map L) i).ok 0 O' w := fun l O' ho i => by
    rw [rl_map]
    cases hq : l[i]? with
    | none => trivial
    | some j => exact (h.ok j).sub fun k _ hk => ho k hk
  have inl : ∀ (l : List Nat) k, OwnB (rl (l.map L)) k → OwnB L k := fun l k ⟨i, hi⟩ => by
    obtain ⟨j, _, hb⟩ := yg9 hi
    exact ⟨j, hb⟩
  refine ⟨⟨h.pure, h.lt, fun k hk => ?_, ?_, fun i k hk => ?_, ndl js hj⟩, ⟨Keeps.refl _ _, fun k hk => ?_, ?_, fun i k hk => .inr ⟨i, hk⟩, ndl gs hg⟩⟩
  · obtain ⟨j, hb⟩ := inl gs k hk
    obtain ⟨i, hi⟩ := hk
    exact ⟨hsz j k hb, h.bd j k hb, fun a ha => hdis a i k ha hi⟩
  · refine okl js _ fun k hk => ?_
    rcases hk with (q | q) | q
    · exact .inl q
    · exact .inr (inl gs k q)
    · exact .inr (inl js k q)
  · obtain ⟨j, _, hb⟩ := yg9 hk
    exact h.bd j k hb
  · rcases hk with q | ⟨i, q⟩
    · exact ⟨Nat.lt_of_lt_of_le (h.lt k q).1 h.pure.size, fun hg => hO k (inl gs k hg) q⟩
    · obtain ⟨j, _, hb⟩ := yg9 q
      exact ⟨hsz j k hb, fun ⟨b, hb2⟩ => hdis i b k q hb2⟩
  · refine okl gs _ fun k hk => ?_
    rcases hk with (q | q) | q
    · exact .inl q
    · exact .inr (inl js k q)
    · exact .inr (inl gs k q)
theorem Two.gen (h : Two w0 S O G W L) (hK : Keeps G W W') (hG : ∀ k, G' k → G k ∨ W.heap.size ≤ k) (hl : ∀ k, G' k → k < W'.heap.size) : Two w0 S O G' W' L := by
  have hlt : ∀ i k, (L i).blk = some k → k < W.heap.size := fun i k hk => ((h.ok i).lt hk).2
  refine ⟨h.pure.then hK (fun k hk q => (h.g k q).2.1.elim (fun r => by omega) id), h.lt, fun k hk => ⟨hl k hk, ?_, fun i hi => ?_⟩, fun i => ?_, h.bd, h.nd⟩
  · rcases hG k hk with q | q
    · exact (h.g k q).2.1
    · exact .inl (Nat.le_trans h.pure.size q)
  · rcases hG k hk with q | q
    · exact (h.g k q).2.2 i hi
    · have := hlt i k hi; omega
  · refine (h.ok i).keep hK (fun k hk hg => (h.g k hg).2.2 i hk) (fun k _ hg => .inl (.inr hg)) fun k hk hO => ?_
    rcases hO with (q | q) | q
    · exact .inl (.inl q)
    · rcases hG k q with r | r
      · exact .inl (.inr r)
      · omega
    · exact .inr q
theorem Two.round (h : Two w0 S O G W L) : Sep W (OwnB L) (fun k => O k ∨ G k) W L := by
  refine ⟨Keeps.refl _ _, fun k hk => ?_, h.ok, fun i k hk => .inr ⟨i, hk⟩, h.nd⟩
  rcases hk with q | q
  · refine ⟨Nat.lt_of_lt_of_le (h.lt k q).1 h.pure.size, fun ⟨i, hi⟩ => ?_⟩
    rcases h.bd i k hi with r | r
    · have := (h.lt k q).1; omega
    · exact (h.lt k q).2 r
  · exact ⟨(h.g k q).1, fun ⟨i, hi⟩ => (h.g k q).2.2 i hi⟩
theorem Two.back (h : Two w0 S O G W L) (hS : Sep W (OwnB L) (fun k => O k ∨ G k) W' L') : Two w0 S O G W' L' ∧ RK (Bl O L) W (Bl O L') W' := by
  have hbd : ∀ i k, (L' i).blk = some k → OwnB L k ∨ W.heap.size ≤ k := fun i k hk => (hS.bd i k hk).symm
  refine ⟨⟨h.pure.then hS.pure (fun k hk ⟨i, hi⟩ => (h.bd i k hi).elim (fun r => by omega) id), h.lt, fun k hk => ⟨Nat.lt_of_lt_of_le (h.g k hk).1 hS.pure.size, (h.g k hk).2.1, fun i hi => ?_⟩, hS.ok, fun i k hk => ?_, hS.nd⟩, ⟨hS.pure.mono fun k _ q => .inr q, fun k hk => ?_, fun k hk => ?_⟩⟩
  · rcases hbd i k hi with ⟨j, q⟩ | q
    · exact (h.g k hk).2.2 j q
    · have := (h.g k hk).1; omega
  · rcases hbd i k hk with ⟨j, q⟩ | q
    · exact h.bd j k q
    · exact .inl (Nat.le_trans h.pure.size q)
  · rcases hk with q | ⟨i, q⟩
    · exact .inl (.inl q)
    · rcases hbd i k q with r | r
      · exact .inl (.inr r)
      · exact .inr r
  · rcases hk with q | ⟨i, q⟩
    · exact Nat.lt_of_lt_of_le (h.lt k q).1 (Nat.le_trans h.pure.size hS.pure.size)
    · exact ((hS.ok i).lt q).2
theorem Two.fin (h : Two w0 S O G W L) : Sep w0 S O W L := by
  refine ⟨h.pure, h.lt, fun i => (h.ok i).sub fun k _ hk => ?_, h.bd, h.nd⟩
  rcases hk with q | q
  · exact .inl (.inl q)
  · exact .inr q
end
def IV {α : Type} (w0 : World) (S O : BS) (V : List α → List Res → Prop) : BS → BS → List α → World → Prop := fun T G pre W => ∃ LL, T = Bl O (rl LL) ∧ Two w0 S O G W (rl LL) ∧ V pre LL
theorem IV.gen {α : Type} (w0 : World) (S O : BS) (V : List α → List Res → Prop) : yfh (IV w0 S O V) := by
  rintro T G G' pre W W' ⟨L, rfl, h, hV⟩ hK hG hl
  exact ⟨L, rfl, h.gen hK hG hl, hV⟩
theorem IV.two {α : Type} (w0 : World) (S O : BS) (V : List α → List Res → Prop) : yfg (IV w0 S O V) := by
  rintro T G pre W ⟨L, rfl, h, hV⟩
  refine ⟨fun k hk => ?_, fun k hk => (h.g k hk).1⟩
  rcases hk with q | ⟨i, q⟩
  · refine ⟨fun hg => ?_, Nat.lt_of_lt_of_le (h.lt k q).1 h.pure.size⟩
    rcases (h.g k hg).2.1 with r | r
    · have := (h.lt k q).1; omega
    · exact (h.lt k q).2 r
  · exact ⟨fun hg => (h.g k hg).2.2 i q, ((h.ok i).lt q).2⟩
def dfr (D : Nat) : Res := .obj D (.deferred (some []))
theorem yhI : ∀ (LL : List Res) (r : Res), rl (LL ++ [r]) = stl (rl LL) LL.length r
  | [], r => by funext i; cases i <;> rfl
  | x :: t, r => by
    funext i
    cases i with
    | zero => rfl
    | succ i =>
      show rl (t ++ [r]) i = _
      rw [yhI t r]
      by_cases e : i = t.length
      · subst e; rw [ya5, List.length_cons, ya5]
      · rw [yaJ _ _ e, List.length_cons, yaJ _ _ (by omega)]; rfl
theorem yc6 : ∀ (LL : List Res), rl LL LL.length = .gone
  | [] => rfl
  | _ :: t => yc6 t
theorem Two.take {w0 W : World} {S O G : BS} {L : Hold} (h : Two w0 S O G W L) {D i : Nat} {o : Obj} (hi : L i = .gone) (hD : G D) (hd : W.heap[D]? = some o) :
    (∀ j, (stl L i (.obj D o) j).ok 0 (Bl (fun k => O k ∨ G k) L) W) ∧ (∀ k, Bl (fun k => O k ∨ (G k ∧ k ≠ D)) (stl L i (.obj D o)) k → Bl (fun k => O k ∨ G k) L k) ∧ (∀ a b k, (stl L i (.obj D o) a).blk = some k → (stl L i (.obj D o) b).blk = some k → a = b) ∧ ∀ j k, (stl L i (.obj D o) j).blk = some k → OwnB L k ∨ k = D := by
  refine ⟨fun j => ?_, ?_, fun a b k ha hb' => ?_, fun j k hk => ?_⟩
  · by_cases e : j = i
    · subst e; rw [ya5]; exact ⟨Nat.zero_le _, hd⟩
    · rw [yaJ _ _ e]; exact h.ok j
  · rintro k ((q | q) | ⟨j, q⟩)
    · exact .inl (.inl q)
    · exact .inl (.inr q.1)
    · by_cases e : j = i
      · subst e; rw [ya5] at q; cases q; exact .inl (.inr hD)
      · rw [yaJ _ _ e] at q; exact .inr ⟨j, q⟩
  · have key : ∀ a b, a ≠ i → b = i → (stl L i (.obj D o) a).blk = some k → (stl L i (.obj D o) b).blk = some k → False := fun a b h1 h2 ha hb' => by
      subst h2
      rw [yaJ _ _ h1] at ha
      rw [ya5] at hb'
      cases hb'
      exact (h.g D hD).2.2 a ha
    by_cases e1 : a = i
    · by_cases e2 : b = i
      · omega
      · exact (key b a e2 e1 hb' ha).elim
    · by_cases e2 : b = i
      · exact (key a b e1 e2 ha hb').elim
      · rw [yaJ _ _ e1] at ha; rw [yaJ _ _ e2] at hb'; exact h.nd _ _ k ha hb'
  · by_cases e : j = i
    · subst e; rw [ya5] at hk; cases hk; exact .inr rfl
    · rw [yaJ _ _ e] at hk; exact .inl ⟨j, hk⟩
theorem Two.mark {w0 W : World} {S O G : BS} {LL : List Res} (h : Two w0 S O G W (rl LL)) {D : Nat} (hD : G D) (hd : W.heap[D]? = some (.deferred (some []))) : Sep w0 S O W (rl (LL ++ [dfr D])) := by
  obtain ⟨h1, h2, h3, h4⟩ := h.take (yc6 LL) hD hd
  rw [yhI]
  refine ⟨h.pure, h.lt, fun j => (h1 j).sub fun k _ hk => h2 k (hk.elim (fun q => .inl (.inl q)) .inr), fun j k hk => ?_, h3⟩
  rcases h4 j k hk with ⟨i, q⟩ | q
  · exact h.bd i k q
  · rw [q]; exact (h.g D hD).2.1
theorem Two.open_ {w0 W : World} {S O G : BS} {LL : List Res} (h : Two w0 S O G W (rl LL)) {l : Nat} {o : Obj} (hG : G l) (hl : W.heap[l]? = some o) : Sep W (fun k => OwnB (rl LL) k ∨ k = l) (fun k => O k ∨ (G k ∧ k ≠ l)) W (rl (LL ++ [.obj l o])) := by
  obtain ⟨h1, h2, h3, h4⟩ := h.take (yc6 LL) hG hl
  rw [yhI]
  have hr := h.round
  refine ⟨Keeps.refl _ _, fun k hk => ?_, fun j => (h1 j).sub fun k _ hk => h2 k hk, fun j k hk => .inr (h4 j k hk), h3⟩
  rcases hk with q | q
  · have := hr.lt k (.inl q)
    refine ⟨this.1, fun h5 => h5.elim this.2 fun e => ?_⟩
    subst e
    rcases (h.g k hG).2.1 with r | r
    · have := (h.lt k q).1; omega
    · exact (h.lt k q).2 r
  · have := hr.lt k (.inr q.1)
    exact ⟨this.1, fun h5 => h5.elim this.2 q.2⟩
theorem Sep.flip {w0 w w' : World} {S O : BS} {L : Hold} (h : Sep w0 S O w L) (i : Nat) {l : Nat} {o : Obj} (hi : L i = .obj l o) (o' : Obj) (hw : w' = w.putObj l o') : Sep w0 S O w' (stl L i (.obj l o')) := by
  have hl : w.heap[l]? = some o := by have := h.ok i; rw [hi] at this; exact this.2
  subst hw
  exact h.upd i _ (T := fun k => k = l) (ydg _ _ _) (fun k _ e => by rw [hi, e]; rfl) (fun k hk => by cases hk; rw [hi]; exact .inl rfl) ⟨Nat.zero_le _, World.putObj_heap_same (Array.getElem?_eq_some_iff.1 hl).1⟩
theorem Two.close {w0 W W' : World} {S O G : BS} {LL LL' : List Res} (h : Two w0 S O G W (rl LL)) {l : Nat} {busy : Obj} (hG : G l)
    (hS : Sep W (fun k => OwnB (rl LL) k ∨ k = l) (fun k => O k ∨ (G k ∧ k ≠ l)) W' (rl (LL' ++ [.obj l busy]))) : Two w0 S O G W' (rl LL') ∧ RL1 l busy (Bl O (rl LL)) W (Bl O (rl LL')) W' := by
  rw [yhI] at hS
  have ho : ∀ i, i ≠ LL'.length → stl (rl LL') LL'.length (.obj l busy) i = rl LL' i := fun i hi => yaJ _ _ hi
  have hne : ∀ i k, (rl LL' i).blk = some k → i ≠ LL'.length := fun i k hk e => by rw [e, yc6] at hk; cases hk
  have hbl : ∀ k, Bl (fun k => O k ∨ G k) (rl LL') k → Bl (fun k => O k ∨ (G k ∧ k ≠ l)) (stl (rl LL') LL'.length (.obj l busy)) k := by
    rintro k ((q | q) | ⟨j, q⟩)
    · exact .inl (.inl q)
    · by_cases e : k = l
      · exact .inr ⟨LL'.length, by rw [ya5, e]; rfl⟩
      · exact .inl (.inr ⟨q, e⟩)
    · exact .inr ⟨j, by rw [ho j (hne j k q)]; exact q⟩
  have hnl : ∀ i k, (rl LL' i).blk = some k → k ≠ l := fun i k hk e => by
    subst e
    have := hS.nd i LL'.length k (by rw [ho i (hne i k hk)]; exact hk) (by rw [ya5]; rfl)
    exact hne i k hk this
  have hbd : ∀ i k, (rl LL' i).blk = some k → OwnB (rl LL) k ∨ W.heap.size ≤ k := fun i k hk => by
    rcases hS.bd i k (by rw [ho i (hne i k hk)]; exact hk) with q | q | q
    · exact .inr q
    · exact .inl q
    · exact absurd q (hnl i k hk)
  have hok : ∀ i, (rl LL' i).ok 0 (Bl (fun k => O k ∨ G k) (rl LL')) W' := fun i => by
    by_cases e : i = LL'.length
    · rw [e, yc6]; trivial
    · have := hS.ok i
      rw [ho i e] at this
      exact this.sub fun k _ hk => hbl k hk
  have hat : W'.heap[l]? = some busy := by have := hS.ok LL'.length; rw [ya5] at this; exact this.2
  refine ⟨⟨h.pure.then hS.pure (fun k hk q => ?_), h.lt, fun k hk => ⟨Nat.lt_of_lt_of_le (h.g k hk).1 hS.pure.size, (h.g k hk).2.1, fun i hi => ?_⟩, hok, fun i k hk => ?_, fun i j k hi hj => hS.nd i j k (by rw [ho i (hne i k hi)]; exact hi) (by rw [ho j (hne j k hj)]; exact hj)⟩, ⟨hS.pure.mono fun k _ q => q.elim (fun q => .inl (.inr q)) .inr, fun k hk => ?_, fun k hk => ?_, hat⟩⟩
  · rcases q with ⟨i, q⟩ | q
    · exact (h.bd i k q).elim (fun r => by omega) id
    · rw [q] at hk ⊢; exact (h.g l hG).2.1.elim (fun r => by omega) id
  · rcases hbd i k hi with ⟨j, q⟩ | q
    · exact (h.g k hk).2.2 j q
    · have := (h.g k hk).1; omega
  · rcases hbd i k hk with ⟨j, q⟩ | q
    · exact h.bd j k q
    · exact .inl (Nat.le_trans h.pure.size q)
  · rcases hk with q | ⟨i, q⟩
    · exact .inl (.inl q)
    · rcases hbd i k q with r | r
      · exact .inl (.inr r)
      · exact .inr r
  · rcases hk with q | ⟨i, q⟩
    · exact Nat.lt_of_lt_of_le (h.lt k q).1 (Nat.le_trans h.pure.size hS.pure.size)
    · exact ((hok i).lt q).2
def rndS {α : Type} (l : Nat) (busy : Obj) (W : World) (S O : BS) (V : List α → List Res → Prop) (Vx : Option Nat → List α → List Res → Prop) (xs : List α) : Exit → Act → World → Prop
  | .normal, _, W' => ∃ LL, V xs LL ∧ Sep W S O W' (rl (LL ++ [.obj l busy]))
  | .ret, _, W' => ∃ LL, Vx none xs LL ∧ Sep W S O W' (rl (LL ++ [.obj l busy]))
  | .exit id, _, W' => ∃ LL, Vx (some id) xs LL ∧ Sep W S O W' (rl (LL ++ [.obj l busy]))
  | _, _, _ => False
theorem wt_iterS {P : Program} {N : Nat} {Q : Exit → Act → World → Prop} {E : Env} {ds : List Deferred} {w0 w : World} {S O : BS} {L : Hold} {t : List Item} {fo : Operand} {ps : Array Tmp} {assign body : Code} {gf : FuncId} {lb : Array Value}
    (hS : Sep w0 S O w L) (js gs : List Nat) (hj : js.Nodup) (hg : gs.Nodup) (hf : allJ (fun j => (j ∉ js) ∨ (L j).blk = none) gs)
    (hr : evE E fo = .func (.func gf) #[] lb) (he : Enters P gf) {α : Type} {val : α → Array Value} {pass : α → FP} {Pr R : List α → Prop} (hps : ∀ x, (val x).size = ps.size) (hpN : ps.toList.all (fun p => Nat.blt p N) = true)
    (V : List α → List Res → Prop) (Vx : Option Nat → List α → List Res → Prop) (h0 : V [] (js.map L))
    (hgen : ∀ T G, Sep w G T w (rl (gs.map L)) → yg7 P gf lb val pass Pr R T G w)
    (hround : ∀ (l : Nat) (rdy busy : Obj) (S1 O1 : BS) (pre : List α) (x : α) (W : World) (LL : List Res), V pre LL → Pr (pre ++ [x]) → (pass x).P (Bl O1 (rl (LL ++ [.obj l rdy]))) W → Sep W S1 O1 W (rl (LL ++ [.obj l rdy])) →
      WT (Fence.wide.inRound l) 1 P N [.code assign] (fun e a1 W1 => e = .normal ∧ ∃ E1 L1, Rep N E1 [] a1 ∧ Sep W S1 O1 W1 L1 ∧ (∃ i, L1 i = .obj l rdy) ∧ ∀ W2, W2 = W1.putObj l busy → WT (Fence.wide.inRound l) 1 P N [.code body] (rndS l busy W S1 O1 V Vx (pre ++ [x])) E1 [] W2) (setE E (ps.toList.zip (val x).toList)) [] W)
    (hdone : ∀ (D : Nat) (xs : List α) (W : World) (LL : List Res), R xs → V xs LL → Sep w0 S O W (rl (LL ++ [dfr D])) → WT Fence.wide 3 P N t Q E (mark D :: ds) W)
    (hstop : ∀ (D : Nat) (c : Option Nat) (xs : List α) (W : World) (LL : List Res), Vx c xs LL → Sep w0 S O W (rl (LL ++ [dfr D])) → JumpTo P N t Q E (mark D :: ds) W c) :
    WT Fence.wide 3 P N (.code (.rangeFunc fo ps assign body) :: t) Q E ds w := by
  obtain ⟨hT, hG⟩ := hS.give js gs hj hg hf
  refine wt_iter hr he hps hpN (Bl O (rl (js.map L))) (OwnB (rl (gs.map L))) (IV w0 S O V) (fun c => IV w0 S O (Vx c)) (IV.gen _ _ _ _) (IV.two _ _ _ _) (fun c => IV.gen _ _ _ _) (fun c => IV.two _ _ _ _) ⟨_, rfl, hT, h0⟩ (hgen _ _ hG) ?_ ?_ ?_
  · rintro l T G pre x W rdy busy ⟨LL, rfl, h, hV⟩ hPr hp hGl hl
    have hb := hround l rdy busy (fun k => OwnB (rl LL) k ∨ k = l) (fun k => O k ∨ (G k ∧ k ≠ l)) pre x W LL hV hPr ((pass x).sub hp fun k _ hk => by
      rw [yhI] at hk
      rcases (h.take (yc6 LL) hGl hl).2.1 k hk with (q | q) | q
      · exact .inl (.inl q)
      · exact .inr q
      · exact .inl (.inr q)) (h.open_ hGl hl)
    intro a ra b k cs h1 h2 h3
    obtain ⟨e, a', w', ⟨rfl, E1, L1, r1, s1, ⟨i, hi⟩, hq⟩, harr⟩ := hb a ra b k cs h1 h2 h3
    refine ⟨.normal, a', w', ⟨rfl, E1, r1, by have := s1.ok i; rw [hi] at this; exact this.2, fun W2 hW2 => ?_⟩, harr⟩
    intro a2 ra2 b2 k2 cs2 g1 g2 g3
    obtain ⟨e, a3, w3, hq, harr3⟩ := hq W2 hW2 a2 ra2 b2 k2 cs2 g1 g2 g3
    refine ⟨e, a3, w3, ?_, harr3⟩
    cases e with
    | normal => obtain ⟨L2, v2, s2⟩ := hq; obtain ⟨t2, r2⟩ := h.close hGl s2; exact ⟨_, r2, L2, rfl, t2, v2⟩
    | ret => obtain ⟨L2, v2, s2⟩ := hq; obtain ⟨t2, r2⟩ := h.close hGl s2; exact ⟨_, r2, L2, rfl, t2, v2⟩
    | exit id => obtain ⟨L2, v2, s2⟩ := hq; obtain ⟨t2, r2⟩ := h.close hGl s2; exact ⟨_, r2, L2, rfl, t2, v2⟩
    | goto t => exact hq.elim
    | panic ch => exact hq.elim
    | outgrown => exact hq.elim
  · rintro D T G xs W hD hTD hGD hR ⟨L', rfl, h, hV⟩ hd
    exact hdone D xs W L' hR hV (h.mark hGD hd)
  · rintro D T G c xs W hD hTD hGD ⟨L', rfl, h, hV⟩ hd
    exact hstop D c xs W L' hV (h.mark hGD hd)
section
variable {P : Program} {l : Nat} {α : Type} {val : α → Array Value} {pass : α → FP} {Pr : List α → Prop} {J Jx K : BS → BS → List α → World → Prop}
theorem Sep.yielded {wb w W' : World} {G T T' : BS} {L : Hold} (h : Sep wb G T w L) (hr : RK T w T' W') : Sep W' (OwnB L) T' W' L := by
  have hlt : ∀ i k, (L i).blk = some k → k < w.heap.size := fun i k hk => ((h.ok i).lt hk).2
  have hnT : ∀ i k, (L i).blk = some k → ¬ T k := fun i k hk hT => by
    rcases h.bd i k hk with r | r
    · have := (h.lt k hT).1; omega
    · exact (h.lt k hT).2 r
  refine ⟨Keeps.refl _ _, fun k hk => ⟨hr.lt k hk, fun ⟨i, hi⟩ => ?_⟩, fun i => ?_, fun i k hk => .inr ⟨i, hk⟩, h.nd⟩
  · rcases hr.sub k hk with q | q
    · exact hnT i k hi q
    · have := hlt i k hi; omega
  · refine (h.ok i).keep hr.keeps (fun k hk => hnT i k hk) (fun k _ hk => .inl hk) fun k hk hO => ?_
    rcases hO with q | q
    · rcases hr.sub k q with r | r
      · exact .inl r
      · omega
    · exact .inr q
theorem gen_yield (hs : Sess P l val pass Pr J Jx) {T G : BS} {pre : List α} {x : α} {wb w : World} {L : Hold} (hJ : J T G pre wb) (hS : Sep wb G T w L) (hPr : Pr (pre ++ [x])) (hp : (pass x).P (Bl T L) w)
    {Rr : Ending → World → Prop} (h1 : ∀ T' W', J T' (OwnB L) (pre ++ [x]) W' → Sep W' (OwnB L) T' W' L → Rr (.returned (.bool true)) W') (h2 : ∀ T' W', Jx T' (OwnB L) (pre ++ [x]) W' → Sep W' (OwnB L) T' W' L → Rr (.returned (.bool false)) W') :
    YieldAt Fence.wide 1 P l (val x) w Rr := by
  have hJ2 : J T (OwnB L) pre w := hs.gen hJ hS.pure (fun k ⟨i, hi⟩ => (hS.bd i k hi).elim (fun q => .inr (by have := hS.pure.size; omega)) .inl) (fun k ⟨i, hi⟩ => ((hS.ok i).lt hi).2)
  obtain ⟨fn, tmps, assign, body, hy, hR⟩ := hs.yld hJ2 hPr hp
  refine ⟨fn, tmps, assign, body, hy, hR.mono ?_⟩
  rintro e W' ⟨T', hr, (⟨rfl, hj⟩ | ⟨rfl, hj⟩)⟩
  · exact h1 T' W' hj (hS.yielded hr)
  · exact h2 T' W' hj (hS.yielded hr)
theorem gen_end (hs : Sess P l val pass Pr J Jx) {T G : BS} {pre : List α} {wb w : World} {L : Hold} {R : List α → Prop} (hJ : J T G pre wb) (hS : Sep wb G T w L) (hR : R pre) :
    (∃ xs T G, R xs ∧ J T G xs w) ∨ ∃ pre T G, Jx T G pre w :=
  .inl ⟨pre, T, OwnB L, hR, hs.gen hJ hS.pure (fun k ⟨i, hi⟩ => (hS.bd i k hi).elim (fun q => .inr (by have := hS.pure.size; omega)) .inl) (fun k ⟨i, hi⟩ => ((hS.ok i).lt hi).2)⟩
theorem gen_endx (hs : Sess P l val pass Pr J Jx) {T G : BS} {pre : List α} {wb w : World} {L : Hold} {R : List α → Prop} (hJ : Jx T G pre wb) (hS : Sep wb G T w L) :
    (∃ xs T G, R xs ∧ J T G xs w) ∨ ∃ pre T G, Jx T G pre w :=
  .inr ⟨pre, T, OwnB L, hs.genx hJ hS.pure (fun k ⟨i, hi⟩ => (hS.bd i k hi).elim (fun q => .inr (by have := hS.pure.size; omega)) .inl) (fun k ⟨i, hi⟩ => ((hS.ok i).lt hi).2)⟩
end
theorem gen_start {P : Program} {l : Nat} {α : Type} {val : α → Array Value} {pass : α → FP} {Pr : List α → Prop} {J Jx : BS → BS → List α → World → Prop} {T T1 G : BS} {w w1 : World} {L : Hold}
    (h : Sep w G T w L) (hs : Sess P l val pass Pr J Jx) (hJ : J T1 G [] w1) (hp : Pure w w1) (hT : ∀ k, T1 k → T k ∨ w.heap.size ≤ k) : ∃ G1, J T1 G1 [] w1 ∧ Sep w1 G1 T1 w1 L := by
  have hS := h.yielded (T' := T1) ⟨hp.mono fun k _ q => q.elim, hT, fun k hk => ((hs.two hJ).1 k hk).2⟩
  refine ⟨OwnB L, hs.gen hJ (Keeps.refl _ _) (fun k ⟨i, hi⟩ => ?_) (fun k ⟨i, hi⟩ => ((hS.ok i).lt hi).2), hS⟩
  rcases h.bd i k hi with q | q
  · have := ((h.ok i).lt hi).2; omega
  · exact .inl q
theorem yhh {P : Program} {f : FuncId} {fn : Func} {c : Code} {args : Array Value} {l : List Value} {w : World} {R : Ending → World → Prop} {N : Nat} (hf : P.funcs[f]? = some fn) (hb : fn.body = some c) (hN : fn.ntmps = N) (hl : l.length ≤ N) (ha : args = l.toArray)
    (h : WT Fence.wide 2 P N [.code c] (bodyPost P fn R) (lenv l) [] w) : CallsIn Fence.wide 2 P f args w R := by
  subst ha
  refine callsIn_of_wp hf hb trivial (WTa.code (h _ ⟨?_, lenv_eq l _, rfl⟩)) rfl
  simp
  omega
def FP.tt : FP := ⟨fun _ _ => True, fun h _ => h, fun h _ => h⟩
theorem yex {F : Fence} {n : Nat} {P : Program} {fn : Func} {tmps : Array Value} {R : Ending → World → Prop} : ∀ (rs : List Nat) (W : World), rs.Nodup → (∀ r ∈ rs, W.heap[r]? = some (Obj.deferred (some []))) →
    (∀ W' : World, Keeps (fun k => k ∈ rs) W W' → LeavesIn F n P fn tmps R [] .returning W') → LeavesInM F n P fn tmps R (rs.map mark) .returning W := by
  intro rs
  induction rs with
  | nil => intro W _ _ h; exact h W (Keeps.refl _ _)
  | cons r rs ih =>
    intro W hn hd h
    have hr := hd r (by simp)
    have hnr := List.nodup_cons.1 hn
    refine ⟨by simp, .inl ⟨r, _, rfl, run_takeDeferred hr, ?_⟩⟩
    refine ih (W.putObj r (.deferred none)) hnr.2 (fun q hq => ?_) fun W' hK => ?_
    · rw [World.putObj_heap_other (by rintro rfl; exact hnr.1 hq)]; exact hd q (by simp [hq])
    · exact h W' (((ydg W r _).mono fun k _ e => by subst e; simp).trans (hK.mono fun k _ e => by simp [e]))
theorem Sep.unmark {w0 w w' : World} {S O : BS} {L : Hold} (h : Sep w0 S O w L) {rs : List Nat} (is js : List Nat) (hj : js.Nodup) (hd : ∀ i ∈ is, i ∉ js) (hm : ∀ r ∈ rs, ∃ i ∈ is, (L i).blk = some r) (hK : Keeps (fun k => k ∈ rs) w w') : Sep w0 S O w' (rl (js.map L)) := by
  have h2 := h.step (w' := w') (L' := fun j => if j ∈ is then .gone else L j) (T := fun k => k ∈ rs) hK (fun k _ hk => by obtain ⟨i, _, hi⟩ := hm k hk; exact ⟨i, hi⟩)
    (fun j k hk => by
      by_cases e : j ∈ is
      · simp only [if_pos e] at hk; cases hk
      · simp only [if_neg e] at hk; exact .inl ⟨j, hk⟩)
    (fun j => by
      by_cases e : j ∈ is
      · simp only [if_pos e]; exact .inr trivial
      · refine .inl ⟨j, by simp only [if_neg e], fun k hk hr => ?_⟩
        obtain ⟨i, hi, hb⟩ := hm k hr
        have := h.nd i j k hb hk
        subst this
        exact e hi)
    (fun a b k ha hb => by
      by_cases e1 : a ∈ is
      · simp only [if_pos e1] at ha; cases ha
      · by_cases e2 : b ∈ is
        · simp only [if_pos e2] at hb; cases hb
        · simp only [if_neg e1] at ha; simp only [if_neg e2] at hb; exact h.nd a b k ha hb)
  have h3 := h2.sel js hj
  have e : js.map (fun j => if j ∈ is then Res.gone else L j) = js.map L := List.map_congr_left fun j hjj => by
    rw [if_neg fun q => hd j q hjj]
  rw [e] at h3
  exact h3
section
variable {P : Program} {fn : Func} {N : Nat} {t : List Item} {R : Ending → World → Prop} {E : Env} {w : World} {rs : List Nat} {a : Act}
theorem wt_retn (hn : rs.Nodup) (hd : ∀ r ∈ rs, w.heap[r]? = some (Obj.deferred (some []))) (h : ∀ a, Rep N E (rs.map mark) a → ∀ W', Keeps (fun k => k ∈ rs) w W' → LeavesIn Fence.wide 3 P fn a.tmps R [] .returning W') : WT Fence.wide 3 P N (.code .ret :: t) (bodyPostM Fence.wide 3 P fn R) E (rs.map mark) w :=
  yen fun a r => by
    have hd' := r.defers
    show LeavesInM _ _ _ _ _ _ a.defers _ _
    rw [hd']
    exact yex rs w hn hd fun W' hk => h a r W' hk
theorem wt_retk2 {t1 t2 : Tmp} {v1 v2 : Value} (hn : rs.Nodup) (hd : ∀ r ∈ rs, w.heap[r]? = some (Obj.deferred (some []))) (hr : fn.results = #[.tmp t1, .tmp t2]) (h1 : E t1 = v1) (h2 : E t2 = v2) (h : ∀ w', Keeps (fun k => k ∈ rs) w w' → R (.returned (.tuple #[v1, v2])) w') : WT Fence.wide 3 P N (.code .ret :: t) (bodyPostM Fence.wide 3 P fn R) E (rs.map mark) w :=
  wt_retn hn hd fun a r W' hk => ⟨_, results_tmp2 hr _ _ _, by rw [r.get, r.get, h1, h2]; exact h W' hk⟩
end
theorem Sep.marked {w0 w : World} {S O : BS} {L : Hold} (h : Sep w0 S O w L) (i : Nat) {D : Nat} (hi : L i = dfr D) : ∀ r ∈ [D], w.heap[r]? = some (Obj.deferred (some [])) := fun r hr => by
  rw [List.mem_singleton] at hr
  subst hr
  have := h.ok i
  rw [hi] at this
  exact this.2
theorem yhe {L : Hold} (i : Nat) {D : Nat} (hi : L i = dfr D) : ∀ r ∈ [D], ∃ j ∈ [i], (L j).blk = some r := fun r hr => by
  rw [List.mem_singleton] at hr
  subst hr
  exact ⟨i, by simp, by rw [hi]; rfl⟩
theorem results_cell2 {P : Program} {fn : Func} {p1 p2 : Tmp} {y1 y2 : TypeId} (h : fn.results = #[.cell p1 y1, .cell p2 y2]) {tmps : Array Value} {w : World} {a1 a2 : Addr} {v1 v2 : Value} {u1 u2 : TypeDesc} (h1 : tmps.getD p1 undef = .pointer (some a1)) (h2 : tmps.getD p2 undef = .pointer (some a2))
    (hu1 : P.underlying y1 = some u1) (hn1 : aggD u1 = false) (hu2 : P.underlying y2 = some u2) (hn2 : aggD u2 = false) (c1 : w.cell? a1 = some v1) (c2 : w.cell? a2 = some v2) : (results fn tmps).run P w = .ok (.tuple #[v1, v2]) w := by
  have l1 : (loadVar y1 a1).run P w = .ok v1 w := by
    simp only [loadVar, Sem.run_bind, Result.andThen, yd5 hu1 hn1, yfM a1 v1 c1, Bool.false_eq_true, if_false]
  have l2 : (loadVar y2 a2).run P w = .ok v2 w := by
    simp only [loadVar, Sem.run_bind, Result.andThen, yd5 hu2 hn2, yfM a2 v2 c2, Bool.false_eq_true, if_false]
  have g1 : tmps[p1]?.getD undef = .pointer (some a1) := by simpa using h1
  have g2 : tmps[p2]?.getD undef = .pointer (some a2) := by simpa using h2
  simp [results, h, g1, g2, asAddr, Sem.run_bind, Result.andThen, l1, l2]
section
variable {P : Program} {fn : Func} {N : Nat} {t : List Item} {R : Ending → World → Prop} {E : Env} {w : World} {rs : List Nat}
theorem yi7 {w0 : World} {S O : BS} {L : Hold} (hS : Sep w0 S O w L) {t1 t2 : Tmp} {y1 y2 : TypeId} {g1 g2 : Nat} {v1 v2 : Value} {u1 u2 : TypeDesc} {e1 e2 : TypeId} (i1 i2 : Nat) (hi1 : L i1 = .box e1 g1 [v1]) (hi2 : L i2 = .box e2 g2 [v2]) (is : List Nat) (hm : ∀ r ∈ rs, ∃ i ∈ is, (L i).blk = some r) (hd1 : i1 ∉ is) (hd2 : i2 ∉ is)
    (hn : rs.Nodup) (hd : ∀ r ∈ rs, w.heap[r]? = some (Obj.deferred (some []))) (hr : fn.results = #[.cell t1 y1, .cell t2 y2]) (h1 : E t1 = .pointer (some ⟨g1, 0, none⟩)) (h2 : E t2 = .pointer (some ⟨g2, 0, none⟩))
    (hu1 : P.underlying y1 = some u1) (hn1 : aggD u1 = false) (hu2 : P.underlying y2 = some u2) (hn2 : aggD u2 = false) (h : ∀ w', Keeps (fun k => k ∈ rs) w w' → R (.returned (.tuple #[v1, v2])) w') :
    ∀ a, Rep N E (rs.map mark) a → bodyPostM Fence.wide 3 P fn R .ret a w := fun a r => by
  have hd' := r.defers
  show LeavesInM _ _ _ _ _ _ a.defers _ _
  rw [hd']
  have hnot : ∀ i g e v, L i = .box e g [v] → i ∉ is → g ∉ rs := fun i g e v hi hni hg => by
    obtain ⟨j, hj, hb⟩ := hm g hg
    have := hS.nd i j g (by rw [hi]; rfl) hb
    subst this
    exact hni hj
  refine yex rs w hn hd fun W' hk => ⟨_, results_cell2 hr (by rw [r.get, h1]) (by rw [r.get, h2]) hu1 hn1 hu2 hn2 ?_ ?_, h W' hk⟩
  · exact hk.cell (hnot i1 g1 e1 v1 hi1 hd1) (Row.cell (hS.bx i1 hi1) (i := 0) rfl)
  · exact hk.cell (hnot i2 g2 e2 v2 hi2 hd2) (Row.cell (hS.bx i2 hi2) (i := 0) rfl)
end
end Go.Proofs.Ytmeoemmemjipdaa

/- Iterators that hand over slices: what is yielded is a pure thing and addresses. No program in sight. -/
namespace Go.Proofs.Ytmeoemmemjipdaa
open Go Go.RowKit Go.Shelf Go.Proofs.Try
set_option linter.unusedVariables false
set_option linter.unusedSimpArgs false
set_option linter.unusedSectionVars false
def FP.and (a b : FP) : FP :=
  ⟨fun O w => a.P O w ∧ b.P O w, fun ⟨h1, h2⟩ hk => ⟨a.keep h1 hk, b.keep h2 hk⟩, fun ⟨h1, h2⟩ hs => ⟨a.sub h1 hs, b.sub h2 hs⟩⟩
theorem Sep.addro2 {w0 w : World} {S O : BS} {L : Hold} (h : Sep w0 S O w L) (i j : Nat) (hi : L i = .gone) (hj : stl L i (.ro FP.tt) j = .gone) (hne : j ≠ i) (Φ Ψ : FP) (hp : (FP.and Φ Ψ).P (Bl O L) w) : Sep w0 S O w (stl (stl L i (.ro Φ)) j (.ro Ψ)) := by
  have s1 := h.addro i hi Φ hp.1
  exact s1.addro j (by rw [yaJ _ _ hne] at hj ⊢; exact hj) Ψ (Ψ.sub hp.2 fun k _ hk => Bl.add_ro hi rfl k hk)
def JP {α β : Type} (J : BS → BS → List (α × β) → World → Prop) : BS → BS → List α → World → Prop := fun T G ps W => ∃ l, l.map Prod.fst = ps ∧ J T G l W
structure SessP (P : Program) (l : Nat) {α β : Type} (enc : α → β → Array Value) (pass : α → β → FP) (Pr : List α → Prop) (J Jx : BS → BS → List α → World → Prop) : Prop where
  gen : yfh J
  genx : yfh Jx
  two : yfg J
  twox : yfg Jx
  yld : ∀ {T G : BS} {pre : List α} {x : α} {b : β} {W : World}, J T G pre W → Pr (pre ++ [x]) → (pass x b).P (fun k => T k ∨ G k) W →
    YieldAt Fence.wide 1 P l (enc x b) W fun e W' => ∃ T', RK T W T' W' ∧ ((e = .returned (.bool true) ∧ J T' G (pre ++ [x]) W') ∨ (e = .returned (.bool false) ∧ Jx T' G (pre ++ [x]) W'))
theorem yfh.jp {α β : Type} {J : BS → BS → List (α × β) → World → Prop} (h : yfh J) : yfh (JP J) := fun ⟨l, hl, hj⟩ a b c => ⟨l, hl, h hj a b c⟩
theorem yfg.jp {α β : Type} {J : BS → BS → List (α × β) → World → Prop} (h : yfg J) : yfg (JP J) := fun ⟨l, hl, hj⟩ => h hj
theorem Sess.proj {P : Program} {l : Nat} {α β : Type} {enc : α → β → Array Value} {pass : α → β → FP} {Pr : List α → Prop} {J Jx : BS → BS → List (α × β) → World → Prop}
    (h : Sess P l (fun y : α × β => enc y.1 y.2) (fun y => pass y.1 y.2) (fun q => Pr (q.map Prod.fst)) J Jx) : SessP P l enc pass Pr (JP J) (JP Jx) := by
  have g1 : yfh J := h.gen
  have g2 : yfh Jx := h.genx
  have g3 : yfg J := h.two
  have g4 : yfg Jx := h.twox
  refine ⟨yfh.jp (J := J) g1, yfh.jp (J := Jx) g2, yfg.jp (J := J) g3, yfg.jp (J := Jx) g4, ?_⟩
  rintro T G pre x b W ⟨q, rfl, hj⟩ hPr hp
  refine (show YieldAt Fence.wide 1 P l (enc x b) W _ from h.yld (x := (x, b)) hj (by simpa using hPr) hp) |> fun ⟨fn, tmps, assign, body, hy, hR⟩ => ⟨fn, tmps, assign, body, hy, hR.mono ?_⟩
  rintro e W' ⟨T', hr, (⟨rfl, hj⟩ | ⟨rfl, hj⟩)⟩
  · exact ⟨T', hr, .inl ⟨rfl, _, by simp, hj⟩⟩
  · exact ⟨T', hr, .inr ⟨rfl, _, by simp, hj⟩⟩
def yg1 (P : Program) (gf : FuncId) (lb : Array Value) {α β : Type} (enc : α → β → Array Value) (pass : α → β → FP) (Pr R : List α → Prop) (T0 G0 : BS) (w : World) : Prop :=
  ∀ (l : Nat) (J Jx : BS → BS → List α → World → Prop) (T1 : BS) (w1 : World), SessP P l enc pass Pr J Jx → J T1 G0 [] w1 → Pure w w1 → (∀ k, T1 k → T0 k ∨ w.heap.size ≤ k) →
    CallsIn Fence.wide 2 P gf (#[.func (.yield l) #[] #[]] ++ lb) w1 fun e w' => (∃ v, e = .returned v) ∧ ((∃ xs T G, R xs ∧ J T G xs w') ∨ ∃ pre T G, Jx T G pre w')
theorem yg1.to {P : Program} {gf : FuncId} {lb : Array Value} {α β : Type} {enc : α → β → Array Value} {pass : α → β → FP} {Pr R : List α → Prop} {T0 G0 : BS} {w : World} (h : yg1 P gf lb enc pass Pr R T0 G0 w) :
    yg7 P gf lb (fun y : α × β => enc y.1 y.2) (fun y => pass y.1 y.2) (fun q => Pr (q.map Prod.fst)) (fun q => R (q.map Prod.fst)) T0 G0 w := by
  intro l J Jx T1 w1 hs hJ hp hT
  refine (h l (JP J) (JP Jx) T1 w1 hs.proj ⟨[], rfl, hJ⟩ hp hT).mono ?_
  rintro e w' ⟨hv, (⟨xs, T, G, hR, q, hl, hj⟩ | ⟨pre, T, G, q, hl, hj⟩)⟩
  · exact ⟨hv, .inl ⟨q, T, G, by subst hl; exact hR, hj⟩⟩
  · exact ⟨hv, .inr ⟨q, T, G, hj⟩⟩
section
variable {P : Program} {l : Nat} {α β : Type} {val : α → β → Array Value} {pass : α → β → FP} {Pr : List α → Prop} {J Jx : BS → BS → List α → World → Prop}
theorem gen_yieldP (hs : SessP P l val pass Pr J Jx) {T G : BS} {pre : List α} {x : α} {b : β} {wb w : World} {L : Hold} (hJ : J T G pre wb) (hS : Sep wb G T w L) (hPr : Pr (pre ++ [x])) (hp : (pass x b).P (Bl T L) w)
    {Rr : Ending → World → Prop} (h1 : ∀ T' W', J T' (OwnB L) (pre ++ [x]) W' → Sep W' (OwnB L) T' W' L → Rr (.returned (.bool true)) W') (h2 : ∀ T' W', Jx T' (OwnB L) (pre ++ [x]) W' → Sep W' (OwnB L) T' W' L → Rr (.returned (.bool false)) W') :
    YieldAt Fence.wide 1 P l (val x b) w Rr := by
  have hJ2 : J T (OwnB L) pre w := hs.gen hJ hS.pure (fun k ⟨i, hi⟩ => (hS.bd i k hi).elim (fun q => .inr (by have := hS.pure.size; omega)) .inl) (fun k ⟨i, hi⟩ => ((hS.ok i).lt hi).2)
  obtain ⟨fn, tmps, assign, body, hy, hR⟩ := hs.yld hJ2 hPr hp
  refine ⟨fn, tmps, assign, body, hy, hR.mono ?_⟩
  rintro e W' ⟨T', hr, (⟨rfl, hj⟩ | ⟨rfl, hj⟩)⟩
  · exact h1 T' W' hj (hS.yielded hr)
  · exact h2 T' W' hj (hS.yielded hr)
theorem gen_endP (hs : SessP P l val pass Pr J Jx) {T G : BS} {pre : List α} {wb w : World} {L : Hold} {R : List α → Prop} (hJ : J T G pre wb) (hS : Sep wb G T w L) (hR : R pre) :
    (∃ xs T G, R xs ∧ J T G xs w) ∨ ∃ pre T G, Jx T G pre w :=
  .inl ⟨pre, T, OwnB L, hR, hs.gen hJ hS.pure (fun k ⟨i, hi⟩ => (hS.bd i k hi).elim (fun q => .inr (by have := hS.pure.size; omega)) .inl) (fun k ⟨i, hi⟩ => ((hS.ok i).lt hi).2)⟩
theorem gen_endxP (hs : SessP P l val pass Pr J Jx) {T G : BS} {pre : List α} {wb w : World} {L : Hold} {R : List α → Prop} (hJ : Jx T G pre wb) (hS : Sep wb G T w L) :
    (∃ xs T G, R xs ∧ J T G xs w) ∨ ∃ pre T G, Jx T G pre w :=
  .inr ⟨pre, T, OwnB L, hs.genx hJ hS.pure (fun k ⟨i, hi⟩ => (hS.bd i k hi).elim (fun q => .inr (by have := hS.pure.size; omega)) .inl) (fun k ⟨i, hi⟩ => ((hS.ok i).lt hi).2)⟩
theorem gen_startP {T T1 G : BS} {w w1 : World} {L : Hold}
    (h : Sep w G T w L) (hs : SessP P l val pass Pr J Jx) (hJ : J T1 G [] w1) (hp : Pure w w1) (hT : ∀ k, T1 k → T k ∨ w.heap.size ≤ k) : ∃ G1, J T1 G1 [] w1 ∧ Sep w1 G1 T1 w1 L := by
  have hS := h.yielded (T' := T1) ⟨hp.mono fun k _ q => q.elim, hT, fun k hk => ((hs.two hJ).1 k hk).2⟩
  refine ⟨OwnB L, hs.gen hJ (Keeps.refl _ _) (fun k ⟨i, hi⟩ => ?_) (fun k ⟨i, hi⟩ => ((hS.ok i).lt hi).2), hS⟩
  rcases h.bd i k hi with q | q
  · have := ((h.ok i).lt hi).2; omega
  · exact .inl q
end
theorem rndS_fst {α β : Type} {l : Nat} {busy : Obj} {W : World} {S O : BS} {V : List α → List Res → Prop} {Vx : Option Nat → List α → List Res → Prop} {xs : List (α × β)} {ys : List α} (h : xs.map Prod.fst = ys) {e : Exit} {a : Act} {w : World}
    (hq : rndS l busy W S O V Vx ys e a w) : rndS l busy W S O (fun (p : List (α × β)) LL => V (p.map Prod.fst) LL) (fun c (p : List (α × β)) LL => Vx c (p.map Prod.fst) LL) xs e a w := by
  subst h
  cases e <;> exact hq
theorem yjn {P : Program} {N : Nat} {Q : Exit → Act → World → Prop} {E : Env} {ds : List Deferred} {w0 w : World} {S O : BS} {L : Hold} {t : List Item} {fo : Operand} {ps : Array Tmp} {assign body : Code} {gf : FuncId} {lb : Array Value}
    (hS : Sep w0 S O w L) (js gs : List Nat) (hj : js.Nodup) (hg : gs.Nodup) (hf : allJ (fun j => (j ∉ js) ∨ (L j).blk = none) gs)
    (hr : evE E fo = .func (.func gf) #[] lb) (he : Enters P gf) {α β : Type} {val : α → β → Array Value} {pass : α → β → FP} {Pr R : List α → Prop} (hps : ∀ x b, (val x b).size = ps.size) (hpN : ps.toList.all (fun p => Nat.blt p N) = true)
    (V : List α → List Res → Prop) (Vx : Option Nat → List α → List Res → Prop) (h0 : V [] (js.map L))
    (hgen : ∀ T G, Sep w G T w (rl (gs.map L)) → yg1 P gf lb val pass Pr R T G w)
    (hround : ∀ (l : Nat) (rdy busy : Obj) (S1 O1 : BS) (pre : List α) (x : α) (b : β) (W : World) (LL : List Res), V pre LL → Pr (pre ++ [x]) → (pass x b).P (Bl O1 (rl (LL ++ [.obj l rdy]))) W → Sep W S1 O1 W (rl (LL ++ [.obj l rdy])) →
      WT (Fence.wide.inRound l) 1 P N [.code assign] (fun e a1 W1 => e = .normal ∧ ∃ E1 L1, Rep N E1 [] a1 ∧ Sep W S1 O1 W1 L1 ∧ (∃ i, L1 i = .obj l rdy) ∧ ∀ W2, W2 = W1.putObj l busy → WT (Fence.wide.inRound l) 1 P N [.code body] (rndS l busy W S1 O1 V Vx (pre ++ [x])) E1 [] W2) (setE E (ps.toList.zip (val x b).toList)) [] W)
    (hdone : ∀ (D : Nat) (xs : List α) (W : World) (LL : List Res), R xs → V xs LL → Sep w0 S O W (rl (LL ++ [dfr D])) → WT Fence.wide 3 P N t Q E (mark D :: ds) W)
    (hstop : ∀ (D : Nat) (c : Option Nat) (xs : List α) (W : World) (LL : List Res), Vx c xs LL → Sep w0 S O W (rl (LL ++ [dfr D])) → JumpTo P N t Q E (mark D :: ds) W c) :
    WT Fence.wide 3 P N (.code (.rangeFunc fo ps assign body) :: t) Q E ds w := by
  refine wt_iterS hS js gs hj hg hf hr he (val := fun y : α × β => val y.1 y.2) (pass := fun y => pass y.1 y.2) (Pr := fun q => Pr (q.map Prod.fst)) (R := fun q => R (q.map Prod.fst)) (fun y => hps y.1 y.2) hpN (fun p LL => V (p.map Prod.fst) LL) (fun c p LL => Vx c (p.map Prod.fst) LL) h0 (fun T G hG => (hgen T G hG).to) ?_ (fun D xs W LL hR hV hs => hdone D _ W LL hR hV hs) (fun D c xs W LL hV hs => hstop D c _ W LL hV hs)
  rintro l rdy busy S1 O1 pre ⟨x, b⟩ W LL hV hPr hp hs1
  have hb := hround l rdy busy S1 O1 (pre.map Prod.fst) x b W LL hV (by simpa using hPr) hp hs1
  intro a ra bb k cs h1 h2 h3
  obtain ⟨e, a', w', ⟨rfl, E1, L1, r1, s1, hi, hq⟩, harr⟩ := hb a ra bb k cs h1 h2 h3
  refine ⟨.normal, a', w', ⟨rfl, E1, L1, r1, s1, hi, fun W2 hW2 => ?_⟩, harr⟩
  intro a2 ra2 b2 k2 cs2 g1 g2 g3
  obtain ⟨e, a3, w3, hq, harr3⟩ := hq W2 hW2 a2 ra2 b2 k2 cs2 g1 g2 g3
  exact ⟨e, a3, w3, rndS_fst (by simp) hq, harr3⟩
end Go.Proofs.Ytmeoemmemjipdaa

/- Maps' key types that are arrays of numbers. -/
namespace Go.Proofs.Ytmeoemmemjipdaa
open Go Go.RowKit Go.Shelf Go.Proofs.Try
theorem ygP : KeyT Try.prog 131 12 := keyT_arr (m := 3) (by kernel_rfl) (by decide) (of_decide_eq_true (by kernel_rfl)) (by kernel_rfl) (by kernel_rfl) underlying131 underlying3 (by kernel_rfl) (by kernel_rfl) (of_decide_eq_true (by kernel_rfl))
end Go.Proofs.Ytmeoemmemjipdaa

/- The walks of package chips and of the small library functions that the checks use: what each returns, for all arguments. -/
namespace Go.Proofs.Ytmeoemmemjipdaa
open Go.RowKit Go.Proofs.Try
set_option maxRecDepth 100000
set_option maxHeartbeats 400000
theorem int_info : (Try.prog.info? 3).map (fun i => (i.zero, i.size, i.bytes)) = some (some (.int .i64 0), 1, 8) := by kernel_rfl
def inF (k : Int) : Bool := decide (-1048576 ≤ k ∧ k ≤ 1048576)
def yeI (n : Int) : Int := if 1 ≤ n ∧ n ≤ 12 then 0 else 2
def yaD (d : List Int) (n : Int) : Int :=
  if yeI n = 0 then (if (d.length : Int) = n then (if d.all inF then 0 else 2) else 8) else 2
theorem within_any (k : Int) (w : World) :
    Calls Try.prog 95 #[.int .i64 k] w fun e w' => e = .returned (.bool (inF k)) ∧ w = w' := by
  go_enter func95, ntmps95
  go_wp2
  all_goals go_ret
  all_goals exact ⟨by simp [inF]; try omega, rfl⟩
theorem yeX (n : Int) (w : World) :
    Calls Try.prog 97 #[.int .i64 n] w fun e w' => e = .returned (.int .i64 (yeI n)) ∧ w = w' := by
  go_enter func97, ntmps97
  go_wp2
  all_goals go_ret
  all_goals exact ⟨by simp [yeI]; try omega, rfl⟩
theorem yb3 (p : Int → Bool) (d : List Int) : d.all p = true ↔ ∀ j, j < d.length → p (gi d j) = true := by
  rw [List.all_eq_true]
  constructor
  · intro h j hj; exact h _ (gi_mem hj)
  · intro h x hx
    obtain ⟨j, hj, rfl⟩ := List.getElem_of_mem hx
    rw [← ya0 hj]; exact h j hj
theorem yhb (A : Option Addr) (d : List Int) (cap : Nat) (n : Int) (w : World) (hd : Ints w A d) (hlen : d.length ≤ 1000000000) :
    Calls Try.prog 57 #[.slice A d.length cap, .int .i64 n] w fun e w' => e = .returned (.int .i64 (yaD d n)) ∧ w = w' := by
  have HD := Lib.hid hd
  clear hd
  by_cases h1 : yeI n = 0
  case neg =>
    have b1 := neT h1
    go_enter func57, ntmps57
    go_wp2_with (first | (go_at_call 97; refine (yeX _ _).mono ?_; rintro e w' ⟨rfl, rfl⟩))
    go_ret
    refine ⟨ycZ (yek ?_), rfl⟩
    rw [yaD, if_neg h1]
    unfold yeI at *; split <;> simp_all
  have b1 := neF h1
  have Hv := Lib.hid h1
  clear h1
  by_cases h2 : (d.length : Int) = n
  case neg =>
    have b2 := neT h2
    go_enter func57, ntmps57
    go_wp2_with (first | (go_at_call 97; refine (yeX _ _).mono ?_; rintro e w' ⟨rfl, rfl⟩))
    go_ret
    refine ⟨ycZ (yek ?_), rfl⟩
    rw [yaD, if_pos Hv.out, if_neg h2]
  have b2 := neF h2
  have Hn := Lib.hid h2
  clear h2
  go_enter func57, ntmps57
  go_wp2_with (first | (go_at_call 97; refine (yeX _ _).mono ?_; rintro e w' ⟨rfl, rfl⟩))
  go_loopw [19] (fun i wr => ∃ k : Nat, k ≤ d.length ∧ i = .int .i64 k ∧ Hid (∀ j, j < k → inF (gi d j) = true) ∧ Same wr w) (fun i _ => d.length - (intOf i).toNat)
  case atStart => exact ⟨0, Nat.zero_le _, rfl, fun j hj => absurd hj (by omega), .refl _⟩
  case round =>
    obtain ⟨k, hk, rfl, Hall, hw⟩ := hrel
    obtain rfl : wr = w := hw.out
    clear hw
    by_cases hlt : k < d.length
    · obtain ⟨b, off, rfl, hb, hc⟩ := HD.out (by omega)
      have hck := hc k hlt
      clear hc
      go_wp2_with (first | (go_at_call 95; refine (within_any _ _).mono ?_; rintro e w' ⟨rfl, rfl⟩))
      · go_ret
        have h3 : (!inF (gi d k)) = true := by assumption
        refine ⟨ycZ (yek ?_), rfl⟩
        rw [yaD, if_pos Hv.out, if_pos Hn.out, if_neg]
        rw [yb3]
        intro h4
        rw [h4 k hlt] at h3
        simp at h3
      · have h3 : (!inF (gi d k)) = false := by assumption
        go_roundw
        case rel =>
          refine ⟨k + 1, by omega, by go_num, ?_, .refl _⟩
          intro j hj
          by_cases e : j = k
          · subst e; simpa using h3
          · exact Hall.out j (by omega)
        case measure => simp [intOf]; omega
    · go_wp2
      go_ret
      refine ⟨ycZ (yek ?_), rfl⟩
      rw [yaD, if_pos Hv.out, if_pos Hn.out, if_pos]
      rw [yb3]
      intro j hj
      exact Hall.out j (by omega)
def cmpF (a b : Int) : Int := if a < b then -1 else if b < a then 1 else 0
theorem isNaN_any (a : Int) (w : World) : Calls Try.prog 170 #[.int .i64 a] w fun e w' => e = .returned (.bool false) ∧ w = w' := by
  go_enter func170, ntmps170
  go_wp2
  go_ret
  exact ⟨by simp, rfl⟩
theorem compare_any (a b : Int) (w : World) : Calls Try.prog 162 #[.int .i64 a, .int .i64 b] w fun e w' => e = .returned (.int .i64 (cmpF a b)) ∧ w = w' := by
  go_enter func162, ntmps162
  go_wp2_with (first | (go_at_call 170; refine (isNaN_any _ _).mono ?_; rintro e w' ⟨rfl, rfl⟩))
  all_goals go_ret
  all_goals refine ⟨ycZ (yek ?_), rfl⟩
  all_goals unfold cmpF
  all_goals (split <;> try split)
  all_goals omega
theorem vertex_any (n v : Int) (w : World) : Calls Try.prog 133 #[.int .i64 n, .int .i64 v] w fun e w' => e = .returned (.bool (decide (0 ≤ v ∧ v < n))) ∧ w = w' := by
  go_enter func133, ntmps133
  go_wp2
  all_goals go_ret
  all_goals exact ⟨by simp; try omega, rfl⟩
def orF (x y : Int) : Int := if x ≠ 0 then x else y
theorem or_two (b off : Nat) (x y : Int) (w : World) (h0 : w.cell? ⟨b, off, none⟩ = some (.int .i64 x)) (h1 : w.cell? ⟨b, off + 1, none⟩ = some (.int .i64 y)) :
    Calls Try.prog 161 #[.slice (some ⟨b, off, none⟩) 2 2] w fun e w' => e = .returned (.int .i64 (orF x y)) ∧ w = w' := by
  go_enter func161, ntmps161
  go_wp2
  refine wp_loop_rounds 3 ?_
  repeat any_goals (rw [rounds_succ]; go_wp2)
  all_goals go_ret
  all_goals refine ⟨ycZ (yek ?_), rfl⟩
  all_goals (unfold orF; simp_all)
end Go.Proofs.Ytmeoemmemjipdaa

/- The walks of the functions of package slices that the program uses, at slices of ints. -/
namespace Go.Proofs.Ytmeoemmemjipdaa
open Go.RowKit Go.Proofs.Try
set_option maxRecDepth 100000
set_option maxHeartbeats 400000
theorem own_row {w : World} {B e n : Nat} {v : Value} {xs : List Value} (h : w.ownsRow B e 1 v n xs) (hn : 0 < n) : ∃ g cap, v = .slice (some ⟨g, 0, none⟩) n cap ∧ B ≤ g ∧ Row w g e cap xs ∧ n ≤ cap ∧ cap ≤ maxLen := by
  rcases h.2 with ⟨_, h0⟩ | ⟨g, cap, cur, hv, hb, hg, hnc, hcm, hcs, htake⟩
  · omega
  · refine ⟨g, cap, hv, hb, ⟨cur, hg, by omega, ?_⟩, hnc, hcm⟩
    have := h.1
    rw [show xs.length = n * 1 by omega]
    exact htake
theorem ints_news {w : World} {b off : Nat} {xs : List Int} (h : ∀ k, k < xs.length → w.cell? ⟨b, off + k, none⟩ = some (.int .i64 (gi xs k))) : ∀ j u, (xs.map (Value.int .i64))[j]? = some u → w.cell? ((⟨b, off, none⟩ : Addr).add j) = some u := by
  intro j u hu
  have hj : j < xs.length := by
    rcases Nat.lt_or_ge j xs.length with h1 | h1
    · exact h1
    · rw [List.getElem?_eq_none (by simpa using h1)] at hu; cases hu
  rw [List.getElem?_map, List.getElem?_eq_getElem hj] at hu
  have hadd : (⟨b, off, none⟩ : Addr).add j = ⟨b, off + j, none⟩ := by unfold Addr.add; split <;> simp_all
  rw [hadd, h j hj, ya0 hj]
  exact hu
theorem ints_one (xs : List Int) : ∀ u ∈ xs.map (Value.int .i64), u.oneCell' = true := by
  intro u hu
  simp at hu
  obtain ⟨a, _, rfl⟩ := hu
  rfl
theorem clone_any (A : Option Addr) (d : List Int) (ca : Nat) (w : World) (hd : Ints w A d) (h0 : 0 < d.length) (hl : d.length ≤ 1000000000) :
    Calls Try.prog 22 #[.slice A d.length ca] w fun e w' =>
      ∃ g cap, e = .returned (.slice (some ⟨g, 0, none⟩) d.length cap) ∧ w.heap.size ≤ g ∧ IRow w' g 3 cap d ∧ Pure w w' ∧ cap ≤ maxLen := by
  obtain ⟨i0, hi, hz0, hz1, hz2⟩ := info_parts int_info
  obtain ⟨b, off, rfl, hb, hc⟩ := hd h0
  have HC := Lib.hid hc
  clear hd hc
  have hnil : ∀ wx, (binOp .eql 26 (.slice (some ⟨b, off, none⟩) d.length ca) (.slice none 0 0)).run Try.prog wx = .ok (.bool false) wx := fun wx => Lib.run_eql_slice_nil (P := Try.prog) wx 26 3 (some ⟨b, off, none⟩) d.length ca 0 0 underlying26
  have hown0 : (w.alloc (.cells #[] 3)).ownsRow w.heap.size 3 1 (.slice (some ⟨w.heap.size, 0, none⟩) 0 0) 0 [] := World.ownsRow_made w #[] 0 (Nat.le_refl _) (by unfold maxLen; omega) rfl
  have hnews := ints_news (w := w.alloc (.cells #[] 3)) (b := b) (off := off) (xs := d) (fun k hk => ((Keeps.refl (fun _ => False) w).alloc _).cell id (HC.out k hk))
  have HN := Lib.hid hnews
  clear hnews
  go_enter func22, ntmps22
  go_wp2_with (at_builtin; refine wpList_append_own _ rfl _ _ 26 rfl w.heap.size 3 i0 (.int .i64 0) 1 8 underlying26 hi hz0 hz1 hz2 rfl (by decide) _ _ _ rfl hown0 ⟨b, off, none⟩ d.length ca (d.map (Value.int .i64)) rfl (by simp) HN.out (ints_one d) (by unfold maxLen; omega) (by omega) (by simp) ?_; intro v2 w2 hown2 hgrow2 _)
  obtain ⟨g, cap, hv, hg, hr, q1, q2⟩ := own_row hown2 (by omega)
  rw [hv]
  go_wp2
  go_ret
  refine ⟨g, cap, ycZ (by simp), hg, by simpa [IRow] using hr, Keeps.grown (by repeat (first | exact Keeps.refl _ _ | assumption | refine Keeps.drew ?_ | refine Keeps.drewN ?_ _ | refine Keeps.alloc ?_ _ | refine Keeps.setRow ?_ (by simp) _ | refine Keeps.setRow ?_ (by simp; omega) _ | refine Keeps.setCell ?_ (by simp) _ | refine Keeps.setCell ?_ (by simp; omega) _)) hgrow2 (fun j e hj => ?_), by first | exact q1 | exact q2⟩
  cases e
  exact absurd hj (by simp)
end Go.Proofs.Ytmeoemmemjipdaa

/- Forests that join vertices, in plain Lean: each vertex has one of its part that is not greater. -/
namespace Go.Proofs.Ytmeoemmemjipdaa
open Go.RowKit Go.Proofs.Try
def gn (l : List Nat) (k : Nat) : Nat := l.getD k 0
theorem yfc {l : List Nat} {k : Nat} (h : k < l.length) : gn l k = l[k] := by simp [gn, h]
theorem gn_set {l : List Nat} {k j : Nat} {x : Nat} (h : k < l.length) : gn (l.set k x) j = if j = k then x else gn l j := by
  unfold gn
  simp only [List.getD_eq_getElem?_getD, List.getElem?_set]
  by_cases e : j = k
  · subst e; simp [h]
  · rw [if_neg (by omega), if_neg e]
abbrev NRow (w : World) (g : Nat) (e : TypeId) (size : Nat) (xs : List Nat) : Prop := Row w g e size (xs.map fun (n : Nat) => Value.int .i64 (Int.ofNat n))
section
variable {w : World} {g : Nat} {e : TypeId} {size : Nat}
theorem ncell {xs : List Nat} (h : NRow w g e size xs) {k : Nat} (hk : k < xs.length) : w.cell? ⟨g, k, none⟩ = some (.int .i64 (Int.ofNat (gn xs k))) :=
  Row.cell h (by rw [List.getElem?_map, List.getElem?_eq_getElem hk, yfc hk]; rfl)
theorem nset {xs : List Nat} (h : NRow w g e size xs) (k : Nat) (v : Nat) : NRow (w.setCell ⟨g, k, none⟩ (.int .i64 (Int.ofNat v))) g e size (xs.set k v) := by
  have := Row.set_ h k (.int .i64 (Int.ofNat v))
  unfold NRow; rwa [List.map_set]
end
def ydA (xs : List Nat) : List Value := xs.map fun (n : Nat) => Value.int .i64 (Int.ofNat n)
theorem ydY (xs : List Nat) : (ydA xs).length = xs.length := by simp [ydA]
theorem nvals_one (xs : List Nat) : ∀ v ∈ (ydA xs).toArray.toList, v.oneCell' = true := by
  intro v hv
  simp [ydA] at hv
  obtain ⟨a, _, rfl⟩ := hv
  rfl
theorem NRow.full {w : World} {g : Nat} {e : TypeId} {xs : List Nat} (h : NRow w g e xs.length xs) : w.heap[g]? = some (.cells (ydA xs).toArray e (0, 0)) := by
  have h' : Row w g e (ydA xs).length (ydA xs) := by rw [ydY]; exact h
  exact Row.full h'
def ycl (F : List Nat) : Prop := F.length = 12 ∧ ∀ v, v < 12 → gn F v ≤ v
def ydC (F : List Nat) : Nat → Nat → Nat
  | 0, v => v
  | k + 1, v => if gn F v = v then v else ydC F k (gn F v)
def root (F : List Nat) (v : Nat) : Nat := ydC F v v
theorem rootFuel_more {F : List Nat} (h : ycl F) : ∀ (k v j : Nat), v < 12 → v ≤ k → v ≤ j → ydC F k v = ydC F j v := by
  intro k
  induction k using Nat.strongRecOn with
  | _ k ih =>
    intro v j hv hk hj
    have hle := h.2 v hv
    cases k with
    | zero =>
      obtain rfl : v = 0 := by omega
      have h0 : gn F 0 = 0 := by omega
      cases j with
      | zero => rfl
      | succ j => simp [ydC, h0]
    | succ k =>
      cases j with
      | zero =>
        obtain rfl : v = 0 := by omega
        have h0 : gn F 0 = 0 := by omega
        simp [ydC, h0]
      | succ j =>
        simp only [ydC]
        split
        · rfl
        · exact ih k (by omega) _ j (by omega) (by omega) (by omega)
theorem yb9 {F : List Nat} {v : Nat} (h : gn F v = v) : root F v = v := by
  unfold root
  cases v with
  | zero => rfl
  | succ v => simp [ydC, h]
theorem yeu {F : List Nat} (h : ycl F) {v : Nat} (hv : v < 12) (hne : gn F v ≠ v) : root F v = root F (gn F v) := by
  have hle := h.2 v hv
  unfold root
  cases v with
  | zero => omega
  | succ v =>
    simp only [ydC]
    rw [if_neg hne]
    exact rootFuel_more h _ _ _ (by omega) (by omega) (Nat.le_refl _)
theorem yc7 {F : List Nat} (h : ycl F) : ∀ v, v < 12 → root F v ≤ v ∧ gn F (root F v) = root F v := by
  intro v
  induction v using Nat.strongRecOn with
  | _ v ih =>
    intro hv
    by_cases he : gn F v = v
    · rw [yb9 he]; exact ⟨Nat.le_refl _, he⟩
    · have hle := h.2 v hv
      rw [yeu h hv he]
      have := ih (gn F v) (by omega) (by omega)
      exact ⟨by omega, this.2⟩
theorem yeW {F : List Nat} (h : ycl F) {v : Nat} (hv : v < 12) : root F (root F v) = root F v := yb9 (yc7 h v hv).2
def yb8 (F : List Nat) (a b : Nat) : List Nat := F.set (max (root F a) (root F b)) (min (root F a) (root F b))
theorem yd2 {F : List Nat} (h : ycl F) {a b : Nat} (ha : a < 12) (hb : b < 12) : ycl (yb8 F a b) := by
  have h1 := yc7 h a ha
  have h2 := yc7 h b hb
  refine ⟨by simp [yb8, h.1], fun v hv => ?_⟩
  unfold yb8
  rw [gn_set (by rw [h.1]; omega)]
  split
  · omega
  · exact h.2 v hv
theorem yfe {F : List Nat} (h : ycl F) {a b : Nat} (ha : a < 12) (hb : b < 12) : ∀ v, v < 12 →
    root (yb8 F a b) v = if root F v = max (root F a) (root F b) then min (root F a) (root F b) else root F v := by
  have h1 := yc7 h a ha
  have h2 := yc7 h b hb
  have hJ := yd2 h ha hb
  have hg : ∀ j, gn (yb8 F a b) j = if j = max (root F a) (root F b) then min (root F a) (root F b) else gn F j := fun j => by
    unfold yb8; exact gn_set (by rw [h.1]; omega)
  have hmin : root (yb8 F a b) (min (root F a) (root F b)) = min (root F a) (root F b) := by
    apply yb9
    rw [hg]
    split
    · rfl
    · rcases Nat.le_total (root F a) (root F b) with hl | hl
      · rw [Nat.min_eq_left hl]; exact h1.2
      · rw [Nat.min_eq_right hl]; exact h2.2
  intro v
  induction v using Nat.strongRecOn with
  | _ v ih =>
    intro hv
    by_cases hM : v = max (root F a) (root F b)
    · have hrv : root F v = v := by
        apply yb9
        rw [hM]
        rcases Nat.le_total (root F a) (root F b) with hl | hl
        · rw [Nat.max_eq_right hl]; exact h2.2
        · rw [Nat.max_eq_left hl]; exact h1.2
      rw [hrv, if_pos hM]
      by_cases he : gn (yb8 F a b) v = v
      · rw [yb9 he]
        rw [hg, if_pos hM] at he
        exact he.symm
      · rw [yeu hJ hv he, hg, if_pos hM, hmin]
    · by_cases he : gn F v = v
      · have he' : gn (yb8 F a b) v = v := by rw [hg, if_neg hM]; exact he
        rw [yb9 he', yb9 he, if_neg hM]
      · have he' : gn (yb8 F a b) v ≠ v := by rw [hg, if_neg hM]; exact he
        have hle := h.2 v hv
        rw [yeu hJ hv he', yeu h hv he, hg, if_neg hM]
        exact ih _ (by omega) (by omega)
def ycR : List Nat := List.range 12
theorem yeD : ycl ycR := ⟨rfl, fun v hv => by rw [yfc (by simpa [ycR] using hv)]; simp [ycR]⟩
def yav (es : List E3) : List Nat := es.foldl (fun F x => yb8 F x.1.toNat x.2.1.toNat) ycR
def yaB (F : List Nat) : Nat → Nat
  | 0 => 0
  | n + 1 => yaB F n + if root F n = n then 1 else 0
def ycQ (es : List E3) : Prop := ∀ x, x ∈ es → 0 ≤ x.1 ∧ x.1 < 12 ∧ 0 ≤ x.2.1 ∧ x.2.1 < 12
theorem ybM (es : List E3) (h : ycQ es) : ycl (yav es) := by
  unfold yav
  suffices H : ∀ (l : List E3) (F : List Nat), (∀ x, x ∈ l → 0 ≤ x.1 ∧ x.1 < 12 ∧ 0 ≤ x.2.1 ∧ x.2.1 < 12) → ycl F → ycl (l.foldl (fun F x => yb8 F x.1.toNat x.2.1.toNat) F) from H es _ h yeD
  intro l
  induction l with
  | nil => exact fun F _ h => h
  | cons x l ih =>
    intro F hl hF
    have hx := hl x (by simp)
    exact ih _ (fun y hy => hl y (by simp [hy])) (yd2 hF (by omega) (by omega))
theorem joinedF_take (es : List E3) {k : Nat} (hk : k < es.length) : yav (es.take (k + 1)) = yb8 (yav (es.take k)) (ge es k).1.toNat (ge es k).2.1.toNat := by
  unfold yav
  rw [List.take_add_one, List.getElem?_eq_getElem hk, List.foldl_append, ycU hk]
  rfl
theorem ycQ.take {es : List E3} (h : ycQ es) (k : Nat) : ycQ (es.take k) := fun x hx => h x (List.mem_of_mem_take hx)
end Go.Proofs.Ytmeoemmemjipdaa

/- The iterator over the single edges at a vertex, and the loop that adds up what a property picks. -/
namespace Go.Proofs.Ytmeoemmemjipdaa
open Go.RowKit Go.Shelf Go.Proofs.Try
attribute [local go_sem] Oper.semAt_some
set_option maxRecDepth 100000
set_option maxHeartbeats 1000000
def link (v : Int) (x : E3) : Option (Int × Int) := if x.1 ≠ x.2.1 ∧ (x.1 = v ∨ x.2.1 = v) then some (x.1 + x.2.1 - v, x.2.2) else none
def ybT (es : List E3) (v : Int) : List (Int × Int) := es.filterMap (link v)
theorem linksF_take {es : List E3} {v : Int} {k : Nat} (hk : k < es.length) : ybT (es.take (k + 1)) v = ybT (es.take k) v ++ (link v (ge es k)).toList := by
  unfold ybT
  rw [List.take_add_one, List.getElem?_eq_getElem hk, List.filterMap_append, ycU hk]
  congr 1
def KB (K : Nat → Prop) (W W' : World) : Prop := ∀ k, K k → W'.heap[k]? = W.heap[k]?
theorem KB.refl (K : Nat → Prop) (W : World) : KB K W W := fun _ _ => rfl
theorem KB.trans {K : Nat → Prop} {A B C : World} (h : KB K A B) (k : KB K B C) : KB K A C := fun i hi => (k i hi).trans (h i hi)
theorem KB.alloc {K : Nat → Prop} {A W : World} (h : KB K A W) (hK : ∀ k, K k → k < A.heap.size) (o : Obj) : KB K A (W.alloc o) := fun i hi => by
  have h1 := h i hi
  rw [Array.getElem?_eq_getElem (hK i hi)] at h1
  rw [Below.heap_alloc W o i (Array.getElem?_eq_some_iff.1 h1).1]
  exact h i hi
theorem KB.cell {K : Nat → Prop} {W W' : World} (h : KB K W W') {p : Addr} (hp : K p.block) {v : Value} (hc : W.cell? p = some v) : W'.cell? p = some v := by
  rw [World.cell?_of_block (w := W) (h p.block hp)]; exact hc
theorem KB.put {K : Nat → Prop} {w : World} (hK : ∀ k, K k → k < w.heap.size) (W : World) (l : Nat) (o o' : Obj) (hl : w.heap.size ≤ l) (_ : W.heap[l]? = some o) (_ : o.isCells = false) (_ : o.isWalk = false) : KB K W (W.putObj l o') :=
  fun k hk => by
    have h1 := hK k hk
    exact World.putObj_heap_other (by omega)
abbrev ygB (es : List E3) (v : Int) := { p : Int × Int // ∃ x ∈ es, link v x = some p }
abbrev encL (es : List E3) (v : Int) (p : ygB es v) : Array Value := #[.int .i64 p.1.1, .int .i64 p.1.2]
theorem link_snoc {es : List E3} {v : Int} {pre : List (ygB es v)} {L : List (Int × Int)} (hp : pre.map (·.1) = L) (x : ygB es v) {e : E3} (h : link v e = some x.1) : (pre ++ [x]).map (·.1) = L ++ (link v e).toList := by
  have : (link v e).toList = [x.1] := by rw [h]; rfl
  rw [this, List.map_append, hp]; rfl
theorem links_in (n : Nat) (hn : 1 ≤ n) (l bx bv b off X : Nat) (W : World) (es : List E3) (cap : Nat) (v : Int) (A : Option Addr) (hA : 0 < es.length → A = some ⟨b, off, none⟩) (K : Nat → Prop) (hKv : K bv) (hKb : 0 < es.length → K b) (hKlt : ∀ k, K k → k < W.heap.size)
    (hE : ycQ es) (hv0 : 0 ≤ v) (hv : v < 12) (hlen : es.length ≤ 1000000000)
    (J Jx : List (ygB es v) → World → Prop) (hJ : AbidesFrom W.heap.size J)
    (hY : ∀ pre x W1, J pre W1 → pre.length < es.length → YieldAt Fence.wide (n - 1) Try.prog l (encL es v x) W1 fun e W' =>
      (e = .returned (.bool true) ∧ J (pre ++ [x]) W' ∧ KB K W1 W') ∨ (e = .returned (.bool false) ∧ Jx (pre ++ [x]) W'))
    (h0 : J [] W) (hx : W.cell? ⟨bx, 0, none⟩ = some (.pointer (some ⟨X, 0, none⟩))) (hbv : W.cell? ⟨bv, 0, none⟩ = some (.int .i64 v))
    (hX : W.cell? ⟨X, 1, none⟩ = some (.slice A es.length cap))
    (hes : ∀ k, k < es.length → W.cell? ⟨b, off + k * 3, none⟩ = some (.int .i64 (ge es k).1) ∧ W.cell? ⟨b, off + k * 3 + 1, none⟩ = some (.int .i64 (ge es k).2.1) ∧ W.cell? ⟨b, off + k * 3 + 2, none⟩ = some (.int .i64 (ge es k).2.2)) :
    CallsIn Fence.wide n Try.prog 171 #[.func (.yield l) #[] #[], .pointer (some ⟨bx, 0, none⟩), .pointer (some ⟨bv, 0, none⟩)] W fun e W' => (∃ v, e = .returned v) ∧
      ((∃ xs, (xs.map (·.1)) = ybT es v ∧ J xs W') ∨ (∃ pre, True ∧ Jx pre W')) := by
  have HES := Lib.hid hes
  have HA := Lib.hid hA
  have HEE := Lib.hid hE
  have HJ := Lib.hid hJ
  have HYY := Lib.hid hY
  clear hes hE hJ hY hA
  refine callsIn_of_wp func171 rfl trivial ?_ rfl
  simp only [ntmps171, List.size_toArray, List.length_cons, List.length_nil, Nat.reduceAdd, Nat.reduceSub, Array.replicate_succ, Array.replicate_zero, List.push_toArray, List.append_toArray, List.nil_append, List.cons_append]
  gi_wp2
  gi_loopw [13] (fun i wr => ∃ (k : Nat) (pre : List (ygB es v)), k ≤ es.length ∧ i = .int .i64 k ∧ Hid (pre.map (·.1) = ybT (es.take k) v) ∧ Hid (pre.length ≤ k) ∧ J pre wr ∧ KB K W wr) (fun i _ => es.length - (intOf i).toNat)
  case atStart => exact ⟨0, [], Nat.zero_le _, rfl, rfl, Nat.le_refl _, h0, KB.refl _ _⟩
  case round =>
    obtain ⟨k, pre, hk, rfl, hpre, hpl, hJs, hkb⟩ := hrel
    by_cases hlt : k < es.length
    · obtain rfl : A = some ⟨b, off, none⟩ := HA.out (by omega)
      obtain ⟨e0, e1, e2⟩ := HES.out k hlt
      have hKb' := hKb (by omega)
      have c0 := hkb.cell (p := ⟨b, off + k * 3, none⟩) hKb' e0
      have c1 := hkb.cell (p := ⟨b, off + k * 3 + 1, none⟩) hKb' e1
      have c2 := hkb.cell (p := ⟨b, off + k * 3 + 2, none⟩) hKb' e2
      have cv := hkb.cell (p := ⟨bv, 0, none⟩) hKv hbv
      clear e0 e1 e2
      obtain ⟨x1, x2, x3, x4⟩ := HEE.out _ (yhg hlt)
      have lb1 := block_lt_of_cell c0
      have lb2 := block_lt_of_cell cv
      have hmem := yhg hlt
      have htk := linksF_take (es := es) (v := v) hlt
      have HTK := Lib.hid htk
      have HMEM := Lib.hid hmem
      clear htk hmem
      obtain ⟨A, hA'⟩ : ∃ A, A = (ge es k).1 := ⟨_, rfl⟩
      obtain ⟨B, hB⟩ : ∃ B, B = (ge es k).2.1 := ⟨_, rfl⟩
      obtain ⟨M, hM⟩ : ∃ M, M = (ge es k).2.2 := ⟨_, rfl⟩
      have HGE : Hid (ge es k = (A, B, M)) := by rw [Hid, hA', hB, hM]
      rw [← hA'] at c0 x1 x2
      rw [← hB] at c1 x3 x4
      rw [← hM] at c2
      clear hA' hB hM
      have hJa := HJ.out pre wr (wr.alloc (.cells #[.int .i64 A, .int .i64 B, .int .i64 M] 83)) none hJs (World.grownBy_alloc wr _ none) (fun r e => by cases e)
      have hka : KB K W (wr.alloc (.cells #[.int .i64 A, .int .i64 B, .int .i64 M] 83)) := hkb.alloc hKlt _
      by_cases hab : A = B
      · have b1 := neF hab
        have HN : Hid (link v (ge es k) = none) := by rw [Hid, HGE.out]; unfold link; rw [if_neg (by simp [hab])]
        clear hab
        gi_wp2
        refine ⟨fun _ h => (by cases h), ?_⟩
        gi_wp2
        go_roundw
        case rel => exact ⟨k + 1, pre, by omega, by go_num, by rw [Hid, HTK.out, HN.out]; simp; exact hpre.out, Nat.le_succ_of_le hpl.out, hJa, hka⟩
        case measure => simp [intOf]; omega
      · have b1 := neT hab
        by_cases hav : A = v
        · have b2 := eqT hav
          have HC : Hid ((A, B, M).1 ≠ (A, B, M).2.1 ∧ ((A, B, M).1 = v ∨ (A, B, M).2.1 = v)) := ⟨hab, .inl hav⟩
          clear hab hav
          have hl : link v (A, B, M) = some (A + B - v, M) := by unfold link; rw [if_pos]; exact HC.out
          have HN : Hid (link v (ge es k) = some (A + B - v, M)) := by rw [Hid, HGE.out]; exact hl
          clear hl
          obtain ⟨fn, tmps, assign, body, hy, hR⟩ := HYY.out pre ⟨(A + B - v, M), ge es k, HMEM.out, HN.out⟩ (wr.alloc (.cells #[.int .i64 A, .int .i64 B, .int .i64 M] 83)) hJa (by have := hpl.out; omega)
          dsimp only [encL] at hy
          gi_wp2
          refine hR.mono ?_
          rintro e W3 (⟨rfl, hJ3, hk3⟩ | ⟨rfl, hJx3⟩)
          · gi_wp2
            go_roundw
            case rel => exact ⟨k + 1, _, by omega, by go_num, by rw [Hid, HTK.out]; exact link_snoc hpre.out _ HN.out, by rw [Hid, List.length_append]; exact Nat.succ_le_succ hpl.out, hJ3, hka.trans hk3⟩
            case measure => simp [intOf]; omega
          · gi_wp2
            refine bodyPost_ret (results_none rfl _ _ _) rfl ?_
            exact ⟨⟨_, rfl⟩, .inr ⟨_, trivial, hJx3⟩⟩
        · have b2 := eqF hav
          by_cases hbv' : B = v
          · have b3 := eqT hbv'
            have HC : Hid ((A, B, M).1 ≠ (A, B, M).2.1 ∧ ((A, B, M).1 = v ∨ (A, B, M).2.1 = v)) := ⟨hab, .inr hbv'⟩
            clear hab hav hbv'
            have hl : link v (A, B, M) = some (A + B - v, M) := by unfold link; rw [if_pos]; exact HC.out
            have HN : Hid (link v (ge es k) = some (A + B - v, M)) := by rw [Hid, HGE.out]; exact hl
            clear hl
            obtain ⟨fn, tmps, assign, body, hy, hR⟩ := HYY.out pre ⟨(A + B - v, M), ge es k, HMEM.out, HN.out⟩ (wr.alloc (.cells #[.int .i64 A, .int .i64 B, .int .i64 M] 83)) hJa (by have := hpl.out; omega)
            dsimp only [encL] at hy
            gi_wp2
            refine hR.mono ?_
            rintro e W3 (⟨rfl, hJ3, hk3⟩ | ⟨rfl, hJx3⟩)
            · gi_wp2
              go_roundw
              case rel => exact ⟨k + 1, _, by omega, by go_num, by rw [Hid, HTK.out]; exact link_snoc hpre.out _ HN.out, by rw [Hid, List.length_append]; exact Nat.succ_le_succ hpl.out, hJ3, hka.trans hk3⟩
              case measure => simp [intOf]; omega
            · gi_wp2
              refine bodyPost_ret (results_none rfl _ _ _) rfl ?_
              exact ⟨⟨_, rfl⟩, .inr ⟨_, trivial, hJx3⟩⟩
          · have b3 := eqF hbv'
            have HN : Hid (link v (ge es k) = none) := by rw [Hid, HGE.out]; unfold link; rw [if_neg (by simp [hav, hbv'])]
            clear hab hav hbv'
            gi_wp2
            refine ⟨fun _ h => (by cases h), ?_⟩
            gi_wp2
            go_roundw
            case rel => exact ⟨k + 1, pre, by omega, by go_num, by rw [Hid, HTK.out, HN.out]; simp; exact hpre.out, Nat.le_succ_of_le hpl.out, hJa, hka⟩
            case measure => simp [intOf]; omega
    · gi_wp2
      go_end0
      obtain rfl : k = es.length := by omega
      exact ⟨⟨_, rfl⟩, .inl ⟨pre, by rw [hpre.out, List.take_length], hJs⟩⟩
theorem links_any (X : Nat) (v : Int) (w : World) :
    Calls Try.prog 163 #[.pointer (some ⟨X, 0, none⟩), .int .i64 v] w fun e w' =>
      e = .returned (.func (.func 171) #[] #[.pointer (some ⟨w.heap.size, 0, none⟩), .pointer (some ⟨w.heap.size + 1, 0, none⟩)]) ∧
        (w.alloc (.cells #[.pointer (some ⟨X, 0, none⟩)] 146)).alloc (.cells #[.int .i64 v] 3) = w' := by
  have hmf : ∀ (fn : Fn) (first cap : Array Value) (w : World), (Instr.makeFunc fn first cap).run Try.prog w = .ok (.func fn first cap) w := fun _ _ _ _ => rfl
  go_enter func163, ntmps163
  go_wp2
  go_ret
  exact ⟨rfl, rfl⟩
end Go.Proofs.Ytmeoemmemjipdaa

/- The loop that adds up the single edges from a vertex to those with a property. -/
namespace Go.Proofs.Ytmeoemmemjipdaa
open Go.RowKit Go.Shelf Go.Proofs.Try
attribute [local go_sem] Oper.semAt_some
set_option maxRecDepth 100000
set_option maxHeartbeats 1000000
def addF (p : Int → Bool) (l : List (Int × Int)) : Int := l.foldl (fun n x => if p x.1 then n + x.2 else n) 0
def yaE (es : List E3) (v : Int) (p : Int → Bool) : Int := addF p (ybT es v)
theorem addF_snoc (p : Int → Bool) (l : List (Int × Int)) (x : Int × Int) : addF p (l ++ [x]) = if p x.1 then addF p l + x.2 else addF p l := by unfold addF; rw [List.foldl_append]; rfl
theorem addF_bound {p : Int → Bool} (l : List (Int × Int)) (h : ∀ q ∈ l, 0 ≤ q.2 ∧ q.2 ≤ 50) : 0 ≤ addF p l ∧ addF p l ≤ 50 * l.length := by
  suffices H : ∀ (l : List (Int × Int)) (a : Int), (∀ q ∈ l, 0 ≤ q.2 ∧ q.2 ≤ 50) → a ≤ l.foldl (fun n x => if p x.1 then n + x.2 else n) a ∧ l.foldl (fun n x => if p x.1 then n + x.2 else n) a ≤ a + 50 * l.length by
    have := H l 0 h
    unfold addF; omega
  intro l
  induction l with
  | nil => intro a _; simp
  | cons x l ih =>
    intro a h
    have hx := h x (by simp)
    have h1 := ih (if p x.1 then a + x.2 else a) (fun q hq => h q (by simp [hq]))
    rw [List.foldl_cons, List.length_cons]
    split at h1 <;> rename_i hp <;> simp only [hp] at h1 ⊢ <;> simp at h1 ⊢ <;> omega
theorem Row.owned {W W' : World} {row : Option Nat} {g : Nat} {e : TypeId} {size : Nat} {xs : List Value} (h : Row W g e size xs) (hg : W.grownBy W' row) (hr : ∀ r, row = some r → ∃ o : Obj, W.heap[r]? = some o ∧ o.isCells = false) : Row W' g e size xs := by
  have hlt := h.lt
  refine h.keep (hg.block g hlt (fun e' => ?_))
  obtain ⟨o, ho, hc⟩ := hr g e'.symm
  obtain ⟨cur, h1, _⟩ := h
  rw [h1] at ho
  cases ho
  simp [Obj.isCells] at hc
theorem Keeps.owned {S : Nat → Prop} {w W W' : World} {row : Option Nat} {B : Nat} (h : Keeps S w W) (hg : W.grownBy W' row) (hB : w.heap.size ≤ B) (hr : ∀ r, row = some r → B ≤ r) : Keeps S w W' :=
  h.grown hg (fun k e hk => by have := hr k e; omega)
theorem yhx (X : Nat) (A : Option Addr) (es : List E3) (cap : Nat) (v : Int) (fid : Nat) (caps : Array Value) (p : Int → Bool) (w : World)
    (hX : w.cell? ⟨X, 1, none⟩ = some (.slice A es.length cap)) (hes : ycw w A es) (hE : ycQ es) (hM : ∀ x ∈ es, 0 ≤ x.2.2 ∧ x.2.2 ≤ 50) (hv0 : 0 ≤ v) (hv : v < 12) (hlen : es.length ≤ 1000)
    (heg : ∀ args w, (callFunc fid args).run Try.prog w = .ok (.enter fid args) w)
    (hp : ∀ (u : Int) (W : World), Pure w W → (∃ m, (u, m) ∈ ybT es v) → Calls Try.prog fid (#[.int .i64 u] ++ caps) W fun e W' => e = .returned (.bool (p u)) ∧ W = W') :
    Calls Try.prog 137 #[.pointer (some ⟨X, 0, none⟩), .int .i64 v, .func (.func fid) #[] caps] w fun e w' => e = .returned (.int .i64 (yaE es v p)) ∧ Pure w w' := by
  refine (callsIn_wide (n := 3)).1 ?_
  refine callsIn_of_wp_marks func137 rfl trivial ?_ rfl
  simp only [ntmps137, List.size_toArray, List.length_cons, List.length_nil, Nat.reduceAdd, Nat.reduceSub, Array.replicate_succ, Array.replicate_zero, List.push_toArray, List.append_toArray, List.nil_append, List.cons_append]
  gi_wp2_with fail
  refine ⟨trivial, (callsIn_wide.2 (links_any _ _ _)).mono ?_⟩
  rintro e w' ⟨rfl, rfl⟩
  gi_wp2
  have HES := Lib.hid hes
  have HE := Lib.hid hE
  have HM := Lib.hid hM
  have HP := Lib.hid hp
  clear hes hE hM hp
  obtain ⟨b, off, hA, hbl, hcs⟩ : ∃ b off, (0 < es.length → A = some ⟨b, off, none⟩) ∧ (0 < es.length → b < w.heap.size) ∧ ∀ k, k < es.length → w.cell? ⟨b, off + k * 3, none⟩ = some (.int .i64 (ge es k).1) ∧ w.cell? ⟨b, off + k * 3 + 1, none⟩ = some (.int .i64 (ge es k).2.1) ∧ w.cell? ⟨b, off + k * 3 + 2, none⟩ = some (.int .i64 (ge es k).2.2) := by
    rcases Nat.eq_zero_or_pos es.length with h0 | h0
    · exact ⟨0, 0, fun h => absurd h (by omega), fun h => absurd h (by omega), fun k hk => absurd hk (by omega)⟩
    · obtain ⟨b, off, e, hb, hc⟩ := HES.out h0
      exact ⟨b, off, fun _ => e, fun _ => hb, hc⟩
  obtain ⟨W0, hW0⟩ : ∃ W0, ((((w.alloc (.cells #[.func (.func fid) #[] caps] 60)).alloc (.cells #[.int .i64 0] 3)).alloc (.cells #[.pointer (some ⟨X, 0, none⟩)] 146)).alloc (.cells #[.int .i64 v] 3)) = W0 := ⟨_, rfl⟩
  have hpu : Pure w W0 := by rw [← hW0]; exact (by repeat (first | exact Keeps.refl _ _ | assumption | refine Keeps.drew ?_ | refine Keeps.drewN ?_ _ | refine Keeps.alloc ?_ _ | refine Keeps.setRow ?_ (by simp) _ | refine Keeps.setRow ?_ (by simp; omega) _ | refine Keeps.setCell ?_ (by simp) _ | refine Keeps.setCell ?_ (by simp; omega) _))
  have hsz : W0.heap.size = w.heap.size + 4 := by rw [← hW0]; simp
  have rf : Row W0 w.heap.size 60 1 [.func (.func fid) #[] caps] := by rw [← hW0]; exact (((Row.new w #[.func (.func fid) #[] caps] 60).alloc _).alloc _).alloc _
  have rn : Row W0 (w.heap.size + 1) 3 1 [.int .i64 0] := by
    rw [← hW0]
    have := Row.new (w.alloc (.cells #[.func (.func fid) #[] caps] 60)) #[.int .i64 0] 3
    rw [World.size_alloc] at this
    exact (this.alloc _).alloc _
  have rx : Row W0 (w.heap.size + 1 + 1) 146 1 [.pointer (some ⟨X, 0, none⟩)] := by
    rw [← hW0]
    have := Row.new ((w.alloc (.cells #[.func (.func fid) #[] caps] 60)).alloc (.cells #[.int .i64 0] 3)) #[.pointer (some ⟨X, 0, none⟩)] 146
    rw [World.size_alloc, World.size_alloc] at this
    exact this.alloc _
  have rv : Row W0 (w.heap.size + 1 + 1 + 1) 3 1 [.int .i64 v] := by
    rw [← hW0]
    have := Row.new (((w.alloc (.cells #[.func (.func fid) #[] caps] 60)).alloc (.cells #[.int .i64 0] 3)).alloc (.cells #[.pointer (some ⟨X, 0, none⟩)] 146)) #[.int .i64 v] 3
    rw [World.size_alloc, World.size_alloc, World.size_alloc] at this
    exact this
  rw [hW0]
  clear hW0
  refine wpIn_rangeFunc_ownF (α := ygB es v) (encs := encL es v) (Kp := KB (fun k => k < w.heap.size ∨ k = w.heap.size + 1 + 1 + 1)) (S := fun xs => xs.map (·.1) = ybT es v) (Sp := fun _ => True) (N := es.length) (w0 := W0) rfl (by omega) (gf := 171) (lb := #[.pointer (some ⟨w.heap.size + 1 + 1, 0, none⟩), .pointer (some ⟨w.heap.size + 1 + 1 + 1, 0, none⟩)]) rfl trivial (enters_of func171 (by kernel_rfl) rfl)
    ?seq (fun h k => h.trans k) (fun W l o o' h1 h2 h3 h4 => KB.put (fun k hk => by omega) W l o o' h1 h2 h3 h4) (Below.refl _ _) (fun _ => rfl)
    (fun pre W => (Row W w.heap.size 60 1 [.func (.func fid) #[] caps] ∧ Row W (w.heap.size + 1) 3 1 [.int .i64 (addF p (pre.map (·.1)))]) ∧ Pure w W)
    (fun _ _ _ => False)
    (OwnFrom.and (Own.from (fun s A B row hs hg hr => ⟨hs.1.owned hg hr, hs.2.owned hg hr⟩) _) (fun s W W' row hs hg hr => hs.owned hg (B := W0.heap.size) (by omega) (fun r e => (hr r e).1)))
    (fun _ _ _ _ _ hs _ _ => hs)
    ⟨⟨rf, rn⟩, hpu⟩
    (fun x => { tmps := #[.pointer (some ⟨X, 0, none⟩), .int .i64 v, .func (.func fid) #[] caps, undef, undef, .pointer (some ⟨w.heap.size, 0, none⟩), .int .i64 0, .pointer (some ⟨w.heap.size + 1, 0, none⟩), .int .i64 x.1.1, .int .i64 x.1.2, .pointer (some ⟨X, 0, none⟩), .int .i64 v, .func (.func 171) #[] #[.pointer (some ⟨w.heap.size + 1 + 1, 0, none⟩), .pointer (some ⟨w.heap.size + 1 + 1 + 1, 0, none⟩)], .int .i64 x.1.1, .int .i64 x.1.2, undef, undef, undef, undef, undef, undef, undef], defers := [] }) ?assign ?body ?done ?stop
  case seq =>
    intro l J Jx W hW hJ hJx hY h0
    have hk : Pure w W := hpu.then (Keeps.of_below hW (Nat.le_refl _)) (fun _ _ h => h)
    exact links_in 2 (by omega) l (w.heap.size + 1 + 1) (w.heap.size + 1 + 1 + 1) b off X W es cap v A hA _ (.inr rfl) (fun h => .inl (hbl h)) (fun k hk' => by have := hW.size; omega) HE.out hv0 hv (by omega) J Jx hJ hY h0
      ((hW.cell (p := ⟨w.heap.size + 1 + 1, 0, none⟩) (by simp; omega)).trans (Row.cell rx (i := 0) rfl)) ((hW.cell (p := ⟨w.heap.size + 1 + 1 + 1, 0, none⟩) (by simp; omega)).trans (Row.cell rv (i := 0) rfl))
      (hk.cell id hX) (fun k hk' => ⟨hk.cell id (hcs k hk').1, hk.cell id (hcs k hk').2.1, hk.cell id (hcs k hk').2.2⟩)
  case assign =>
    intro l x W K hK
    gi_wp2
    exact hK
  case body =>
    rintro l pre x W ⟨⟨rf, rn⟩, hpu⟩ hlt
    have cf := Row.cell rf (i := 0) rfl
    have cn := Row.cell rn (i := 0) rfl
    have ff := Row.frozen rn 0
    have hx := HP.out x.1.1 W hpu (by
      obtain ⟨e, he, hl⟩ := x.2
      exact ⟨x.1.2, List.mem_filterMap.2 ⟨e, he, hl⟩⟩)
    have HB := addF_bound (p := p) (pre.map (·.1)) (by
      intro q hq
      rw [List.mem_map] at hq
      obtain ⟨y, _, rfl⟩ := hq
      obtain ⟨e, he, hl⟩ := y.2
      unfold link at hl
      split at hl
      · simp only [Option.some.injEq] at hl
        rw [← hl]; exact HM.out e he
      · cases hl)
    obtain ⟨hB1, hB2⟩ := HB
    have hlen' : (pre.map (·.1)).length ≤ 1000 := by rw [List.length_map]; omega
    have hx2 : 0 ≤ x.1.2 ∧ x.1.2 ≤ 50 := by
      obtain ⟨e, he, hl⟩ := x.2
      unfold link at hl
      split at hl
      · simp only [Option.some.injEq] at hl
        rw [← hl]; exact HM.out e he
      · cases hl
    obtain ⟨hx3, hx4⟩ := hx2
    obtain ⟨S, hS⟩ : ∃ S, S = addF p (pre.map (·.1)) := ⟨_, rfl⟩
    rw [← hS] at cn rn hB1 hB2
    have hS1 : 0 ≤ S := hB1
    have hS2 : S ≤ 50000 := by omega
    have HS : Hid (addF p ((pre ++ [x]).map (·.1)) = if p x.1.1 then S + x.1.2 else S) := by
      rw [Hid, List.map_append, hS]; exact addF_snoc p _ _
    clear hS hB2 hlen'
    by_cases hpx : p x.1.1 = true
    · gi_wp2
      refine ⟨trivial, (CallsIn.inRound l (callsIn_wide.2 hx)).mono ?_⟩
      rintro e w' ⟨rfl, rfl⟩
      rw [hpx]
      gi_wp2
      refine ⟨KeepsOthers.setCell _ _ _, fun k hk => Below.heap_setCell _ _ _ _ (by simp; omega), ⟨rf.far (by simp) _, ?_⟩, hpu.setCell (by simp) _⟩
      rw [HS.out, if_pos hpx]
      exact rn.set_ 0 _
    · have hpx' : p x.1.1 = false := by simpa using hpx
      gi_wp2
      refine ⟨trivial, (CallsIn.inRound l (callsIn_wide.2 hx)).mono ?_⟩
      rintro e w' ⟨rfl, rfl⟩
      rw [hpx']
      gi_wp2
      refine ⟨KeepsOthers.refl _, fun k hk => rfl, ⟨rf, ?_⟩, hpu⟩
      rw [HS.out, if_neg hpx]
      exact rn
  case done =>
    rintro D ys W hD hys ⟨⟨rf, rn⟩, hpu⟩ hK
    have cn := Row.cell rn (i := 0) rfl
    gi_wp2
    refine ⟨by simp, .inl ⟨_, _, rfl, run_takeDeferred hK, ?_⟩⟩
    exact ⟨_, results_tmp rfl _ _ _, by simp [yaE, ← hys], hpu.grown (grownBy_putObj' W D _) (fun k e hk => by cases e; omega)⟩
  case stop =>
    rintro D c pre W _ _ h _
    exact h.elim
theorem links_pure (X : Nat) (v : Int) (w : World) :
    Calls Try.prog 163 #[.pointer (some ⟨X, 0, none⟩), .int .i64 v] w fun e w' => ∃ bx bv, e = .returned (.func (.func 171) #[] #[.pointer (some ⟨bx, 0, none⟩), .pointer (some ⟨bv, 0, none⟩)]) ∧
      w.heap.size ≤ bx ∧ w.heap.size ≤ bv ∧ Row w' bx 146 1 [.pointer (some ⟨X, 0, none⟩)] ∧ Row w' bv 3 1 [.int .i64 v] ∧ Pure w w' := by
  refine (links_any X v w).mono ?_
  rintro e w' ⟨rfl, rfl⟩
  refine ⟨_, _, rfl, Nat.le_refl _, Nat.le_succ _, (Row.new w #[.pointer (some ⟨X, 0, none⟩)] 146).alloc _, ?_, (by repeat (first | exact Keeps.refl _ _ | assumption | refine Keeps.drew ?_ | refine Keeps.drewN ?_ _ | refine Keeps.alloc ?_ _ | refine Keeps.setRow ?_ (by simp) _ | refine Keeps.setRow ?_ (by simp; omega) _ | refine Keeps.setCell ?_ (by simp) _ | refine Keeps.setCell ?_ (by simp; omega) _))⟩
  have := Row.new (w.alloc (.cells #[.pointer (some ⟨X, 0, none⟩)] 146)) #[.int .i64 v] 3
  rw [World.size_alloc] at this
  exact this
end Go.Proofs.Ytmeoemmemjipdaa

/- The walk of reduced.begin: the state of a divisor. -/
namespace Go.Proofs.Ytmeoemmemjipdaa
open Go.RowKit Go.Proofs.Try
set_option maxRecDepth 100000
set_option maxHeartbeats 1000000
theorem make_script (n : Nat) (hn : n ≤ 1000000) (w : World) :
    (Instr.makeSlice 55 (.int .i64 (n : Int)) (.int .i64 (n : Int))).run Try.prog w = .ok (.slice (some ⟨w.heap.size, 0, none⟩) n n) (w.alloc (.cells (Array.replicate n (.int .i64 0)) 3)) := by
  obtain ⟨i0, hi, hz, hs, hb⟩ := info_parts int_info
  exact yeZ _ _ i0 _ underlying55 hi hz hs (by omega) rfl n hn w
def yed (w : World) (X gd gs : Nat) (n : Nat) (A : Option Addr) (es : List E3) (cap cd cs : Nat) (q : Int) (d s : List Int) (e : Int) : Prop :=
  Row w X 177 6 [.int .i64 (n : Int), .slice A es.length cap, .int .i64 q, .slice (some ⟨gd, 0, none⟩) d.length cd, .slice (some ⟨gs, 0, none⟩) s.length cs, .int .i64 e] ∧
    IRow w gd 3 cd d ∧ IRow w gs 3 cs s ∧ gd ≠ gs ∧ d.length = n ∧ s.length = n
def BeginPost (A : Option Addr) (es : List E3) (d : List Int) (cap n : Nat) (q : Int) (w : World) (e : Ending) (w' : World) : Prop :=
  ∃ X gd gs cd, e = .returned (.pointer (some ⟨X, 0, none⟩)) ∧ w.heap.size ≤ X ∧ w.heap.size ≤ gd ∧ w.heap.size ≤ gs ∧ yed w' X gd gs n A es cap cd n q d (List.replicate n 0) 0 ∧ Pure w w' ∧ cd ≤ maxLen
theorem yhf (A D : Option Addr) (es : List E3) (d : List Int) (cap ca : Nat) (n : Nat) (q : Int) (w : World) (hd : Ints w D d) (hdl : d.length = n) (hn : 1 ≤ n) (hn12 : n ≤ 12) :
    Calls Try.prog 106 #[.agg #[.int .i64 (n : Int), .slice A es.length cap], .int .i64 q, .slice D d.length ca] w (BeginPost A es d cap n q w) := by
  have hmk := make_script n (by omega)
  have HL := Lib.hid hdl
  have hl1 : 0 < d.length := by omega
  have hl2 : d.length ≤ 12 := by omega
  clear hdl
  have hD := Lib.hid hd
  clear hd
  go_enter func106, ntmps106
  go_wp2
  go_region_held3 (fun w' => w'.cell? ⟨w.heap.size, 0, none⟩ = some (.int .i64 (n : Int)) ∧ w'.cell? ⟨w.heap.size, 1, none⟩ = some (.slice A es.length cap))
    (first
      | go_keep
      | (go_split_ands
         exact ⟨hp1.cell id (by assumption), hp1.cell id (by assumption)⟩)
      | (go_split_ands
         exact ⟨hp1.cell id (by simp [go_sem, World.cell?_alloc_past]), hp1.cell id (by simp [go_sem, World.cell?_alloc_past])⟩))
    ((first | (go_at_call 22; refine (clone_any D d ca _ (by exact hD.out.keep (by repeat (first | exact Keeps.refl _ _ | assumption | refine Keeps.drew ?_ | refine Keeps.drewN ?_ _ | refine Keeps.alloc ?_ _ | refine Keeps.setRow ?_ (by simp) _ | refine Keeps.setRow ?_ (by simp; omega) _ | refine Keeps.setCell ?_ (by simp) _ | refine Keeps.setCell ?_ (by simp; omega) _))) hl1 (by omega)).mono ?_; rintro e w1 ⟨gd, cd, rfl, hgd, hrd, hp1, hcm⟩)))
  · have hX := Row.new (w1.alloc (.cells (Array.replicate n (.int .i64 0)) 3)) #[.int .i64 (n : Int), .slice A es.length cap, .int .i64 q, .slice (some ⟨gd, 0, none⟩) d.length cd, .slice (some ⟨w1.heap.size, 0, none⟩) n n, .int .i64 0] 177
    have hs := Row.alloc (irow_made w1 n 3) (.cells #[.int .i64 (n : Int), .slice A es.length cap, .int .i64 q, .slice (some ⟨gd, 0, none⟩) d.length cd, .slice (some ⟨w1.heap.size, 0, none⟩) n n, .int .i64 0] 177)
    have hdd := Row.alloc (Row.alloc hrd (.cells (Array.replicate n (.int .i64 0)) 3)) (.cells #[.int .i64 (n : Int), .slice A es.length cap, .int .i64 q, .slice (some ⟨gd, 0, none⟩) d.length cd, .slice (some ⟨w1.heap.size, 0, none⟩) n n, .int .i64 0] 177)
    have hlt := Row.lt hrd
    have hsz := hp1.size
    have hpw : Pure w w1 := Pure.after (by repeat (first | exact Keeps.refl _ _ | assumption | refine Keeps.drew ?_ | refine Keeps.drewN ?_ _ | refine Keeps.alloc ?_ _ | refine Keeps.setRow ?_ (by simp) _ | refine Keeps.setRow ?_ (by simp; omega) _ | refine Keeps.setCell ?_ (by simp) _ | refine Keeps.setCell ?_ (by simp; omega) _)) hp1
    rw [World.size_alloc] at hX
    simp only [World.size_alloc, World.size_drew] at hgd hsz
    go_wp2
    go_ret
    refine ⟨_, gd, w1.heap.size, cd, rfl, by omega, by omega, by omega, ⟨?_, hdd, hs, by omega, HL.out, by simp⟩, (by repeat (first | exact Keeps.refl _ _ | assumption | refine Keeps.drew ?_ | refine Keeps.drewN ?_ _ | refine Keeps.alloc ?_ _ | refine Keeps.setRow ?_ (by simp) _ | refine Keeps.setRow ?_ (by simp; omega) _ | refine Keeps.setCell ?_ (by simp) _ | refine Keeps.setCell ?_ (by simp; omega) _)), hcm⟩
    rw [List.length_replicate]
    exact hX
  · have hs0 := hp1.row (Row.drew (irow_made (w.alloc (.cells #[.int .i64 (n : Int), .slice A es.length cap] 24)) n 3)) id
    have hX := Row.new w1 #[.int .i64 (n : Int), .slice A es.length cap, .int .i64 q, .slice (some ⟨gd, 0, none⟩) d.length cd, .slice (some ⟨w.heap.size + 1, 0, none⟩) n n, .int .i64 0] 177
    have hs := Row.alloc hs0 (.cells #[.int .i64 (n : Int), .slice A es.length cap, .int .i64 q, .slice (some ⟨gd, 0, none⟩) d.length cd, .slice (some ⟨w.heap.size + 1, 0, none⟩) n n, .int .i64 0] 177)
    have hdd := Row.alloc hrd (.cells #[.int .i64 (n : Int), .slice A es.length cap, .int .i64 q, .slice (some ⟨gd, 0, none⟩) d.length cd, .slice (some ⟨w.heap.size + 1, 0, none⟩) n n, .int .i64 0] 177)
    have hlt := Row.lt hrd
    have hsz := hp1.size
    have hpw : Pure w w1 := Pure.after (by repeat (first | exact Keeps.refl _ _ | assumption | refine Keeps.drew ?_ | refine Keeps.drewN ?_ _ | refine Keeps.alloc ?_ _ | refine Keeps.setRow ?_ (by simp) _ | refine Keeps.setRow ?_ (by simp; omega) _ | refine Keeps.setCell ?_ (by simp) _ | refine Keeps.setCell ?_ (by simp; omega) _)) hp1
    simp only [World.size_alloc, World.size_drew] at hgd hsz hs
    go_wp2
    go_ret
    refine ⟨_, gd, w.heap.size + 1, cd, rfl, by omega, by omega, by omega, ⟨?_, hdd, hs, by omega, HL.out, by simp⟩, (by repeat (first | exact Keeps.refl _ _ | assumption | refine Keeps.drew ?_ | refine Keeps.drewN ?_ _ | refine Keeps.alloc ?_ _ | refine Keeps.setRow ?_ (by simp) _ | refine Keeps.setRow ?_ (by simp; omega) _ | refine Keeps.setCell ?_ (by simp) _ | refine Keeps.setCell ?_ (by simp; omega) _)), hcm⟩
    rw [List.length_replicate]
    exact hX
end Go.Proofs.Ytmeoemmemjipdaa

/- The walk of the fire that starts at q: the unburnt vertices of a state. -/
namespace Go.Proofs.Ytmeoemmemjipdaa
open Go.RowKit Go.Proofs.Try
set_option maxRecDepth 100000
set_option maxHeartbeats 4000000
theorem bool_info : (Try.prog.info? 4).map (fun i => (i.zero, i.size, i.bytes)) = some (some (.bool false), 1, 1) := by kernel_rfl
theorem make_bools (n : Nat) (hn : n ≤ 1000000) (w : World) :
    (Instr.makeSlice 144 (.int .i64 (n : Int)) (.int .i64 (n : Int))).run Try.prog w = .ok (.slice (some ⟨w.heap.size, 0, none⟩) n n) (w.alloc (.cells (Array.replicate n (.bool false)) 4)) := by
  obtain ⟨i0, hi, hz, hs, hb⟩ := info_parts bool_info
  exact yeZ _ _ i0 _ underlying144 hi hz hs (by omega) rfl n hn w
theorem isBurnt_any (B g n c : Nat) (burnt : List Bool) (u : Nat) (w : World) (hB : Row w B 144 1 [.slice (some ⟨g, 0, none⟩) n c]) (hg : BRow w g 4 c burnt) (hl : burnt.length = n) (hu : u < n) :
    Calls Try.prog 136 #[.int .i64 (u : Int), .pointer (some ⟨B, 0, none⟩)] w fun e w' => e = .returned (.bool (gb burnt u)) ∧ w = w' := by
  have c0 := Row.cell hB (i := 0) rfl
  have c1 := bcell hg (k := u) (by omega)
  have j1 : (0 : Int) ≤ (u : Int) := by omega
  have j2 : (u : Int) < (n : Int) := by omega
  clear hl
  go_enter func136, ntmps136
  go_wp2
  go_ret
  exact ⟨rfl, rfl⟩
def cf (b : List Bool) : Nat := (b.filter fun x => !x).length
theorem cf_set {b : List Bool} {v : Nat} (h : v < b.length) (hv : gb b v = false) : cf (b.set v true) + 1 = cf b := by
  unfold cf
  induction b generalizing v with
  | nil => simp at h
  | cons x b ih =>
    cases v with
    | zero =>
      simp [gb] at hv
      subst hv
      simp
    | succ v =>
      have := ih (v := v) (by simpa using h) (by simpa [gb] using hv)
      simp only [List.set_cons_succ, List.filter_cons]
      split
      · simp only [List.length_cons]; omega
      · omega
def Closed (n : Nat) (es : List E3) (d : List Int) (b : List Bool) : Prop := ∀ v, v < n → gb b v = false → yaE es (v : Int) (fun u => gb b u.toNat) ≤ gi d v
def ygr (n : Nat) (es : List E3) (q : Nat) (d : List Int) (b : List Bool) : Prop :=
  ∀ S : Nat → Bool, S q = false → (∀ v, v < n → S v = true → yaE es (v : Int) (fun u => !S u.toNat) ≤ gi d v) → ∀ v, v < n → S v = true → gb b v = false
theorem addF_mono {p p' : Int → Bool} (l : List (Int × Int)) (h : ∀ q ∈ l, 0 ≤ q.2) (hpp : ∀ q ∈ l, p q.1 = true → p' q.1 = true) : addF p l ≤ addF p' l := by
  suffices H : ∀ (l : List (Int × Int)) (a a' : Int), (∀ q ∈ l, 0 ≤ q.2) → (∀ q ∈ l, p q.1 = true → p' q.1 = true) → a ≤ a' → l.foldl (fun n x => if p x.1 then n + x.2 else n) a ≤ l.foldl (fun n x => if p' x.1 then n + x.2 else n) a' from H l 0 0 h hpp (Int.le_refl _)
  intro l
  induction l with
  | nil => intro a a' _ _ h; exact h
  | cons x l ih =>
    intro a a' h hpp hle
    rw [List.foldl_cons, List.foldl_cons]
    refine ih _ _ (fun q hq => h q (by simp [hq])) (fun q hq => hpp q (by simp [hq])) ?_
    have h0 := h x (by simp)
    have h1 := hpp x (by simp)
    by_cases hp : p x.1 = true
    · rw [if_pos hp, if_pos (h1 hp)]; omega
    · rw [if_neg hp]; split <;> omega
theorem ybC {es : List E3} {n : Nat} (hE : ∀ x ∈ es, 0 ≤ x.1 ∧ x.1 < n ∧ 0 ≤ x.2.1 ∧ x.2.1 < n ∧ 0 ≤ x.2.2 ∧ x.2.2 ≤ 50) {v u m : Int} (h : (u, m) ∈ ybT es v) : 0 ≤ u ∧ u < n ∧ 0 ≤ m ∧ m ≤ 50 := by
  obtain ⟨x, hx, hl⟩ := List.mem_filterMap.1 h
  have h1 := hE x hx
  unfold link at hl
  split at hl
  · simp only [Option.some.injEq, Prod.mk.injEq] at hl
    omega
  · cases hl
theorem ygr.step {n : Nat} {es : List E3} {q : Nat} {d : List Int} {b : List Bool} (h : ygr n es q d b) (hE : ∀ x ∈ es, 0 ≤ x.1 ∧ x.1 < n ∧ 0 ≤ x.2.1 ∧ x.2.1 < n ∧ 0 ≤ x.2.2 ∧ x.2.2 ≤ 50) {v : Nat} (hv : v < b.length) (hc : gi d v < yaE es (v : Int) (fun u => gb b u.toNat)) : ygr n es q d (b.set v true) := by
  intro S hq hS u hu hSu
  rw [ydx hv]
  by_cases e : u = v
  · subst e
    exfalso
    have h1 := hS u hu hSu
    have h2 : yaE es (u : Int) (fun x => gb b x.toNat) ≤ yaE es (u : Int) (fun x => !S x.toNat) := by
      unfold yaE
      refine addF_mono _ (fun q hq => (ybC hE (v := (u : Int)) (u := q.1) (m := q.2) hq).2.2.1) (fun y hy hb => ?_)
      have hr := ybC hE (v := (u : Int)) (u := y.1) (m := y.2) hy
      cases hs : S y.1.toNat with
      | false => rfl
      | true =>
        have := h S hq hS y.1.toNat (by omega) hs
        simp only [this] at hb
        cases hb
    omega
  · rw [if_neg e]
    exact h S hq hS u hu hSu
def UnburntPost (n : Nat) (es : List E3) (q : Nat) (d : List Int) (w : World) (e : Ending) (w' : World) : Prop :=
  ∃ g left, e = .returned (.tuple #[.slice (some ⟨g, 0, none⟩) n n, .bool (left.any id)]) ∧ w.heap.size ≤ g ∧ BRow w' g 4 n left ∧ left.length = n ∧ Pure w w' ∧
    ∃ burnt : List Bool, burnt.length = n ∧ left = burnt.map (!·) ∧ gb burnt q = true ∧ Closed n es d burnt ∧ ygr n es q d burnt
theorem yhz (X gd gs n : Nat) (A : Option Addr) (es : List E3) (cap cdd cs q : Nat) (d s : List Int) (e : Int) (w : World) (hS : yed w X gd gs n A es cap cdd cs q d s e) (hes : ycw w A es)
    (hq : q < n) (hn : n ≤ 12) (hE : ∀ x ∈ es, 0 ≤ x.1 ∧ x.1 < n ∧ 0 ≤ x.2.1 ∧ x.2.1 < n ∧ 0 ≤ x.2.2 ∧ x.2.2 ≤ 50) (hel : es.length ≤ 1000) :
    Calls Try.prog 107 #[.pointer (some ⟨X, 0, none⟩)] w (UnburntPost n es q d w) := by
  obtain ⟨hX, hd, hs, hne, hdl, hsl⟩ := hS
  have hmf : ∀ (fn : Fn) (first cap : Array Value) (w : World), (Instr.makeFunc fn first cap).run Try.prog w = .ok (.func fn first cap) w := fun _ _ _ _ => rfl
  have hmk := make_bools n (by omega)
  have HL := Lib.hid (And.intro hdl hsl)
  have HE := Lib.hid hE
  have HES := Lib.hid hes
  clear hdl hsl hE hes
  have x0 := Row.cell hX (i := 0) rfl
  have x2 := Row.cell hX (i := 2) rfl
  have lX := hX.lt
  have jq1 : (0 : Int) ≤ (q : Int) := by omega
  have jq2 : (q : Int) < (n : Int) := by omega
  go_enter func107, ntmps107
  go_wp2
  go_region
  obtain ⟨W1, hW1⟩ : ∃ W1, ((w.alloc (.cells ((Array.replicate n (.bool false)).setIfInBounds q (.bool true)) 4)).alloc (.cells #[.slice (some ⟨w.heap.size, 0, none⟩) n n] 144)).drew = W1 := ⟨_, rfl⟩
  have rb1 : BRow W1 w.heap.size 4 n ((List.replicate n false).set q true) := by
    rw [← hW1]
    have := Row.alloc (Row.new w ((Array.replicate n (Value.bool false)).setIfInBounds q (.bool true)) 4) (.cells #[.slice (some ⟨w.heap.size, 0, none⟩) n n] 144)
    simp only [Array.size_setIfInBounds, Array.size_replicate, Array.toList_setIfInBounds, Array.toList_replicate] at this
    unfold BRow
    rw [List.map_set, List.map_replicate]
    exact this
  have rB1 : Row W1 (w.heap.size + 1) 144 1 [.slice (some ⟨w.heap.size, 0, none⟩) n n] := by
    rw [← hW1]
    have := Row.new (w.alloc (.cells ((Array.replicate n (Value.bool false)).setIfInBounds q (.bool true)) 4)) #[.slice (some ⟨w.heap.size, 0, none⟩) n n] 144
    rw [World.size_alloc] at this
    exact this
  have p1 : Pure w W1 := by rw [← hW1]; exact (by repeat (first | exact Keeps.refl _ _ | assumption | refine Keeps.drew ?_ | refine Keeps.drewN ?_ _ | refine Keeps.alloc ?_ _ | refine Keeps.setRow ?_ (by simp) _ | refine Keeps.setRow ?_ (by simp; omega) _ | refine Keeps.setCell ?_ (by simp) _ | refine Keeps.setCell ?_ (by simp; omega) _))
  rw [hW1]
  clear hW1 x0 x2
  go_wp2
  have hb0 : Hid (((List.replicate n false).set q true).length = n ∧ gb ((List.replicate n false).set q true) q = true ∧ ygr n es q d ((List.replicate n false).set q true)) := by
    refine ⟨by simp, by rw [ydx (by simpa using hq), if_pos rfl], fun S hSq hS v hv hSv => ?_⟩
    rw [ydx (by simpa using hq)]
    split
    · rename_i e; subst e; rw [hSq] at hSv; cases hSv
    · simp [gb, hv]
  go_loopg [6] (2 * n + 2) (fun m again wr => ∃ (ag : Bool) (b : List Bool), again = .bool ag ∧ BRow wr w.heap.size 4 n b ∧ Row wr (w.heap.size + 1) 144 1 [.slice (some ⟨w.heap.size, 0, none⟩) n n] ∧ Pure w wr ∧ Hid (b.length = n ∧ gb b q = true ∧ ygr n es q d b) ∧ Hid (ag = false → Closed n es d b) ∧ Hid (2 * cf b + (if ag then 1 else 0) ≤ m))
  case atStart => exact ⟨true, _, rfl, rb1, rB1, p1, hb0, (fun h => by cases h), by
    have : cf ((List.replicate n false).set q true) ≤ n := by
      unfold cf
      have := List.length_filter_le (fun x => !x) ((List.replicate n false).set q true)
      simpa using this
    simp only [Hid]; simp; omega⟩
  clear rb1 rB1 p1 hb0
  case round =>
    obtain ⟨ag, b, rfl, rb, rB, hp, HI, HC, HM⟩ := hrel
    cases ag with
    | false =>
      have cB := Row.cell rB (i := 0) rfl
      have hXr := hp.row hX id
      have x0 := Row.cell hXr (i := 0) rfl
      have lX := hXr.lt
      have lb := Row.lt rb
      have lB := rB.lt
      go_wp2
      obtain ⟨g2, hg2⟩ : ∃ g2, wr.heap.size = g2 := ⟨_, rfl⟩
      have hl0 := brow_made wr n 4
      have rb2 := Row.alloc rb (.cells (Array.replicate n (.bool false)) 4)
      have rB2 := rB.alloc (.cells (Array.replicate n (.bool false)) 4)
      have p2 : Pure w (wr.alloc (.cells (Array.replicate n (.bool false)) 4)) := hp.alloc _
      have hgl : w.heap.size + 1 < g2 := by omega
      rw [hg2] at hl0 ⊢
      clear x0 cB hXr lX lb lB
      go_loopw [9, 64] (fun sm i wr2 => ∃ (k : Nat) (so : Bool) (left : List Bool), k ≤ n ∧ i = .int .i64 k ∧ sm = .bool so ∧ BRow wr2 g2 4 n left ∧ BRow wr2 w.heap.size 4 n b ∧ Row wr2 (w.heap.size + 1) 144 1 [.slice (some ⟨w.heap.size, 0, none⟩) n n] ∧ Pure w wr2 ∧ Hid (left.length = n ∧ ∀ j, j < k → gb left j = !gb b j) ∧ Hid (so = true ↔ ∃ j, j < k ∧ gb b j = false)) (fun _ i _ => n - (intOf i).toNat)
      case atStart => exact ⟨0, false, List.replicate n false, Nat.zero_le _, rfl, rfl, hl0, rb2, rB2, p2, ⟨by simp, fun j hj => absurd hj (by omega)⟩, by simp [Hid]⟩
      clear hl0 rb2 rB2 p2 hg2
      case round =>
        obtain ⟨k, so, left, hk, rfl, rfl, rl, rb, rB, hp, HLF, HSO⟩ := hrel
        by_cases hlt : k < n
        · have cB := Row.cell rB (i := 0) rfl
          have cb := bcell rb (k := k) (by rw [HI.out.1]; exact hlt)
          have cl := bcell rl (k := k) (by rw [HLF.out.1]; exact hlt)
          have fl := Row.frozen rl k
          have cl2 := bcell (bset rl k (!gb b k)) (k := k) (by rw [List.length_set, HLF.out.1]; exact hlt)
          rw [ydx (by rw [HLF.out.1]; exact hlt), if_pos rfl] at cl2
          have j1 : (0 : Int) ≤ (k : Int) := by omega
          have j2 : (k : Int) < (n : Int) := by omega
          have hstep : Hid ((left.set k (!gb b k)).length = n ∧ ∀ j, j < k + 1 → gb (left.set k (!gb b k)) j = !gb b j) := by
            refine ⟨by simpa using HLF.out.1, fun j hj => ?_⟩
            rw [ydx (by rw [HLF.out.1]; exact hlt)]
            split
            · rename_i e; rw [e]
            · exact HLF.out.2 j (by omega)
          have hso1 : Hid ((so || !gb b k) = true ↔ ∃ j, j < k + 1 ∧ gb b j = false) := by
            rw [Hid, Bool.or_eq_true, HSO.out]
            constructor
            · rintro (⟨j, hj, hjb⟩ | h)
              · exact ⟨j, by omega, hjb⟩
              · exact ⟨k, by omega, by simpa using h⟩
            · rintro ⟨j, hj, hjb⟩
              by_cases e : j = k
              · subst e; exact .inr (by simp [hjb])
              · exact .inl ⟨j, by omega, hjb⟩
          obtain ⟨bk, hbk⟩ : ∃ bk, bk = gb b k := ⟨_, rfl⟩
          rw [← hbk] at cb cl2 hstep hso1
          clear hbk
          cases so with
          | true =>
            go_wp2
            go_roundw
            case rel => exact ⟨k + 1, true, _, by omega, by go_num, rfl, bset rl k (!bk), Row.far rb (by simp; omega) _, rB.far (by simp; omega) _, hp.setCell (fun h => absurd h (by simp; omega)) _, hstep, hso1⟩
            case measure => simp [intOf]; omega
          | false =>
            go_wp2
            go_roundw
            case rel => exact ⟨k + 1, !bk, _, by omega, by go_num, rfl, bset rl k (!bk), Row.far rb (by simp; omega) _, rB.far (by simp; omega) _, hp.setCell (fun h => absurd h (by simp; omega)) _, hstep, hso1⟩
            case measure => simp [intOf]; omega
        · obtain rfl : k = n := by omega
          go_wp2
          go_ret2
          have hle : left = b.map (!·) := by
            refine gb_ext (by rw [HLF.out.1, List.length_map, HI.out.1]) (fun j hj => ?_)
            rw [HLF.out.1] at hj
            rw [HLF.out.2 j hj]
            have h1 : j < b.length := by rw [HI.out.1]; exact hj
            have h2 : j < (b.map (!·)).length := by rw [List.length_map]; exact h1
            rw [ybK h2, List.getElem_map, ybK h1]
          have hso : so = left.any id := by
            rw [Bool.eq_iff_iff, HSO.out, List.any_eq_true]
            constructor
            · rintro ⟨j, hj, hjb⟩
              refine ⟨gb left j, ?_, by rw [HLF.out.2 j hj, hjb]; rfl⟩
              rw [ybK (by rw [HLF.out.1]; exact hj)]; exact List.getElem_mem _
            · rintro ⟨x, hx, hxt⟩
              obtain ⟨j, hj, rfl⟩ := List.getElem_of_mem hx
              have hj' : j < k := by rw [← HLF.out.1]; exact hj
              refine ⟨j, hj', ?_⟩
              have := HLF.out.2 j hj'
              rw [ybK hj] at this
              simp only [id] at hxt
              rw [hxt] at this
              simpa using this.symm
          exact ⟨g2, left, by rw [← hso]; rfl, by omega, rl, HLF.out.1, hp, b, HI.out.1, hle, HI.out.2.1, HC.out trivial, HI.out.2.2⟩
    | true =>
      have hXr := hp.row hX id
      have x0 := Row.cell hXr (i := 0) rfl
      go_wp2
      obtain ⟨wo, rfl⟩ : ∃ wo : World, wo = wr := ⟨_, rfl⟩
      go_loopw [6, 30] (fun again i wr => ∃ (k : Nat) (ag : Bool) (b' : List Bool), k ≤ n ∧ i = .int .i64 k ∧ again = .bool ag ∧ BRow wr w.heap.size 4 n b' ∧ Row wr (w.heap.size + 1) 144 1 [.slice (some ⟨w.heap.size, 0, none⟩) n n] ∧ Pure w wr ∧ Hid (b'.length = n ∧ gb b' q = true ∧ ygr n es q d b') ∧ Hid (ag = false → b' = b ∧ ∀ v, v < k → gb b v = false → yaE es (v : Int) (fun u => gb b u.toNat) ≤ gi d v) ∧ Hid (cf b' + (if ag then 1 else 0) ≤ cf b)) (fun _ i _ => n - (intOf i).toNat)
      case atStart => exact ⟨0, false, b, Nat.zero_le _, rfl, rfl, rb, rB, hp, HI, fun _ => ⟨rfl, fun v hv => absurd hv (by omega)⟩, by simp [Hid]⟩
      case round =>
        obtain ⟨k, ag, b', hk, rfl, rfl, rb', rB', hp', HI', HA, HM'⟩ := hrel
        by_cases hlt : k < n
        · have cB := Row.cell rB' (i := 0) rfl
          have cb := bcell rb' (k := k) (by rw [HI'.out.1]; exact hlt)
          have hXr := hp'.row hX id
          have hdr := hp'.row hd id
          have x3 := Row.cell hXr (i := 3) rfl
          have cd := icell hdr (k := k) (by rw [HL.out.1]; exact hlt)
          have j1 : (0 : Int) ≤ (k : Int) := by omega
          have j2 : (k : Int) < (n : Int) := by omega
          have j3 : (k : Int) < (d.length : Int) := by rw [HL.out.1]; exact j2
          by_cases hb : gb b' k = true
          · rw [hb] at cb
            have HB := Lib.hid hb
            clear hb
            go_wp2
            go_region
            go_wp2
            go_roundw
            case rel =>
              refine ⟨k + 1, ag, b', by omega, by go_num, rfl, rb', rB', hp'.drew, HI', ?_, HM'⟩
              intro hag
              obtain ⟨e1, e2⟩ := HA.out hag
              refine ⟨e1, fun v hv hvb => ?_⟩
              by_cases e : v = k
              · subst e; rw [← e1, HB.out] at hvb; cases hvb
              · exact e2 v (by omega) hvb
            case measure => simp [intOf]; omega
          · have hb' : gb b' k = false := by simpa using hb
            rw [hb'] at cb
            have HB := Lib.hid hb'
            clear hb hb'
            obtain ⟨J, hJ⟩ : ∃ J, J = yaE es (k : Int) (fun u => gb b' u.toNat) := ⟨_, rfl⟩
            have hcall : ∀ W, Pure wr W → Calls Try.prog 137 #[.pointer (some ⟨X, 0, none⟩), .int .i64 (k : Int), .func (.func 136) #[] #[.pointer (some ⟨w.heap.size + 1, 0, none⟩)]] W fun e w' => e = .returned (.int .i64 J) ∧ Pure W w' := by
              intro W hpW
              rw [hJ]
              have hpWw : Pure w W := hp'.trans hpW
              refine yhx X A es cap (k : Int) 136 #[.pointer (some ⟨w.heap.size + 1, 0, none⟩)] (fun u => gb b' u.toNat) W (hpW.cell id (Row.cell hXr (i := 1) rfl)) (HES.out.keep hpWw) (fun x hx => by have := HE.out x hx; omega) (fun x hx => by have := HE.out x hx; omega) j1 (by omega) hel (enters_of func136 (by kernel_rfl) rfl) ?_
              rintro u W2 hp2 ⟨m, hm⟩
              obtain ⟨u1, u2, _, _⟩ := ybC HE.out hm
              have := isBurnt_any (w.heap.size + 1) w.heap.size n n b' u.toNat W2 ((hpW.trans hp2).row rB' id) ((hpW.trans hp2).row rb' id) HI'.out.1 (by omega)
              rw [Int.toNat_of_nonneg u1] at this
              exact this
            have HJ := Lib.hid hJ
            have HCA := Lib.hid hcall
            clear hJ hcall
            have fB := bset rb' k true
            by_cases hlt2 : gi d k < J
            · have t1 : decide (gi d k < J) = true := by simpa using hlt2
              go_wp2
              go_region_held3 (fun w' => w'.cell? ⟨w.heap.size + 1, 0, none⟩ = some (.slice (some ⟨w.heap.size, 0, none⟩) n n) ∧ w'.cell? ⟨w.heap.size, k, none⟩ = some (.bool false) ∧ w'.cell? ⟨X, 3, none⟩ = some (.slice (some ⟨gd, 0, none⟩) d.length cdd) ∧ w'.cell? ⟨gd, k, none⟩ = some (.int .i64 (gi d k)))
                (first
                  | go_keep
                  | (go_split_ands
                     exact ⟨hp1.cell id (by assumption), hp1.cell id (by assumption), hp1.cell id (by assumption), hp1.cell id (by assumption)⟩))
                ((first | (go_at_call 137; refine (HCA.out _ (by exact (Keeps.refl _ _).drew)).mono ?_; rintro e w1 ⟨rfl, hp1⟩)))
              have rb1 := hp1.row (Row.drew rb') id
              have rB1 := hp1.row (Row.drew rB') id
              have p1 : Pure w w1 := Pure.after hp'.drew hp1
              have cB1 := Row.cell rB1 (i := 0) rfl
              have cb1 := bcell rb1 (k := k) (by rw [HI'.out.1]; exact hlt)
              have fb1 := Row.frozen rb1 k
              have HP1 := Lib.hid hp1
              clear hp1 cB cb
              go_wp2
              go_roundw
              case rel =>
                refine ⟨k + 1, true, b'.set k true, by omega, by go_num, rfl, bset rb1 k true, rB1.far (by simp) _, p1.setCell (fun h => absurd h (by simp)) _, ⟨by simpa using HI'.out.1, ?_, HI'.out.2.2.step HE.out (by rw [HI'.out.1]; exact hlt) (by rw [← HJ.out]; exact hlt2)⟩, (fun h => by cases h), ?_⟩
                · rw [ydx (by rw [HI'.out.1]; exact hlt)]
                  split
                  · rfl
                  · exact HI'.out.2.1
                · have h1 := cf_set (b := b') (v := k) (by rw [HI'.out.1]; exact hlt) HB.out
                  have h2 := HM'.out
                  show cf (b'.set k true) + 1 ≤ cf b
                  omega
              case measure => simp [intOf]; omega
            · have t1 : decide (gi d k < J) = false := by simpa using hlt2
              go_wp2
              go_region_held3 (fun w' => w'.cell? ⟨w.heap.size + 1, 0, none⟩ = some (.slice (some ⟨w.heap.size, 0, none⟩) n n) ∧ w'.cell? ⟨w.heap.size, k, none⟩ = some (.bool false) ∧ w'.cell? ⟨X, 3, none⟩ = some (.slice (some ⟨gd, 0, none⟩) d.length cdd) ∧ w'.cell? ⟨gd, k, none⟩ = some (.int .i64 (gi d k)))
                (first
                  | go_keep
                  | (go_split_ands
                     exact ⟨hp1.cell id (by assumption), hp1.cell id (by assumption), hp1.cell id (by assumption), hp1.cell id (by assumption)⟩))
                ((first | (go_at_call 137; refine (HCA.out _ (by exact (Keeps.refl _ _).drew)).mono ?_; rintro e w1 ⟨rfl, hp1⟩)))
              have rb1 := hp1.row (Row.drew rb') id
              have rB1 := hp1.row (Row.drew rB') id
              have p1 : Pure w w1 := Pure.after hp'.drew hp1
              have HP1 := Lib.hid hp1
              clear hp1 cB cb
              go_wp2
              go_roundw
              case rel =>
                refine ⟨k + 1, ag, b', by omega, by go_num, rfl, rb1, rB1, p1, HI', ?_, HM'⟩
                intro hag
                obtain ⟨e1, e2⟩ := HA.out hag
                refine ⟨e1, fun v hv hvb => ?_⟩
                by_cases e : v = k
                · subst e; rw [← e1, ← HJ.out]; omega
                · exact e2 v (by omega) hvb
              case measure => simp [intOf]; omega
        · obtain rfl : k = n := by omega
          go_wp2
          go_roundg (2 * cf b' + (if ag then 1 else 0))
          case rel =>
            refine ⟨ag, b', rfl, rb', rB', hp', HI', ?_, Nat.le_refl _⟩
            intro hag
            obtain ⟨e1, e2⟩ := HA.out hag
            rw [e1]
            exact e2
          case measure =>
            have h1 := HM.out
            have h2 := HM'.out
            simp only [if_true] at h1
            split at h2 <;> simp_all <;> omega
end Go.Proofs.Ytmeoemmemjipdaa

/- Words for contracts that are proved from shallow forms: rows of numbers and bools read and written by index, states, the links' iterator. -/
namespace Go.Proofs.Ytmeoemmemjipdaa
open Go Go.RowKit Go.Shelf Go.Proofs.Try
set_option linter.unusedVariables false
set_option maxRecDepth 100000
theorem in64 {a : Int} (h : -1000000000000000000 ≤ a ∧ a ≤ 1000000000000000000) : In64 a := ⟨by omega, by omega⟩
theorem ybc {p : Addr} {l : Nat} {i : Int} (h0 : 0 ≤ i) (h1 : i < (l : Int)) : Ix (some p) l i := ⟨rfl, h0, h1⟩
theorem ixA_zero (g : Nat) (i : Int) (sz : Nat) : ixA (some ⟨g, 0, none⟩) i sz = ⟨g, i.toNat * sz, none⟩ := by simp [ixA, Addr.add_mid]
theorem ybo (g : Nat) (i : Int) : ixA (some ⟨g, 0, none⟩) i 1 = ⟨g, i.toNat, none⟩ := by simp [ixA_zero]
theorem ixA_off (g o : Nat) (i : Int) (sz : Nat) : ixA (some ⟨g, o, none⟩) i sz = ⟨g, o + i.toNat * sz, none⟩ := by simp [ixA, Addr.add_mid]
theorem yb1 (g k : Nat) : (⟨g, 0, none⟩ : Addr).add k = ⟨g, k, none⟩ := by simp [Addr.add_mid]
theorem yfJ (a : Addr) : a.add 0 = a := rfl
section
variable {w w' : World} {g : Nat} {e : TypeId} {size : Nat}
theorem Row.at_ {xs : List Value} (h : Row w g e size xs) (k : Nat) {v : Value} (hv : xs[k]? = some v) : w.cell? ((⟨g, 0, none⟩ : Addr).add k) = some v := by rw [yb1]; exact h.cell hv
theorem Row.wr_ {xs : List Value} (h : Row w g e size xs) (k : Nat) (hk : k < xs.length) : Wr w ((⟨g, 0, none⟩ : Addr).add k) := by
  rw [yb1]; exact ⟨by rw [h.cell (List.getElem?_eq_getElem hk)]; rfl, h.frozen k⟩
theorem ild {xs : List Int} (h : IRow w g e size xs) {i : Int} (h0 : 0 ≤ i) (h1 : i < (xs.length : Int)) : w.cell? (ixA (some ⟨g, 0, none⟩) i 1) = some (.int .i64 (gi xs i.toNat)) := by
  rw [ybo]; exact icell h (by omega)
theorem bld {xs : List Bool} (h : BRow w g e size xs) {i : Int} (h0 : 0 ≤ i) (h1 : i < (xs.length : Int)) : w.cell? (ixA (some ⟨g, 0, none⟩) i 1) = some (.bool (gb xs i.toNat)) := by
  rw [ybo]; exact bcell h (by omega)
theorem iwr {xs : List Int} (h : IRow w g e size xs) {i : Int} (h0 : 0 ≤ i) (h1 : i < (xs.length : Int)) : Wr w (ixA (some ⟨g, 0, none⟩) i 1) := by
  rw [ybo]; exact ⟨by rw [icell h (by omega)]; rfl, Row.frozen h _⟩
theorem bwr {xs : List Bool} (h : BRow w g e size xs) {i : Int} (h0 : 0 ≤ i) (h1 : i < (xs.length : Int)) : Wr w (ixA (some ⟨g, 0, none⟩) i 1) := by
  rw [ybo]; exact ⟨by rw [bcell h (by omega)]; rfl, Row.frozen h _⟩
theorem ist {xs : List Int} (h : IRow w g e size xs) (i : Int) (v : Int) : IRow (w.setCell (ixA (some ⟨g, 0, none⟩) i 1) (.int .i64 v)) g e size (xs.set i.toNat v) := by
  rw [ybo]; exact iset h _ _
theorem bst {xs : List Bool} (h : BRow w g e size xs) (i : Int) (v : Bool) : BRow (w.setCell (ixA (some ⟨g, 0, none⟩) i 1) (.bool v)) g e size (xs.set i.toNat v) := by
  rw [ybo]; exact bset h _ _
theorem Row.far_ {xs : List Value} (h : Row w g e size xs) {k : Nat} (hk : g ≠ k) (i : Int) (v : Value) : Row (w.setCell (ixA (some ⟨k, 0, none⟩) i 1) v) g e size xs := by
  rw [ybo]; exact h.far hk v
theorem Keeps.set_ {S : Nat → Prop} {a : World} (h : Keeps S a w) {k : Nat} (hk : S k) (i : Int) (v : Value) : Keeps S a (w.setCell (ixA (some ⟨k, 0, none⟩) i 1) v) := by
  rw [ybo]; exact h.setCell (fun _ => hk) v
theorem New.row_ {cs : Array Value} {T : TypeId} (h : New w g w' cs T) {k : Nat} {e : TypeId} {size : Nat} {xs : List Value} (hr : Row w k e size xs) : Row w' k e size xs := hr.kp (h.kp k)
end
theorem ints_ld {w : World} {A : Option Addr} {xs : List Int} (h : Ints w A xs) {i : Int} (h0 : 0 ≤ i) (h1 : i < (xs.length : Int)) : w.cell? (ixA A i 1) = some (.int .i64 (gi xs i.toNat)) := by
  obtain ⟨b, off, rfl, _, hc⟩ := h (by omega)
  rw [ixA_off, Nat.mul_one]; exact hc _ (by omega)
theorem ints_ix {w : World} {A : Option Addr} {xs : List Int} (h : Ints w A xs) {l : Nat} (hl : l = xs.length) {i : Int} (h0 : 0 ≤ i) (h1 : i < (xs.length : Int)) : Ix A l i := by
  obtain ⟨b, off, rfl, _, hc⟩ := h (by omega)
  exact ⟨rfl, h0, by omega⟩
theorem Row.cells_ {w : World} {g : Nat} {e : TypeId} {size : Nat} {xs : List Value} (h : Row w g e size xs) : ∀ o : Obj, w.heap[g]? = some o → o.isCells = true := by
  intro o ho
  obtain ⟨cur, h1, _⟩ := h
  rw [h1] at ho
  cases ho
  rfl
theorem Row.ne_ {w : World} {g g' : Nat} {e e' : TypeId} {size size' : Nat} {xs xs' : List Value} (h : Row w g e size xs) (h' : Row w g' e' size' xs') (he : e ≠ e') : g ≠ g' := by
  rintro rfl
  obtain ⟨cur, h1, _⟩ := h
  obtain ⟨cur', h1', _⟩ := h'
  rw [h1] at h1'
  cases h1'
  exact he rfl
def LinkK (A : Option Addr) (es : List E3) (bv : Nat) (k : Nat) : Prop := k = bv ∨ (0 < es.length ∧ ∃ a, A = some a ∧ k = a.block)
theorem links_iter (X : Nat) (A : Option Addr) (es : List E3) (cap : Nat) (v : Int) (bx bv : Nat) (w : World) (hx : Row w bx 146 1 [.pointer (some ⟨X, 0, none⟩)]) (hb : Row w bv 3 1 [.int .i64 v])
    (hX : w.cell? ⟨X, 1, none⟩ = some (.slice A es.length cap)) (hes : ycw w A es) (hE : ycQ es) (hv0 : 0 ≤ v) (hv : v < 12) (hlen : es.length ≤ 1000000000) :
    IterOf Try.prog (.func (.func 171) #[] #[.pointer (some ⟨bx, 0, none⟩), .pointer (some ⟨bv, 0, none⟩)]) (encL es v) (fun xs => xs.map (·.1) = ybT es v) (KB (LinkK A es bv)) es.length w := by
  obtain ⟨b, off, hA, hbl, hcs⟩ : ∃ b off, (0 < es.length → A = some ⟨b, off, none⟩) ∧ (0 < es.length → b < w.heap.size) ∧ ∀ k, k < es.length → w.cell? ⟨b, off + k * 3, none⟩ = some (.int .i64 (ge es k).1) ∧ w.cell? ⟨b, off + k * 3 + 1, none⟩ = some (.int .i64 (ge es k).2.1) ∧ w.cell? ⟨b, off + k * 3 + 2, none⟩ = some (.int .i64 (ge es k).2.2) := by
    rcases Nat.eq_zero_or_pos es.length with h0 | h0
    · exact ⟨0, 0, fun h => absurd h (by omega), fun h => absurd h (by omega), fun k hk => absurd hk (by omega)⟩
    · obtain ⟨b, off, e, hb, hc⟩ := hes h0
      exact ⟨b, off, fun _ => e, fun _ => hb, hc⟩
  have hlt : ∀ k, LinkK A es bv k → k < w.heap.size := by
    rintro k (rfl | ⟨h0, a, ha, rfl⟩)
    · exact hb.lt
    · rw [hA h0] at ha; cases ha; exact hbl h0
  refine ⟨_, _, rfl, enters_of func171 (by kernel_rfl) rfl, ?_, fun h k => h.trans k, fun W l o o' h1 h2 h3 h4 => KB.put hlt W l o o' h1 h2 h3 h4⟩
  intro l J Jx W hW hJ hJx hY h0
  have hc : ∀ (p : Addr) (u : Value), p.block < w.heap.size → w.cell? p = some u → W.cell? p = some u := fun p u hp h => (hW.cell (p := p) hp).trans h
  have hXl : X < w.heap.size := by
    rcases Nat.lt_or_ge X w.heap.size with h | h
    · exact h
    · rw [World.cell?, Array.getElem?_eq_none h] at hX; cases hX
  exact links_in 2 (by omega) l bx bv b off X W es cap v A hA _ (.inl rfl) (fun h => .inr ⟨h, _, hA h, rfl⟩) (fun k hk => Nat.lt_of_lt_of_le (hlt k hk) hW.size) hE hv0 hv hlen J Jx hJ hY h0
    (hc _ _ hx.lt (Row.cell hx (i := 0) rfl)) (hc _ _ hb.lt (Row.cell hb (i := 0) rfl)) (hc _ _ hXl hX)
    (fun k hk => ⟨hc _ _ (hbl (by omega)) (hcs k hk).1, hc _ _ (hbl (by omega)) (hcs k hk).2.1, hc _ _ (hbl (by omega)) (hcs k hk).2.2⟩)
theorem stays_of {α : Type} {B : Nat} {I : List α → World → Prop} (h : ∀ s W W' row, I s W → W.grownBy W' row → (∀ r, row = some r → B ≤ r ∧ ∃ o : Obj, W.heap[r]? = some o ∧ o.isCells = false) → I s W') : Stays B I := h
end Go.Proofs.Ytmeoemmemjipdaa

/- Shallow forms of functions, made by program (sh.py), each with the proof that the code does so. -/
namespace Go.Proofs.Ytmeoemmemjipdaa
open Go Go.RowKit Go.Shelf Go.Proofs.Try
set_option linter.unusedVariables false
set_option maxRecDepth 100000
set_option maxHeartbeats 1000000
def yb7 (pd : Addr) (Ai : Option Addr) (li : Nat) (ci : Nat) (a : Int) (w : World) (R : World → Prop) : Prop :=
(∀ (g : Nat) (w2 : World), New w g w2 #[(Value.pointer (some pd))] 146 →
(∀ (g2 : Nat) (w3 : World), New w2 g2 w3 #[(Value.int .i64 a)] 3 →
(∃ I2 : Nat → Int → World → Prop, (∃ m0, I2 m0 0 w3) ∧ ∀ m1 i w4, I2 m1 i w4 → 
((i < ((li : Nat) : Int) →
(Ix Ai li i ∧
(∃ x : Bool, w4.cell? (ixA Ai i 1) = some (Value.bool (x)) ∧
(∀ (g3 : Nat) (w5 : World), New w4 g3 w5 #[(Value.int .i64 0)] 3 →
(g3 ≠ g ∧
g3 ≠ g2 ∧
∀ w6, w6 = w5.setCell (⟨g3, 0, none⟩ : Addr) (Value.int .i64 i) →
((x = true →
(∃ Ax : Option Addr, ∃ lx : Nat, ∃ cx : Nat, w6.drew.cell? (Addr.add pd 4) = some (Value.slice Ax lx cx) ∧
(Ix Ax lx i ∧
(∃ x2 : Int, w6.drew.cell? (ixA Ax i 1) = some (Value.int .i64 x2) ∧
(In64 (x2 + a) ∧
(Ix Ax lx i ∧
(Wr w6.drew (ixA Ax i 1) ∧
(ixA Ax i 1).block ≠ g ∧
(ixA Ax i 1).block ≠ g2 ∧
(ixA Ax i 1).block ≠ g3 ∧
∀ w7, w7 = w6.drew.setCell (ixA Ax i 1) (Value.int .i64 (x2 + a)) →
(Calls Try.prog 163 #[(Value.pointer (some pd)), (Value.int .i64 i)] w7 fun e w8 => ∃ r : Value, e = .returned r ∧
Kp w7 w8 g ∧
Kp w7 w8 g2 ∧
Kp w7 w8 g3 ∧
KpM w7 w8 ∧
(∃ (α : Type) (val : α → Array Value) (S : List α → Prop) (Kq : World → World → Prop) (len : Nat) (I3 : List α → World → Prop), IterOf Try.prog r val S Kq len w8 ∧ (∀ x, (val x).size = 2) ∧ Stays w8.heap.size I3 ∧ I3 [] w8 ∧ (∀ pr W, I3 pr W → Kp w8 W g ∧ Kp w8 W g2 ∧ Kp w8 W g3 ∧ True) ∧
(∀ pre (el : α) w9, I3 pre w9 → pre.length < len → ∃ y : Int, ∃ y2 : Int, val el = #[(Value.int .i64 y), (Value.int .i64 y2)] ∧
(∃ Ax2 : Option Addr, ∃ lx2 : Nat, ∃ cx2 : Nat, w9.drew.cell? (Addr.add pd 3) = some (Value.slice Ax2 lx2 cx2) ∧
(Ix Ax2 lx2 i ∧
(∃ x3 : Int, w9.drew.cell? (ixA Ax2 i 1) = some (Value.int .i64 x3) ∧
(In64 (y2 * a) ∧
(In64 (x3 - (y2 * a)) ∧
(Ix Ax2 lx2 i ∧
(Wr w9.drew (ixA Ax2 i 1) ∧
(ixA Ax2 i 1).block ≠ g ∧
(ixA Ax2 i 1).block ≠ g2 ∧
(ixA Ax2 i 1).block ≠ g3 ∧
∀ w11, w11 = w9.drew.setCell (ixA Ax2 i 1) (Value.int .i64 (x3 - (y2 * a))) →
(∃ Ax3 : Option Addr, ∃ lx3 : Nat, ∃ cx3 : Nat, w11.drew.cell? (Addr.add pd 3) = some (Value.slice Ax3 lx3 cx3) ∧
(Ix Ax3 lx3 y ∧
(∃ x4 : Int, w11.drew.cell? (ixA Ax3 y 1) = some (Value.int .i64 x4) ∧
(In64 (y2 * a) ∧
(In64 (x4 + (y2 * a)) ∧
(Ix Ax3 lx3 y ∧
(Wr w11.drew (ixA Ax3 y 1) ∧
(ixA Ax3 y 1).block ≠ g ∧
(ixA Ax3 y 1).block ≠ g2 ∧
(ixA Ax3 y 1).block ≠ g3 ∧
∀ w12, w12 = w11.drew.setCell (ixA Ax3 y 1) (Value.int .i64 (x4 + (y2 * a))) →
(KeepsOthers w9 w12 ∧ Kq w9 w12 ∧ I3 (pre ++ [el]) w12)))))))))))))))) ∧
(∀ xs w10, S xs → I3 xs w10 →
KpM w8 w10 ∧
(In64 (i + 1) ∧
∃ m2, m2 < m1 ∧ I2 m2 (i + 1) w10))))))))))) ∧
(¬ (x = true) →
(In64 (i + 1) ∧
∃ m3, m3 < m1 ∧ I2 m3 (i + 1) w6)))))))) ∧
(¬ (i < ((li : Nat) : Int)) →
(∃ Ax4 : Option Addr, ∃ lx4 : Nat, ∃ cx4 : Nat, w4.cell? (Addr.add pd 3) = some (Value.slice Ax4 lx4 cx4) ∧
(∃ I4 : Nat → Int → World → Prop, (∃ m0, I4 m0 0 w4) ∧ ∀ m4 i2 w13, I4 m4 i2 w13 → 
((i2 < ((lx4 : Nat) : Int) →
(∃ Ax5 : Option Addr, ∃ lx5 : Nat, ∃ cx5 : Nat, w13.drew.cell? (Addr.add pd 3) = some (Value.slice Ax5 lx5 cx5) ∧
(Ix Ax5 lx5 i2 ∧
(∃ x5 : Int, w13.drew.cell? (ixA Ax5 i2 1) = some (Value.int .i64 x5) ∧
(∃ Ax6 : Option Addr, ∃ lx6 : Nat, ∃ cx6 : Nat, w13.drew.cell? (Addr.add pd 3) = some (Value.slice Ax6 lx6 cx6) ∧
(Ix Ax6 lx6 i2 ∧
(∃ x6 : Int, w13.drew.cell? (ixA Ax6 i2 1) = some (Value.int .i64 x6) ∧
(In64 (-x6) ∧
(∃ Ax7 : Option Addr, ∃ lx7 : Nat, ∃ cx7 : Nat, w13.drew.cell? (Addr.add pd 4) = some (Value.slice Ax7 lx7 cx7) ∧
(Ix Ax7 lx7 i2 ∧
(∃ x7 : Int, w13.drew.cell? (ixA Ax7 i2 1) = some (Value.int .i64 x7) ∧
(∃ Ax8 : Option Addr, ∃ lx8 : Nat, ∃ cx8 : Nat, w13.drew.cell? (Addr.add pd 4) = some (Value.slice Ax8 lx8 cx8) ∧
(Ix Ax8 lx8 i2 ∧
(∃ x8 : Int, w13.drew.cell? (ixA Ax8 i2 1) = some (Value.int .i64 x8) ∧
(In64 (-x8) ∧
((2097152 < (mxF4 x5 (-x6) x7 (-x8)) →
(∃ x9 : Int, w13.drew.cell? (Addr.add pd 5) = some (Value.int .i64 x9) ∧
((x9 = 0 →
(Wr w13.drew (Addr.add pd 5) ∧
(Addr.add pd 5).block ≠ g ∧
(Addr.add pd 5).block ≠ g2 ∧
∀ w14, w14 = w13.drew.setCell (Addr.add pd 5) (Value.int .i64 11) →
(In64 (i2 + 1) ∧
∃ m5, m5 < m4 ∧ I4 m5 (i2 + 1) w14))) ∧
(¬ (x9 = 0) →
(In64 (i2 + 1) ∧
∃ m6, m6 < m4 ∧ I4 m6 (i2 + 1) w13.drew))))) ∧
(¬ (2097152 < (mxF4 x5 (-x6) x7 (-x8))) →
(In64 (i2 + 1) ∧
∃ m7, m7 < m4 ∧ I4 m7 (i2 + 1) w13.drew)))))))))))))))))) ∧
(¬ (i2 < ((lx4 : Nat) : Int)) →
(∀ wz, After w.heap.size w13 wz → R wz))))))))))
theorem ye7 (pd : Addr) (Ai : Option Addr) (li : Nat) (ci : Nat) (a : Int) (w : World) (R : World → Prop) (h : yb7 pd Ai li ci a w R) :
    Calls Try.prog 140 #[(.pointer (some pd)), (.slice Ai li ci), (ii a)] w fun e w' => e = .returned (.tuple #[]) ∧ R  w' := by
  unfold yb7 at h; refine yfE (l := [(.pointer (some pd)), (.slice Ai li ci), (ii a)]) func140 rfl ntmps140 (Nat.le_of_ble_eq_true rfl) ?_; have hM := yc3.nil w; refine zs (zn (ybq (v := (.pointer (some pd))) rfl ?_)); intro g w2 hN; replace h := h g w2 hN; replace hM := hM.kp hN.kpm; have rB : Row w2 g 146 1 [(.pointer (some pd))] := hN.row; clear hN; refine zb (zn (ybq (v := (ii a)) rfl ?_)); intro g2 w3 hN2; replace h := h g2 w3 hN2; replace hM := hM.kp hN2.kpm; replace rB := rB.kp (hN2.kp _); have rB2 : Row w3 g2 3 1 [(ii a)] := hN2.row; clear hN2; refine zb (yaa (yae (zs (zq (zm (.slice Ai li ci)) (zq (ygL rfl underlying144) (zq (zm (ii 0)) (yaa (yam ?_)))))))); obtain ⟨I2, ⟨m0, h0⟩, hr⟩ := h; refine yaC (fun m E ds w' => ∃ i, I2 m i w' ∧ yc3 w.heap.size ds w' ∧ E 3 = (Value.pointer (some (⟨g, 0, none⟩ : Addr))) ∧ E 5 = (Value.pointer (some (⟨g2, 0, none⟩ : Addr))) ∧ E 11 = (Value.slice Ai li ci) ∧ E 12 = (ii ((li : Nat) : Int)) ∧ E 13 = (ii i) ∧ Row w' g 146 1 [(.pointer (some pd))] ∧ Row w' g2 3 1 [(ii a)]) m0 ⟨_, h0, hM, rfl, rfl, rfl, rfl, rfl, rB, rB2⟩ ?_; clear h0; rintro m1 E ds w4 ⟨i, h, hM, hE3, hE5, hE11, hE12, hE13, rB, rB2⟩ again; replace h := hr m1 i w4 h; clear hr; refine zs (zq (yaP hE13 hE12) (yaa (yae ?_))); by_cases hp : i < ((li : Nat) : Int)
  · replace h := h.1 hp; refine zc hp (yai (yae (yam (zs (zq (yac hE13) ?_))))); obtain ⟨hx, h⟩ := h; refine zq (yao hE11 hE13 underlying144 yct hx) ?_; obtain ⟨x, hc, h⟩ := h; refine zq (zl underlying4 hc) (zn (ya7 yah ?_)); intro g3 w5 hN3; replace h := h g3 w5 hN3; replace hM := hM.kp hN3.kpm; replace rB := rB.kp (hN3.kp _); replace rB2 := rB2.kp (hN3.kp _); have rB3 : Row w5 g3 3 1 [(ii 0)] := hN3.row; clear hN3; refine zb ?_; obtain ⟨hb, h⟩ := h; obtain ⟨hb2, h⟩ := h; refine zo (zt (ii i) yah (wr_row rB3 (i := 0) rfl) ?_); intro w6 ew; replace h := h w6 ew; replace hM : yc3 _ _ w6 := hM.kp (by rw [ew]; exact yeV); replace rB3 : Row w6 g3 3 1 [(ii i)] := row_set rB3 0 (ii i) ew; replace rB : Row w6 g 146 1 [(.pointer (some pd))] := rB.kp (by rw [ew]; exact ycj hb); replace rB2 : Row w6 g2 3 1 [(ii a)] := rB2.kp (by rw [ew]; exact ycj hb2); clear ew; refine zb (zq (za (.bool (x))) (yaa (yae (zs (zq (zm (.bool (x))) (zq (ycV rfl) (yaa ?_))))))); by_cases hp2 : x = true
    · replace h := h.1 hp2; refine yaz (congrArg Value.bool (congrArg Bool.not hp2)) (yai (yae (yba [0, 1, 2, 3, 4, 5, 6, 7, 8, 9, 10] st0 ybn (by kernel_rfl) (by kernel_rfl) ?_))); replace hM := hM.kp (KpM.drew _); replace rB := rB.drew; replace rB2 := rB2.drew; replace rB3 := rB3.drew; refine zp (yag hE3 underlying146 rfl (Row.cell rB (i := 0) rfl)) (zp (ybz rfl) (zp (yaj rfl underlying177 rfl yds) ?_)); obtain ⟨Ax, lx, cx, hc2, h⟩ := h; refine zp (zl underlying55 hc2) (zp (zl underlying3 (Row.cell rB3 (i := 0) rfl)) ?_); obtain ⟨hx2, h⟩ := h; refine zp (zi underlying55 yah hx2) ?_; obtain ⟨x2, hc3, h⟩ := h; refine zp (zl underlying3 hc3) (zp (yag hE5 underlying3 rfl (Row.cell rB2 (i := 0) rfl)) ?_); obtain ⟨hi, h⟩ := h; refine zp (zA hi) ?_; obtain ⟨hx3, h⟩ := h; refine zp (zi underlying55 yah hx3) ?_; obtain ⟨hw2, h⟩ := h; obtain ⟨hb3, h⟩ := h; obtain ⟨hb4, h⟩ := h; obtain ⟨hb5, h⟩ := h; refine ygJ rfl rfl rfl (zt (ii (x2 + a)) yah hw2 ?_); intro w7 ew2; replace h := h w7 ew2; replace hM : yc3 _ _ w7 := hM.kp (by rw [ew2]; exact yeV); replace rB : Row w7 g 146 1 [(.pointer (some pd))] := rB.kp (by rw [ew2]; exact ycj hb3); replace rB2 : Row w7 g2 3 1 [(ii a)] := rB2.kp (by rw [ew2]; exact ycj hb4); replace rB3 : Row w7 g3 3 1 [(ii i)] := rB3.kp (by rw [ew2]; exact ycj hb5); clear ew2; refine zb (ybs (zs (zq (yag hE3 underlying146 rfl (Row.cell rB (i := 0) rfl)) (zq (zl underlying3 (Row.cell rB3 (i := 0) rfl)) (zn (yan rfl (am2 rfl rfl) enter_163 (h.mono ?_))))))); rintro _ w8 ⟨r, rfl, hk, hk2, hk3, hkm, h⟩; replace hM := hM.kp hkm; replace rB := rB.kp hk; replace rB2 := rB2.kp hk2; replace rB3 := rB3.kp hk3; refine ⟨_, rfl, Stb.none _, ?_⟩; refine yaa (yam ?_); obtain ⟨α, val, S, Kq, len, I3, hIt, hsz, hst, h0, hkp, hb, h⟩ := h; refine wt_range rfl hIt hsz rfl rfl I3 hst h0 ?_ ?_
      · intro ll pre el w9 hIp hlen; obtain ⟨y, y2, hv, h⟩ := hb pre el w9 hIp hlen; rw [hv]; replace rB := rB.kp (hkp pre w9 hIp).1; replace rB2 := rB2.kp (hkp pre w9 hIp).2.1; replace rB3 := rB3.kp (hkp pre w9 hIp).2.2.1; refine yam (yae (yba [0, 1, 2, 3, 4, 5, 6, 7, 8, 9, 10, 11, 12] st0 (ybe ll) (by kernel_rfl) (by kernel_rfl) ?_)); replace rB := rB.drew; replace rB2 := rB2.drew; replace rB3 := rB3.drew; refine zp (yag hE3 underlying146 rfl (Row.cell rB (i := 0) rfl)) (zp (ybz rfl) (zp (yaj rfl underlying177 rfl ybb) ?_)); obtain ⟨Ax2, lx2, cx2, hc4, h⟩ := h; refine zp (zl underlying26 hc4) (zp (zl underlying3 (Row.cell rB3 (i := 0) rfl)) ?_); obtain ⟨hx4, h⟩ := h; refine zp (zi underlying26 yah hx4) ?_; obtain ⟨x3, hc5, h⟩ := h; refine zp (zl underlying3 hc5) (zp (zm (ii y2)) (zp (yag hE5 underlying3 rfl (Row.cell rB2 (i := 0) rfl)) ?_)); obtain ⟨hi2, h⟩ := h; refine zp (v_mul rfl rfl hi2) ?_; obtain ⟨hi3, h⟩ := h; refine zp (zS hi3) ?_; obtain ⟨hx5, h⟩ := h; refine zp (zi underlying26 yah hx5) ?_; obtain ⟨hw3, h⟩ := h; obtain ⟨hb6, h⟩ := h; obtain ⟨hb7, h⟩ := h; obtain ⟨hb8, h⟩ := h; refine ygJ rfl rfl rfl (zt (ii (x3 - (y2 * a))) yah hw3 ?_); intro w11 ew3; replace h := h w11 ew3; replace rB : Row w11 g 146 1 [(.pointer (some pd))] := rB.kp (by rw [ew3]; exact ycj hb6); replace rB2 : Row w11 g2 3 1 [(ii a)] := rB2.kp (by rw [ew3]; exact ycj hb7); replace rB3 : Row w11 g3 3 1 [(ii i)] := rB3.kp (by rw [ew3]; exact ycj hb8); clear ew3; refine zb (ybs (yba [0, 1, 2, 3, 4, 5, 6, 7, 8, 9, 10, 11, 12] st0 (ybe ll) (by kernel_rfl) (by kernel_rfl) ?_)); replace rB := rB.drew; replace rB2 := rB2.drew; replace rB3 := rB3.drew; refine zp (yag hE3 underlying146 rfl (Row.cell rB (i := 0) rfl)) (zp (ybz rfl) (zp (yaj rfl underlying177 rfl ybb) ?_)); obtain ⟨Ax3, lx3, cx3, hc6, h⟩ := h; refine zp (zl underlying26 hc6) (zp (zm (ii y)) ?_); obtain ⟨hx6, h⟩ := h; refine zp (zi underlying26 yah hx6) ?_; obtain ⟨x4, hc7, h⟩ := h; refine zp (zl underlying3 hc7) (zp (zm (ii y2)) (zp (yag hE5 underlying3 rfl (Row.cell rB2 (i := 0) rfl)) ?_)); obtain ⟨hi4, h⟩ := h; refine zp (v_mul rfl rfl hi4) ?_; obtain ⟨hi5, h⟩ := h; refine zp (zA hi5) ?_; obtain ⟨hx7, h⟩ := h; refine zp (zi underlying26 yah hx7) ?_; obtain ⟨hw4, h⟩ := h; obtain ⟨hb9, h⟩ := h; obtain ⟨hb10, h⟩ := h; obtain ⟨hb11, h⟩ := h; refine ygJ rfl rfl rfl (zt (ii (x4 + (y2 * a))) yah hw4 ?_); intro w12 ew4; replace h := h w12 ew4; replace rB : Row w12 g 146 1 [(.pointer (some pd))] := rB.kp (by rw [ew4]; exact ycj hb9); replace rB2 : Row w12 g2 3 1 [(ii a)] := rB2.kp (by rw [ew4]; exact ycj hb10); replace rB3 : Row w12 g3 3 1 [(ii i)] := rB3.kp (by rw [ew4]; exact ycj hb11); clear ew4; exact zb (ybs (yal (yfF (fun a r => h))))
      · intro D xs w10 hD hS hIp hK; replace h := h xs w10 hS hIp; replace rB := rB.kp (hkp xs w10 hIp).1; replace rB2 := rB2.kp (hkp xs w10 hIp).2.1; replace rB3 := rB3.kp (hkp xs w10 hIp).2.2.1; obtain ⟨hkm, h⟩ := h; replace hM := yc3.push hM hkm hD hK; refine yal (yal (zr ?_)); obtain ⟨hi6, h⟩ := h; refine zq (yaG hE13 rfl hi6) (zq (zm (ii (i + 1))) (yaa ?_)); obtain ⟨mq, hlt, h⟩ := h; exact again mq _ _ _ ⟨_, h, hM, hE3, hE5, hE11, hE12, rfl, rB, rB2⟩ hlt
    · replace h := h.2 hp2; refine yau (congrArg Value.bool (congrArg Bool.not (Bool.eq_false_iff.2 hp2))) (yaA rfl (zr ?_)); obtain ⟨hi7, h⟩ := h; refine zq (yaG hE13 rfl hi7) (zq (zm (ii (i + 1))) (yaa ?_)); obtain ⟨mq, hlt, h⟩ := h; exact again mq _ _ _ ⟨_, h, hM, hE3, hE5, hE11, hE12, rfl, rB, rB2⟩ hlt
  · replace h := h.2 hp; refine zd hp (yaA rfl (zs (zq (yag hE3 underlying146 rfl (Row.cell rB (i := 0) rfl)) (zq (ybz rfl) (zq (yaj rfl underlying177 rfl ybb) ?_))))); obtain ⟨Ax4, lx4, cx4, hc8, h⟩ := h; refine zq (zl underlying26 hc8) (zq (ygL rfl underlying26) (zq (zm (ii 0)) (yaa (yam ?_)))); obtain ⟨I4, ⟨m0, h0⟩, hr⟩ := h; refine yaC (fun m E ds w' => ∃ i2, I4 m i2 w' ∧ yc3 w.heap.size ds w' ∧ E 3 = (Value.pointer (some (⟨g, 0, none⟩ : Addr))) ∧ E 64 = (ii ((lx4 : Nat) : Int)) ∧ E 65 = (ii i2) ∧ Row w' g 146 1 [(.pointer (some pd))] ∧ Row w' g2 3 1 [(ii a)]) m0 ⟨_, h0, hM, hE3, rfl, rfl, rB, rB2⟩ ?_; clear h0; rintro m4 E ds w13 ⟨i2, h, hM, hE3, hE64, hE65, rB, rB2⟩ again2; replace h := hr m4 i2 w13 h; clear hr; refine zs (zq (yaP hE65 hE64) (yaa (yae ?_))); by_cases hp3 : i2 < ((lx4 : Nat) : Int)
    · replace h := h.1 hp3; refine zc hp3 (yai (yae (yam (zs (zq (yac hE65) (zq (za (ii i2)) (yaa (yae (yba [0, 1, 2, 3, 4, 5, 6, 7, 8, 9, 10, 11, 12, 13, 14, 15, 16, 17, 18, 19, 20, 21, 22, 23, 24, 25, 26, 27, 28, 29, 30, 31, 32, 33, 34, 35, 36, 37, 38] st0 ybn (by kernel_rfl) (by kernel_rfl) ?_))))))))); replace hM := hM.kp (KpM.drew _); replace rB := rB.drew; replace rB2 := rB2.drew; refine zp (yag hE3 underlying146 rfl (Row.cell rB (i := 0) rfl)) (zp (ybz rfl) (zp (yaj rfl underlying177 rfl ybb) ?_)); obtain ⟨Ax5, lx5, cx5, hc9, h⟩ := h; refine zp (zl underlying26 hc9) (zp (zm (ii i2)) ?_); obtain ⟨hx8, h⟩ := h; refine zp (zi underlying26 yah hx8) ?_; obtain ⟨x5, hc10, h⟩ := h; refine zp (zl underlying3 hc10) (zp (yag hE3 underlying146 rfl (Row.cell rB (i := 0) rfl)) (zp (ybz rfl) (zp (yaj rfl underlying177 rfl ybb) ?_))); obtain ⟨Ax6, lx6, cx6, hc11, h⟩ := h; refine zp (zl underlying26 hc11) (zp (zm (ii i2)) ?_); obtain ⟨hx9, h⟩ := h; refine zp (zi underlying26 yah hx9) ?_; obtain ⟨x6, hc12, h⟩ := h; refine zp (zl underlying3 hc12) ?_; obtain ⟨hi8, h⟩ := h; refine zp (v_neg rfl hi8) (zp (yag hE3 underlying146 rfl (Row.cell rB (i := 0) rfl)) (zp (ybz rfl) (zp (yaj rfl underlying177 rfl yds) ?_))); obtain ⟨Ax7, lx7, cx7, hc13, h⟩ := h; refine zp (zl underlying55 hc13) (zp (zm (ii i2)) ?_); obtain ⟨hx10, h⟩ := h; refine zp (zi underlying55 yah hx10) ?_; obtain ⟨x7, hc14, h⟩ := h; refine zp (zl underlying3 hc14) (zp (yag hE3 underlying146 rfl (Row.cell rB (i := 0) rfl)) (zp (ybz rfl) (zp (yaj rfl underlying177 rfl yds) ?_))); obtain ⟨Ax8, lx8, cx8, hc15, h⟩ := h; refine zp (zl underlying55 hc15) (zp (zm (ii i2)) ?_); obtain ⟨hx11, h⟩ := h; refine zp (zi underlying55 yah hx11) ?_; obtain ⟨x8, hc16, h⟩ := h; refine zp (zl underlying3 hc16) ?_; obtain ⟨hi9, h⟩ := h; refine zp (v_neg rfl hi9) (zp (v_max4 rfl rfl rfl rfl) (zp zG (zp (zm (.bool (decide (2097152 < (mxF4 x5 (-x6) x7 (-x8)))))) ?_))); by_cases hp4 : 2097152 < (mxF4 x5 (-x6) x7 (-x8))
      · replace h := h.1 hp4; refine rp_q (yad rfl (yaf rfl (congrArg Value.bool (decide_eq_true hp4)))) rfl rfl (yag hE3 underlying146 rfl (Row.cell rB (i := 0) rfl)) (rp_q (yad rfl (yaf rfl (congrArg Value.bool (decide_eq_true hp4)))) rfl rfl (ybz rfl) (rp_q (yad rfl (yaf rfl (congrArg Value.bool (decide_eq_true hp4)))) rfl rfl (yaj rfl underlying177 rfl yc4) ?_)); obtain ⟨x9, hc17, h⟩ := h; refine rp_q (yad rfl (yaf rfl (congrArg Value.bool (decide_eq_true hp4)))) rfl rfl (zl underlying29 hc17) (rp_q (yad rfl (yaf rfl (congrArg Value.bool (decide_eq_true hp4)))) rfl rfl zE (zp (yaw (v := (.bool (decide (x9 = 0)))) (congrArg Value.bool (decide_eq_true hp4)) rfl) (ybs ?_))); by_cases hp5 : x9 = 0
        · replace h := h.1 hp5; refine zc hp5 (zr (zq (yag hE3 underlying146 rfl (Row.cell rB (i := 0) rfl)) (zq (ybz rfl) (zq (yaj rfl underlying177 rfl yc4) ?_)))); obtain ⟨hw5, h⟩ := h; obtain ⟨hb12, h⟩ := h; obtain ⟨hb13, h⟩ := h; refine zo (zt (ii 11) yc4 hw5 ?_); intro w14 ew5; replace h := h w14 ew5; replace hM : yc3 _ _ w14 := hM.kp (by rw [ew5]; exact yeV); replace rB : Row w14 g 146 1 [(.pointer (some pd))] := rB.kp (by rw [ew5]; exact ycj hb12); replace rB2 : Row w14 g2 3 1 [(ii a)] := rB2.kp (by rw [ew5]; exact ycj hb13); clear ew5; refine zb (yaa (yal (zr ?_))); obtain ⟨hi10, h⟩ := h; refine zq (yaG hE65 rfl hi10) (zq (zm (ii (i2 + 1))) (yaa ?_)); obtain ⟨mq, hlt, h⟩ := h; exact again2 mq _ _ _ ⟨_, h, hM, hE3, hE64, rfl, rB, rB2⟩ hlt
        · replace h := h.2 hp5; refine zd hp5 (yai (yal (zr ?_))); obtain ⟨hi11, h⟩ := h; refine zq (yaG hE65 rfl hi11) (zq (zm (ii (i2 + 1))) (yaa ?_)); obtain ⟨mq, hlt, h⟩ := h; exact again2 mq _ _ _ ⟨_, h, hM, hE3, hE64, rfl, rB, rB2⟩ hlt
      · replace h := h.2 hp4; refine rp_p (yab rfl (yaf rfl (congrArg Value.bool (decide_eq_false hp4))) rfl) rfl (rp_p (yab rfl (yaf rfl (congrArg Value.bool (decide_eq_false hp4))) rfl) rfl (rp_p (yab rfl (yaf rfl (congrArg Value.bool (decide_eq_false hp4))) rfl) rfl (rp_p (yab rfl (yaf rfl (congrArg Value.bool (decide_eq_false hp4))) rfl) rfl (rp_p (yab rfl (yaf rfl (congrArg Value.bool (decide_eq_false hp4))) rfl) rfl (zp (yay (v := (.bool (false))) (congrArg Value.bool (decide_eq_false hp4)) rfl) (ybs (yaz rfl (yai (yal (zr ?_)))))))))); obtain ⟨hi12, h⟩ := h; refine zq (yaG hE65 rfl hi12) (zq (zm (ii (i2 + 1))) (yaa ?_)); obtain ⟨mq, hlt, h⟩ := h; exact again2 mq _ _ _ ⟨_, h, hM, hE3, hE64, rfl, rB, rB2⟩ hlt
    · replace h := h.2 hp3; exact zd hp3 (yaA rfl (wt_endm0 hM rfl fun wz hz => ⟨rfl, h wz hz⟩))
def yby (px : Addr) (w : World) (R : Option Addr → Nat → Nat → World → Prop) : Prop :=
(∀ (g : Nat) (w2 : World), New w g w2 #[(Value.int .i64 (-1))] 3 →
(∃ x : Int, w2.cell? (Addr.add (Addr.add px 0) 0) = some (Value.int .i64 x) ∧
(Calls Try.prog 165 #[(Value.slice (some ⟨g, 0, none⟩) 1 1), (Value.int .i64 x)] w2 fun e w3 => ∃ Ar2 : Option Addr, ∃ lr2 : Nat, ∃ cr2 : Nat, e = .returned (Value.slice Ar2 lr2 cr2) ∧
KpM w2 w3 ∧
(∀ (g2 : Nat) (w4 : World), New w3 g2 w4 #[(Value.slice none 0 0)] 25 →
(∀ w5, w5 = w4.setCell (⟨g2, 0, none⟩ : Addr) (Value.slice Ar2 lr2 cr2) →
(∃ x2 : Int, w5.drew.cell? (Addr.add px 2) = some (Value.int .i64 x2) ∧
(Ix Ar2 lr2 x2 ∧
(Wr w5.drew (ixA Ar2 x2 1) ∧
(ixA Ar2 x2 1).block ≠ g2 ∧
∀ w6, w6 = w5.drew.setCell (ixA Ar2 x2 1) (Value.int .i64 0) →
(∃ x3 : Int, w6.cell? (Addr.add px 2) = some (Value.int .i64 x3) ∧
(∀ (g3 : Nat) (w7 : World), New w6 g3 w7 #[(Value.int .i64 x3)] 3 →
(∀ (g4 : Nat) (w8 : World), New w7 g4 w8 #[(Value.slice none 0 0)] 25 →
(Wr w8 (⟨g4, 0, none⟩ : Addr) ∧
(⟨g4, 0, none⟩ : Addr).block ≠ g2 ∧
∀ w9, w9 = w8.setCell (⟨g4, 0, none⟩ : Addr) (Value.slice (some ⟨g3, 0, none⟩) 1 1) →
(∃ I2 : Nat → World → Prop, (∃ m0, I2 m0 w9) ∧ ∀ m1 w10, I2 m1 w10 → 
(∃ Ax : Option Addr, ∃ lx : Nat, ∃ cx : Nat, w10.cell? (⟨g4, 0, none⟩ : Addr) = some (Value.slice Ax lx cx) ∧
((0 < ((lx : Nat) : Int) →
(∃ Ax2 : Option Addr, ∃ lx2 : Nat, ∃ cx2 : Nat, w10.cell? (⟨g4, 0, none⟩ : Addr) = some (Value.slice Ax2 lx2 cx2) ∧
(Ix Ax2 lx2 0 ∧
(∃ x4 : Int, w10.cell? (ixA Ax2 0 1) = some (Value.int .i64 x4) ∧
(∀ (g5 : Nat) (w11 : World), New w10 g5 w11 #[(Value.int .i64 0)] 3 →
(g5 ≠ g2 ∧
∀ w12, w12 = w11.setCell (⟨g5, 0, none⟩ : Addr) (Value.int .i64 x4) →
(∃ Ax3 : Option Addr, ∃ lx3 : Nat, ∃ cx3 : Nat, w12.cell? (⟨g4, 0, none⟩ : Addr) = some (Value.slice Ax3 lx3 cx3) ∧
((0 ≤ (1 : Int) ∧ (1 : Int) ≤ ((lx3 : Nat) : Int)) ∧
(Wr w12 (⟨g4, 0, none⟩ : Addr) ∧
(⟨g4, 0, none⟩ : Addr).block ≠ g2 ∧
(⟨g4, 0, none⟩ : Addr).block ≠ g5 ∧
∀ w13, w13 = w12.setCell (⟨g4, 0, none⟩ : Addr) (Value.slice (slA Ax3 cx3 (1 : Int).toNat 1) (lx3 - (1 : Int).toNat) (cx3 - (1 : Int).toNat)) →
(Calls Try.prog 163 #[(Value.pointer (some px)), (Value.int .i64 x4)] w13 fun e w14 => ∃ r : Value, e = .returned r ∧
Kp w13 w14 g2 ∧
Kp w13 w14 g5 ∧
KpM w13 w14 ∧
(∃ (α : Type) (val : α → Array Value) (S : List α → Prop) (Kq : World → World → Prop) (len : Nat) (I3 : List α → World → Prop), IterOf Try.prog r val S Kq len w14 ∧ (∀ x, (val x).size = 2) ∧ Stays w14.heap.size I3 ∧ I3 [] w14 ∧ (∀ pr W, I3 pr W → Kp w14 W g2 ∧ Kp w14 W g5 ∧ True) ∧
(∀ pre (el : α) w15, I3 pre w15 → pre.length < len → ∃ y : Int, ∃ y2 : Int, val el = #[(Value.int .i64 y), (Value.int .i64 y2)] ∧
(Ix Ar2 lr2 y ∧
(∃ x5 : Int, w15.cell? (ixA Ar2 y 1) = some (Value.int .i64 x5) ∧
((x5 < 0 →
(Ix Ar2 lr2 x4 ∧
(∃ x6 : Int, w15.drew.cell? (ixA Ar2 x4 1) = some (Value.int .i64 x6) ∧
(In64 (x6 + 1) ∧
(Ix Ar2 lr2 y ∧
(Wr w15.drew (ixA Ar2 y 1) ∧
(ixA Ar2 y 1).block ≠ g2 ∧
(ixA Ar2 y 1).block ≠ g5 ∧
∀ w17, w17 = w15.drew.setCell (ixA Ar2 y 1) (Value.int .i64 (x6 + 1)) →
(∃ Ax4 : Option Addr, ∃ lx4 : Nat, ∃ cx4 : Nat, w17.cell? (⟨g4, 0, none⟩ : Addr) = some (Value.slice Ax4 lx4 cx4) ∧
(∀ (g6 : Nat) (w18 : World), New w17 g6 w18 #[(Value.int .i64 y)] 3 →
(∃ (B : Nat) (xs2 nw : List Value) (ad : Addr), OwnS w18 B 3 1 Ax4 lx4 cx4 xs2 ∧ (some ⟨g6, 0, none⟩) = some ad ∧ nw.length = 1 * 1 ∧ (∀ j u, nw[j]? = some u → w18.cell? (ad.add j) = some u) ∧ (∀ u ∈ nw, u.oneCell' = true) ∧ lx4 + 1 ≤ maxLen ∧ (lx4 + 1) * 8 ≤ 140737488355328 ∧ B ≤ w18.heap.size ∧
∀ A c w19, OwnS w19 B 3 1 A (lx4 + 1) c (xs2 ++ nw) → w18.grownBy w19 (Option.map Addr.block Ax4) → (Option.map Addr.block A = Option.map Addr.block Ax4 ∨ Option.map Addr.block A = some w18.heap.size) →
Kp w18 w19 g2 ∧
Kp w18 w19 g5 ∧
(Wr w19 (⟨g4, 0, none⟩ : Addr) ∧
(⟨g4, 0, none⟩ : Addr).block ≠ g2 ∧
(⟨g4, 0, none⟩ : Addr).block ≠ g5 ∧
∀ w20, w20 = w19.setCell (⟨g4, 0, none⟩ : Addr) (Value.slice A (lx4 + 1) c) →
(KeepsOthers w15 w20 ∧ Kq w15 w20 ∧ I3 (pre ++ [el]) w20))))))))))) ∧
(¬ (x5 < 0) →
(KeepsOthers w15 w15 ∧ Kq w15 w15 ∧ I3 (pre ++ [el]) w15)))))) ∧
(∀ xs w16, S xs → I3 xs w16 →
KpM w14 w16 ∧
∃ m2, m2 < m1 ∧ I2 m2 w16)))))))))))) ∧
(¬ (0 < ((lx : Nat) : Int)) →
(∀ wz, After w.heap.size w10 wz → R Ar2 lr2 cr2 wz)))))))))))))))))
theorem ydW (px : Addr) (w : World) (R : Option Addr → Nat → Nat → World → Prop) (h : yby px w R) :
    Calls Try.prog 139 #[(.pointer (some px))] w fun e w' => ∃ Ar lr cr, e = .returned (.slice Ar lr cr) ∧ R Ar lr cr w' := by
  unfold yby at h; refine yfE (l := [(.pointer (some px))]) func139 rfl ntmps139 (Nat.le_of_ble_eq_true rfl) ?_; have hM := yc3.nil w; refine zs (zq (za (.slice none 0 0)) (yaa (zs (zn (ya8 (l := [(0, (ii (-1)))]) (cells := [(ii (-1))]) (bp1 rfl) underlying25 yah rfl rfl ?_))))); intro g w2 hN; replace h := h g w2 hN; replace hM := hM.kp hN.kpm; clear hN; refine zb (zq (zm (.pointer (some px))) (zq (ybz rfl) (zq (yaj rfl underlying177 rfl yaq) (zq (yaj rfl underlying24 rfl yah) ?_)))); obtain ⟨x, hc, h⟩ := h; refine zq (zl underlying3 hc) (zn (yan rfl (am2 rfl rfl) enter_165 (h.mono ?_))); rintro _ w3 ⟨Ar2, lr2, cr2, rfl, hkm, h⟩; replace hM := hM.kp hkm; refine ⟨_, rfl, Stb.none _, ?_⟩; refine zn (ya7 yf7 ?_); intro g2 w4 hN2; replace h := h g2 w4 hN2; replace hM := hM.kp hN2.kpm; have rB : Row w4 g2 25 1 [(.slice none 0 0)] := hN2.row; clear hN2; refine zb (zo (zt (.slice Ar2 lr2 cr2) yf7 (wr_row rB (i := 0) rfl) ?_)); intro w5 ew; replace h := h w5 ew; replace hM : yc3 _ _ w5 := hM.kp (by rw [ew]; exact yeV); replace rB : Row w5 g2 25 1 [(.slice Ar2 lr2 cr2)] := row_set rB 0 (.slice Ar2 lr2 cr2) ew; clear ew; refine zb (yaa (yae (yba [0, 1, 2, 3, 4, 5, 6] st0 ybn (by kernel_rfl) (by kernel_rfl) ?_))); replace hM := hM.kp (KpM.drew _); replace rB := rB.drew; refine zp (zl underlying25 (Row.cell rB (i := 0) rfl)) (zp (zm (.pointer (some px))) (zp (ybz rfl) (zp (yaj rfl underlying177 rfl yah) ?_))); obtain ⟨x2, hc2, h⟩ := h; refine zp (zl underlying3 hc2) ?_; obtain ⟨hx, h⟩ := h; refine zp (zi underlying25 yah hx) ?_; obtain ⟨hw2, h⟩ := h; obtain ⟨hb, h⟩ := h; refine ygJ rfl rfl rfl (zt (ii 0) yah hw2 ?_); intro w6 ew2; replace h := h w6 ew2; replace hM : yc3 _ _ w6 := hM.kp (by rw [ew2]; exact yeV); replace rB : Row w6 g2 25 1 [(.slice Ar2 lr2 cr2)] := rB.kp (by rw [ew2]; exact ycj hb); clear ew2; refine zb (ybs (zs (zq (zm (.pointer (some px))) (zq (ybz rfl) (zq (yaj rfl underlying177 rfl yah) ?_))))); obtain ⟨x3, hc3, h⟩ := h; refine zq (zl underlying3 hc3) (zn (ya8 (l := [(0, (ii x3))]) (cells := [(ii x3)]) (bp1 rfl) underlying25 yah rfl rfl ?_)); intro g3 w7 hN3; replace h := h g3 w7 hN3; replace hM := hM.kp hN3.kpm; replace rB := rB.kp (hN3.kp _); clear hN3; refine zb (zn (ya7 yf7 ?_)); intro g4 w8 hN4; replace h := h g4 w8 hN4; replace hM := hM.kp hN4.kpm; replace rB := rB.kp (hN4.kp _); clear hN4; refine zb ?_; obtain ⟨hw3, h⟩ := h; obtain ⟨hb2, h⟩ := h; refine zo (zt (.slice (some ⟨g3, 0, none⟩) 1 1) yf7 hw3 ?_); intro w9 ew3; replace h := h w9 ew3; replace hM : yc3 _ _ w9 := hM.kp (by rw [ew3]; exact yeV); replace rB : Row w9 g2 25 1 [(.slice Ar2 lr2 cr2)] := rB.kp (by rw [ew3]; exact ycj hb2); clear ew3; refine zb (yaa (yae (yam ?_))); obtain ⟨I2, ⟨m0, h0⟩, hr⟩ := h; refine yaC (fun m E ds w' => I2 m w' ∧ yc3 w.heap.size ds w' ∧ E 0 = (Value.pointer (some px)) ∧ E 3 = (Value.pointer (some (⟨g2, 0, none⟩ : Addr))) ∧ E 4 = (Value.pointer (some (⟨g4, 0, none⟩ : Addr))) ∧ Row w' g2 25 1 [(.slice Ar2 lr2 cr2)]) m0 ⟨h0, hM, rfl, rfl, rfl, rB⟩ ?_; clear h0; rintro m1 E ds w10 ⟨h, hM, hE0, hE3, hE4, rB⟩ again; replace h := hr m1 w10 h; clear hr; refine yae (zs ?_); obtain ⟨Ax, lx, cx, hc4, h⟩ := h; refine zq (yag hE4 underlying25 rfl hc4) (zq (ygL rfl underlying25) (zq zG (yaa ?_))); by_cases hp : 0 < ((lx : Nat) : Int)
  · replace h := h.1 hp; refine zc hp (yai (yam (zs ?_))); obtain ⟨Ax2, lx2, cx2, hc5, h⟩ := h; refine zq (yag hE4 underlying25 rfl hc5) ?_; obtain ⟨hx2, h⟩ := h; refine zq (zi underlying25 yah hx2) ?_; obtain ⟨x4, hc6, h⟩ := h; refine zq (zl underlying3 hc6) (zn (ya7 yah ?_)); intro g5 w11 hN5; replace h := h g5 w11 hN5; replace hM := hM.kp hN5.kpm; replace rB := rB.kp (hN5.kp _); have rB2 : Row w11 g5 3 1 [(ii 0)] := hN5.row; clear hN5; refine zb ?_; obtain ⟨hb3, h⟩ := h; refine zo (zt (ii x4) yah (wr_row rB2 (i := 0) rfl) ?_); intro w12 ew4; replace h := h w12 ew4; replace hM : yc3 _ _ w12 := hM.kp (by rw [ew4]; exact yeV); replace rB2 : Row w12 g5 3 1 [(ii x4)] := row_set rB2 0 (ii x4) ew4; replace rB : Row w12 g2 25 1 [(.slice Ar2 lr2 cr2)] := rB.kp (by rw [ew4]; exact ycj hb3); clear ew4; refine zb (yaa (zs ?_)); obtain ⟨Ax3, lx3, cx3, hc7, h⟩ := h; refine zq (yag hE4 underlying25 rfl hc7) ?_; obtain ⟨hs, h⟩ := h; refine zq (v_slice_l rfl rfl underlying25 yah hs) ?_; obtain ⟨hw5, h⟩ := h; obtain ⟨hb4, h⟩ := h; obtain ⟨hb5, h⟩ := h; refine zo (yjb (v := (.slice (slA Ax3 cx3 (1 : Int).toNat 1) (lx3 - (1 : Int).toNat) (cx3 - (1 : Int).toNat))) hE4 rfl rfl yf7 hw5 ?_); intro w13 ew5; replace h := h w13 ew5; replace hM : yc3 _ _ w13 := hM.kp (by rw [ew5]; exact yeV); replace rB : Row w13 g2 25 1 [(.slice Ar2 lr2 cr2)] := rB.kp (by rw [ew5]; exact ycj hb4); replace rB2 : Row w13 g5 3 1 [(ii x4)] := rB2.kp (by rw [ew5]; exact ycj hb5); clear ew5; refine zb (yaa (zs (zq (yac hE0) (zq (zl underlying3 (Row.cell rB2 (i := 0) rfl)) (zn (yan rfl (am2 rfl rfl) enter_163 (h.mono ?_))))))); rintro _ w14 ⟨r, rfl, hk, hk2, hkm, h⟩; replace hM := hM.kp hkm; replace rB := rB.kp hk; replace rB2 := rB2.kp hk2; refine ⟨_, rfl, Stb.none _, ?_⟩; refine yaa (yam ?_); obtain ⟨α, val, S, Kq, len, I3, hIt, hsz, hst, h0, hkp, hb, h⟩ := h; refine wt_range rfl hIt hsz rfl rfl I3 hst h0 ?_ ?_
    · intro ll pre el w15 hIp hlen; obtain ⟨y, y2, hv, h⟩ := hb pre el w15 hIp hlen; rw [hv]; replace rB := rB.kp (hkp pre w15 hIp).1; replace rB2 := rB2.kp (hkp pre w15 hIp).2.1; refine yam (yae (ybg (ybe ll) (zq (yag hE3 underlying25 rfl (Row.cell rB (i := 0) rfl)) (zq (zm (ii y)) ?_)))); obtain ⟨hx3, h⟩ := h; refine zq (zi underlying25 yah hx3) ?_; obtain ⟨x5, hc8, h⟩ := h; refine zq (zl underlying3 hc8) (zq zL (yaa ?_)); by_cases hp2 : x5 < 0
      · replace h := h.1 hp2; refine zc hp2 (yae (yba [0, 1, 2, 3, 4, 5, 6, 7, 8] st0 (ybe ll) (by kernel_rfl) (by kernel_rfl) ?_)); replace rB := rB.drew; replace rB2 := rB2.drew; refine zp (yag hE3 underlying25 rfl (Row.cell rB (i := 0) rfl)) (zp (zm (ii y)) (zp (yag hE3 underlying25 rfl (Row.cell rB (i := 0) rfl)) (zp (zl underlying3 (Row.cell rB2 (i := 0) rfl)) ?_))); obtain ⟨hx4, h⟩ := h; refine zp (zi underlying25 yah hx4) ?_; obtain ⟨x6, hc9, h⟩ := h; refine zp (zl underlying3 hc9) ?_; obtain ⟨hi, h⟩ := h; refine zp (zA hi) ?_; obtain ⟨hx5, h⟩ := h; refine zp (zi underlying25 yah hx5) ?_; obtain ⟨hw6, h⟩ := h; obtain ⟨hb6, h⟩ := h; obtain ⟨hb7, h⟩ := h; refine ygJ rfl rfl rfl (zt (ii (x6 + 1)) yah hw6 ?_); intro w17 ew6; replace h := h w17 ew6; replace rB : Row w17 g2 25 1 [(.slice Ar2 lr2 cr2)] := rB.kp (by rw [ew6]; exact ycj hb6); replace rB2 : Row w17 g5 3 1 [(ii x4)] := rB2.kp (by rw [ew6]; exact ycj hb7); clear ew6; refine zb (ybs (ybg (ybe ll) ?_)); obtain ⟨Ax4, lx4, cx4, hc10, h⟩ := h; refine zq (yag hE4 underlying25 rfl hc10) (zq (zm (ii y)) (zn (ya8 (l := [(0, (ii y))]) (cells := [(ii y)]) (bp1 rfl) underlying25 yah rfl rfl ?_))); intro g6 w18 hN6; replace h := h g6 w18 hN6; replace rB := rB.kp (hN6.kp _); replace rB2 := rB2.kp (hN6.kp _); clear hN6; refine zb ?_; obtain ⟨B, xs2, nw, ad, q1, q2, q3, q4, q5, q6, q7, q8, h⟩ := h; refine zn (n_append rfl rfl underlying25 yah rfl ⟨B, xs2, nw, ad, q1, q2, q3, q4, q5, q6, q7, q8, ?_⟩); intro A c w19 q9 q10 q11; replace h := h A c w19 q9 q10 q11; clear q1 q2 q3 q4 q5 q6 q7 q8 q9 q10 q11; obtain ⟨hk3, hk4, h⟩ := h; replace rB := rB.kp hk3; replace rB2 := rB2.kp hk4; refine zb ?_; obtain ⟨hw7, h⟩ := h; obtain ⟨hb8, h⟩ := h; obtain ⟨hb9, h⟩ := h; refine zo (yjb (v := (.slice A (lx4 + 1) c)) hE4 rfl rfl yf7 hw7 ?_); intro w20 ew7; replace h := h w20 ew7; replace rB : Row w20 g2 25 1 [(.slice Ar2 lr2 cr2)] := rB.kp (by rw [ew7]; exact ycj hb8); replace rB2 : Row w20 g5 3 1 [(ii x4)] := rB2.kp (by rw [ew7]; exact ycj hb9); clear ew7; exact zb (yaa (yal (yfF (fun a r => h))))
      · replace h := h.2 hp2; exact zd hp2 (yai (yal (yfF (fun a r => h))))
    · intro D xs w16 hD hS hIp hK; replace h := h xs w16 hS hIp; replace rB := rB.kp (hkp xs w16 hIp).1; replace rB2 := rB2.kp (hkp xs w16 hIp).2.1; obtain ⟨hkm, h⟩ := h; replace hM := yc3.push hM hkm hD hK; refine yal (yal ?_); obtain ⟨mq, hlt, h⟩ := h; exact again mq _ _ _ ⟨h, hM, hE0, hE3, hE4, rB⟩ hlt
  · replace h := h.2 hp; exact zd hp (yaA rfl (zs (zq (yag hE3 underlying25 rfl (Row.cell rB (i := 0) rfl)) (zq (za (.slice Ar2 lr2 cr2)) (yaa (wt_retm1 hM rfl rfl fun wz hz => ⟨_, _, _, rfl, h wz hz⟩))))))
def ycb (pd : Addr) (w : World) (R : World → Prop) : Prop :=
(Calls Try.prog 139 #[(Value.pointer (some pd))] w fun e w2 => ∃ Ar : Option Addr, ∃ lr : Nat, ∃ cr : Nat, e = .returned (Value.slice Ar lr cr) ∧
(Calls Try.prog 141 #[(Value.slice Ar lr cr)] w2 fun e w3 => ∃ r : Int, e = .returned (Value.int .i64 r) ∧
(∃ I2 : Nat → Int → World → Prop, (∃ m0, I2 m0 r w3) ∧ ∀ m1 i w4, I2 m1 i w4 → 
(∃ J2 : World → Prop, (∀ (w5 : World), J2 w5 → (∃ x : Int, w5.cell? (Addr.add (Addr.add pd 0) 0) = some (Value.int .i64 x) ∧
((0 ≤ x ∧ x ≤ 1000000) ∧
∀ (g : Nat) (w6 : World), New w5 g w6 (Array.replicate x.toNat (Value.bool (false))) 4 →
(∀ (g2 : Nat) (w7 : World), New w6 g2 w7 #[(Value.slice none 0 0)] 144 →
(Wr w7 (⟨g2, 0, none⟩ : Addr) ∧
∀ w8, w8 = w7.setCell (⟨g2, 0, none⟩ : Addr) (Value.slice (some ⟨g, 0, none⟩) x.toNat x.toNat) →
(∃ Ax : Option Addr, ∃ lx : Nat, ∃ cx : Nat, w8.cell? (⟨g2, 0, none⟩ : Addr) = some (Value.slice Ax lx cx) ∧
(∃ I3 : Nat → Int → World → Prop, (∃ m0, I3 m0 0 w8) ∧ ∀ m2 i2 w9, I3 m2 i2 w9 → 
((i2 < ((lx : Nat) : Int) →
(∃ Ax2 : Option Addr, ∃ lx2 : Nat, ∃ cx2 : Nat, w9.drew.cell? (⟨g2, 0, none⟩ : Addr) = some (Value.slice Ax2 lx2 cx2) ∧
(Ix Ar lr i2 ∧
(∃ x2 : Int, w9.drew.cell? (ixA Ar i2 1) = some (Value.int .i64 x2) ∧
(Ix Ax2 lx2 i2 ∧
(Wr w9.drew (ixA Ax2 i2 1) ∧
∀ w10, w10 = w9.drew.setCell (ixA Ax2 i2 1) (Value.bool (decide (x2 < i))) →
(In64 (i2 + 1) ∧
∃ m3, m3 < m2 ∧ I3 m3 (i2 + 1) w10))))))) ∧
(¬ (i2 < ((lx : Nat) : Int)) →
(∃ I4 : Nat → Int → Int → World → Prop, (∃ m0, I4 m0 0 0 w9) ∧ ∀ m4 i3 i4 w11, I4 m4 i3 i4 w11 → 
((i4 < ((lr : Nat) : Int) →
(Ix Ar lr i4 ∧
(∃ x3 : Int, w11.cell? (ixA Ar i4 1) = some (Value.int .i64 x3) ∧
(∃ J3 : World → Prop, (∀ (w12 : World), J3 w12 → (Calls Try.prog 137 #[(Value.pointer (some pd)), (Value.int .i64 i4), (Value.func (Fn.func 142) #[] #[(Value.pointer (some (⟨g2, 0, none⟩ : Addr)))])] w12 fun e w13 => ∃ r2 : Int, e = .returned (Value.int .i64 r2) ∧
(∃ Ax3 : Option Addr, ∃ lx3 : Nat, ∃ cx3 : Nat, w13.cell? (Addr.add pd 3) = some (Value.slice Ax3 lx3 cx3) ∧
(Ix Ax3 lx3 i4 ∧
(∃ x4 : Int, w13.cell? (ixA Ax3 i4 1) = some (Value.int .i64 x4) ∧
(In64 (-x4) ∧
(In64 ((-x4) + r2) ∧
(In64 (((-x4) + r2) - 1) ∧
(r2 ≠ 0 ∧
In64 ((((-x4) + r2) - 1).tdiv r2) ∧
(In64 (i4 + 1) ∧
∃ m5, m5 < m4 ∧ I4 m5 (mxF i3 ((((-x4) + r2) - 1).tdiv r2)) (i4 + 1) w13)))))))))) ∧
((x3 = i →
(∃ Ax4 : Option Addr, ∃ lx4 : Nat, ∃ cx4 : Nat, w11.cell? (Addr.add pd 3) = some (Value.slice Ax4 lx4 cx4) ∧
(Ix Ax4 lx4 i4 ∧
(∃ x5 : Int, w11.cell? (ixA Ax4 i4 1) = some (Value.int .i64 x5) ∧
((x5 < 0 →
J3 w11) ∧
(¬ (x5 < 0) →
(In64 (i4 + 1) ∧
∃ m6, m6 < m4 ∧ I4 m6 i3 (i4 + 1) w11))))))) ∧
(¬ (x3 = i) →
(In64 (i4 + 1) ∧
∃ m7, m7 < m4 ∧ I4 m7 i3 (i4 + 1) w11))))))) ∧
(¬ (i4 < ((lr : Nat) : Int)) →
((0 < i3 →
(∃ Ax5 : Option Addr, ∃ lx5 : Nat, ∃ cx5 : Nat, w11.cell? (⟨g2, 0, none⟩ : Addr) = some (Value.slice Ax5 lx5 cx5) ∧
(Calls Try.prog 140 #[(Value.pointer (some pd)), (Value.slice Ax5 lx5 cx5), (Value.int .i64 i3)] w11 fun e w14 => e = .returned (Value.tuple #[]) ∧
(In64 (i - 1) ∧
∃ m8, m8 < m1 ∧ I2 m8 (i - 1) w14)))) ∧
(¬ (0 < i3) →
(In64 (i - 1) ∧
∃ m9, m9 < m1 ∧ I2 m9 (i - 1) w11))))))))))))))) ∧
((0 < i →
(∃ x6 : Int, w4.cell? (Addr.add pd 5) = some (Value.int .i64 x6) ∧
((x6 = 0 →
J2 w4) ∧
(¬ (x6 = 0) →
R w4)))) ∧
(¬ (0 < i) →
R w4))))))
theorem ye8 (pd : Addr) (w : World) (R : World → Prop) (h : ycb pd w R) :
    Calls Try.prog 110 #[(.pointer (some pd))] w fun e w' => e = .returned (.tuple #[]) ∧ R  w' := by
  unfold ycb at h; refine yap (l := [(.pointer (some pd))]) func110 rfl ntmps110 (Nat.le_of_ble_eq_true rfl) (zs (zq (zm (.pointer (some pd))) (zn (yan rfl (am1 rfl) enter_139 (h.mono ?_))))); rintro _ w2 ⟨Ar, lr, cr, rfl, h⟩; refine ⟨_, rfl, Stb.none _, ?_⟩; refine zq (za (.slice Ar lr cr)) (yaa (zs (zq (zm (.pointer (some pd))) (zq (yiL (am1 rfl) (am0)) (zq (za (.func (Fn.func 140) #[(.pointer (some pd))] #[])) (yaa (zs (zq (zm (.slice Ar lr cr)) (zn (yan rfl (am1 rfl) enter_141 (h.mono ?_))))))))))); rintro _ w3 ⟨r, rfl, h⟩; refine ⟨_, rfl, Stb.none _, ?_⟩; refine zq (za (ii r)) (yaa (yam ?_)); obtain ⟨I2, ⟨m0, h0⟩, hr⟩ := h; refine yaC (fun m E ds w' => ∃ i, I2 m i w' ∧ ds = [] ∧ E 0 = (Value.pointer (some pd)) ∧ E 2 = (Value.slice Ar lr cr) ∧ E 3 = (Value.func (Fn.func 140) #[(.pointer (some pd))] #[]) ∧ E 4 = (ii i)) m0 ⟨_, h0, rfl, rfl, rfl, rfl, rfl⟩ ?_; clear h0; rintro m1 E ds w4 ⟨i, h, rfl, hE0, hE2, hE3, hE4⟩ again; replace h := hr m1 i w4 h; clear hr; refine yae (yae ?_); obtain ⟨J2, hJ, h⟩ := h; refine ydX (fun E ds w' => J2 w' ∧ ds = [] ∧ E 0 = (Value.pointer (some pd)) ∧ E 2 = (Value.slice Ar lr cr) ∧ E 3 = (Value.func (Fn.func 140) #[(.pointer (some pd))] #[]) ∧ E 4 = (ii i)) ?_ ?_
  · rintro E ds w5 ⟨h, rfl, hE0, hE2, hE3, hE4⟩; replace h := hJ w5 h; refine yae (yam (zs (zq (yac hE0) (zq (ybz rfl) (zq (yaj rfl underlying177 rfl yaq) (zq (yaj rfl underlying24 rfl yah) ?_)))))); obtain ⟨x, hc, h⟩ := h; refine zq (zl underlying3 hc) ?_; obtain ⟨hn, h⟩ := h; refine zn (yfK rfl rfl underlying144 yct (by decide) rfl hn ?_); intro g w6 hN; replace h := h g w6 hN; clear hN; refine zb (zn (ya7 yg2 ?_)); intro g2 w7 hN2; replace h := h g2 w7 hN2; clear hN2; refine zb ?_; obtain ⟨hw, h⟩ := h; refine zo (zt (.slice (some ⟨g, 0, none⟩) x.toNat x.toNat) yg2 hw ?_); intro w8 ew; replace h := h w8 ew; clear ew; refine zb (yaa (yae (zs ?_))); obtain ⟨Ax, lx, cx, hc2, h⟩ := h; refine zq (zl underlying144 hc2) (zq (ygL rfl underlying144) (zq (zm (ii 0)) (yaa (yam ?_)))); obtain ⟨I3, ⟨m0, h0⟩, hr⟩ := h; refine yaC (fun m E ds w' => ∃ i2, I3 m i2 w' ∧ ds = [] ∧ E 0 = (Value.pointer (some pd)) ∧ E 2 = (Value.slice Ar lr cr) ∧ E 3 = (Value.func (Fn.func 140) #[(.pointer (some pd))] #[]) ∧ E 4 = (ii i) ∧ E 5 = (Value.pointer (some (⟨g2, 0, none⟩ : Addr))) ∧ E 35 = (ii ((lx : Nat) : Int)) ∧ E 36 = (ii i2)) m0 ⟨_, h0, rfl, hE0, hE2, hE3, hE4, rfl, rfl, rfl⟩ ?_; clear h0; rintro m2 E ds w9 ⟨i2, h, rfl, hE0, hE2, hE3, hE4, hE5, hE35, hE36⟩ again2; replace h := hr m2 i2 w9 h; clear hr; refine zs (zq (yaP hE36 hE35) (yaa (yae ?_))); by_cases hp : i2 < ((lx : Nat) : Int)
    · replace h := h.1 hp; refine zc hp (yai (yae (yam (zs (zq (yac hE36) (zq (za (ii i2)) (yaa (yba [0, 1, 2, 3, 4, 5, 6, 7, 8, 9] st0 ybn (by kernel_rfl) (by kernel_rfl) ?_)))))))); obtain ⟨Ax2, lx2, cx2, hc3, h⟩ := h; refine zp (yag hE5 underlying144 rfl hc3) (zp (zm (ii i2)) (zp (yac hE2) (zp (zm (ii i2)) ?_))); obtain ⟨hx, h⟩ := h; refine zp (zi underlying25 yah hx) ?_; obtain ⟨x2, hc4, h⟩ := h; refine zp (zl underlying3 hc4) (zp (yac hE4) (zp zL ?_)); obtain ⟨hx2, h⟩ := h; refine zp (zi underlying144 yct hx2) ?_; obtain ⟨hw2, h⟩ := h; refine ygJ rfl rfl rfl (zt (.bool (decide (x2 < i))) yct hw2 ?_); intro w10 ew2; replace h := h w10 ew2; clear ew2; refine zb (ybs (yal (zr ?_))); obtain ⟨hi, h⟩ := h; refine zq (yaG hE36 rfl hi) (zq (zm (ii (i2 + 1))) (yaa ?_)); obtain ⟨mq, hlt, h⟩ := h; exact again2 mq _ _ _ ⟨_, h, rfl, hE0, hE2, hE3, hE4, hE5, hE35, rfl⟩ hlt
    · replace h := h.2 hp; refine zd hp (yaA rfl (zs (zq (za (ii 0)) (yaa (yae (zs (zq (yac hE2) (zq (ygL rfl underlying25) (zq (zm (ii 0)) (yaa (yam ?_))))))))))); obtain ⟨I4, ⟨m0, h0⟩, hr⟩ := h; refine yaC (fun m E ds w' => ∃ i3 i4, I4 m i3 i4 w' ∧ ds = [] ∧ E 0 = (Value.pointer (some pd)) ∧ E 2 = (Value.slice Ar lr cr) ∧ E 3 = (Value.func (Fn.func 140) #[(.pointer (some pd))] #[]) ∧ E 4 = (ii i) ∧ E 5 = (Value.pointer (some (⟨g2, 0, none⟩ : Addr))) ∧ E 7 = (ii i3) ∧ E 49 = (Value.slice Ar lr cr) ∧ E 50 = (ii ((lr : Nat) : Int)) ∧ E 51 = (ii i4)) m0 ⟨_, _, h0, rfl, hE0, hE2, hE3, hE4, hE5, rfl, rfl, rfl, rfl⟩ ?_; clear h0; rintro m4 E ds w11 ⟨i3, i4, h, rfl, hE0, hE2, hE3, hE4, hE5, hE7, hE49, hE50, hE51⟩ again3; replace h := hr m4 i3 i4 w11 h; clear hr; refine zs (zq (yaP hE51 hE50) (yaa (yae ?_))); by_cases hp2 : i4 < ((lr : Nat) : Int)
      · replace h := h.1 hp2; refine zc hp2 (yai (yae (yam (zs (zq (yac hE51) ?_))))); obtain ⟨hx3, h⟩ := h; refine zq (yao hE49 hE51 underlying25 yah hx3) ?_; obtain ⟨x3, hc5, h⟩ := h; refine zq (zl underlying3 hc5) (zq (za (ii i4)) (zq (za (ii x3)) (yaa (yae ?_)))); obtain ⟨J3, hJ, h⟩ := h; refine wt_cutA1 (fun E ds w' => J3 w' ∧ ds = [] ∧ E 0 = (Value.pointer (some pd)) ∧ E 2 = (Value.slice Ar lr cr) ∧ E 3 = (Value.func (Fn.func 140) #[(.pointer (some pd))] #[]) ∧ E 4 = (ii i) ∧ E 5 = (Value.pointer (some (⟨g2, 0, none⟩ : Addr))) ∧ E 7 = (ii i3) ∧ E 8 = (ii i4) ∧ E 49 = (Value.slice Ar lr cr) ∧ E 50 = (ii ((lr : Nat) : Int)) ∧ E 51 = (ii i4)) ?_ ?_
        · rintro E ds w12 ⟨h, rfl, hE0, hE2, hE3, hE4, hE5, hE7, hE8, hE49, hE50, hE51⟩; replace h := hJ w12 h; refine zs (zq (yac hE0) (zq (yac hE8) (zq (yiL (am0) (am1 hE5)) (zn (yan rfl (am3 rfl rfl rfl) enter_137 (h.mono ?_)))))); rintro _ w13 ⟨r2, rfl, h⟩; refine ⟨_, rfl, Stb.none _, ?_⟩; refine zq (za (ii r2)) (yaa (zr (zq (yac hE7) (zq (yac hE0) (zq (ybz rfl) (zq (yaj rfl underlying177 rfl ybb) ?_)))))); obtain ⟨Ax3, lx3, cx3, hc6, h⟩ := h; refine zq (zl underlying26 hc6) (zq (yac hE8) ?_); obtain ⟨hx4, h⟩ := h; refine zq (zi underlying26 yah hx4) ?_; obtain ⟨x4, hc7, h⟩ := h; refine zq (zl underlying3 hc7) ?_; obtain ⟨hi2, h⟩ := h; refine zq (v_neg rfl hi2) (zq (zm (ii r2)) ?_); obtain ⟨hi3, h⟩ := h; refine zq (zA hi3) ?_; obtain ⟨hi4, h⟩ := h; refine zq (zS hi4) (zq (zm (ii r2)) ?_); obtain ⟨hz, h⟩ := h; obtain ⟨hi5, h⟩ := h; refine zq (v_quo rfl rfl hz hi5) (zq (v_max2 rfl rfl) (zq (za (ii (mxF i3 ((((-x4) + r2) - 1).tdiv r2)))) (yaa (yal (zr ?_))))); obtain ⟨hi6, h⟩ := h; refine zq (yaG hE51 rfl hi6) (zq (zm (ii (i4 + 1))) (yaa ?_)); obtain ⟨mq, hlt, h⟩ := h; exact again3 mq _ _ _ ⟨_, _, h, rfl, hE0, hE2, hE3, hE4, hE5, rfl, hE49, hE50, rfl⟩ hlt
        clear hJ; intro j2; refine zr (zq (zm (ii x3)) (zq (yac hE4) (zq zE (zq (zm (.bool (decide (x3 = i)))) ?_)))); by_cases hp3 : x3 = i
        · replace h := h.1 hp3; refine rl_q (yad rfl (yaf rfl (congrArg Value.bool (decide_eq_true hp3)))) rfl rfl (yac hE0) (rl_q (yad rfl (yaf rfl (congrArg Value.bool (decide_eq_true hp3)))) rfl rfl (ybz rfl) (rl_q (yad rfl (yaf rfl (congrArg Value.bool (decide_eq_true hp3)))) rfl rfl (yaj rfl underlying177 rfl ybb) ?_)); obtain ⟨Ax4, lx4, cx4, hc8, h⟩ := h; refine rl_q (yad rfl (yaf rfl (congrArg Value.bool (decide_eq_true hp3)))) rfl rfl (zl underlying26 hc8) (rl_q (yad rfl (yaf rfl (congrArg Value.bool (decide_eq_true hp3)))) rfl rfl (zm (ii i4)) ?_); obtain ⟨hx5, h⟩ := h; refine rl_q (yad rfl (yaf rfl (congrArg Value.bool (decide_eq_true hp3)))) rfl rfl (zi underlying26 yah hx5) ?_; obtain ⟨x5, hc9, h⟩ := h; refine rl_q (yad rfl (yaf rfl (congrArg Value.bool (decide_eq_true hp3)))) rfl rfl (zl underlying3 hc9) (rl_q (yad rfl (yaf rfl (congrArg Value.bool (decide_eq_true hp3)))) rfl rfl zL (zq (yaw (v := (.bool (decide (x5 < 0)))) (congrArg Value.bool (decide_eq_true hp3)) rfl) (yaa ?_))); by_cases hp4 : x5 < 0
          · replace h := h.1 hp4; exact zc hp4 (j2 _ _ _ ⟨h, rfl, hE0, hE2, hE3, hE4, hE5, hE7, rfl, hE49, hE50, hE51⟩)
          · replace h := h.2 hp4; refine zd hp4 (yai (yal (zr ?_))); obtain ⟨hi7, h⟩ := h; refine zq (yaG hE51 rfl hi7) (zq (zm (ii (i4 + 1))) (yaa ?_)); obtain ⟨mq, hlt, h⟩ := h; exact again3 mq _ _ _ ⟨_, _, h, rfl, hE0, hE2, hE3, hE4, hE5, hE7, hE49, hE50, rfl⟩ hlt
        · replace h := h.2 hp3; refine rl_p (yab rfl (yaf rfl (congrArg Value.bool (decide_eq_false hp3))) rfl) rfl (rl_p (yab rfl (yaf rfl (congrArg Value.bool (decide_eq_false hp3))) rfl) rfl (rl_p (yab rfl (yaf rfl (congrArg Value.bool (decide_eq_false hp3))) rfl) rfl (rl_p (yab rfl (yaf rfl (congrArg Value.bool (decide_eq_false hp3))) rfl) rfl (rl_p (yab rfl (yaf rfl (congrArg Value.bool (decide_eq_false hp3))) rfl) rfl (rl_p (yab rfl (yaf rfl (congrArg Value.bool (decide_eq_false hp3))) rfl) rfl (rl_p (yab rfl (yaf rfl (congrArg Value.bool (decide_eq_false hp3))) rfl) rfl (rl_p (yab rfl (yaf rfl (congrArg Value.bool (decide_eq_false hp3))) rfl) rfl (zq (yay (v := (.bool (false))) (congrArg Value.bool (decide_eq_false hp3)) rfl) (yaa (yaz rfl (yai (yal (zr ?_))))))))))))); obtain ⟨hi8, h⟩ := h; refine zq (yaG hE51 rfl hi8) (zq (zm (ii (i4 + 1))) (yaa ?_)); obtain ⟨mq, hlt, h⟩ := h; exact again3 mq _ _ _ ⟨_, _, h, rfl, hE0, hE2, hE3, hE4, hE5, hE7, hE49, hE50, rfl⟩ hlt
      · replace h := h.2 hp2; refine zd hp2 (yaA rfl (zs (zq (yac hE7) (zq zG (yaa ?_))))); by_cases hp5 : 0 < i3
        · replace h := h.1 hp5; refine zc hp5 (zr (zq (yac (v := (Value.func (Fn.func 140) #[(.pointer (some pd))] #[])) hE3) ?_)); obtain ⟨Ax5, lx5, cx5, hc10, h⟩ := h; refine zq (yag hE5 underlying144 rfl hc10) (zq (yac hE7) (zn (n_callx (all := [(.pointer (some pd)), (.slice Ax5 lx5 cx5), (ii i3)]) rfl (am2 rfl rfl) enter_140 rfl (h.mono ?_)))); rintro _ w14 ⟨rfl, h⟩; refine ⟨_, rfl, Stb.none _, ?_⟩; refine yaa (yal (zr (zq (yac hE4) ?_))); obtain ⟨hi9, h⟩ := h; refine zq (zS hi9) (zq (za (ii (i - 1))) (yaa ?_)); obtain ⟨mq, hlt, h⟩ := h; exact again mq _ _ _ ⟨_, h, rfl, hE0, hE2, hE3, rfl⟩ hlt
        · replace h := h.2 hp5; refine zd hp5 (yai (yal (zr (zq (yac hE4) ?_)))); obtain ⟨hi10, h⟩ := h; refine zq (zS hi10) (zq (za (ii (i - 1))) (yaa ?_)); obtain ⟨mq, hlt, h⟩ := h; exact again mq _ _ _ ⟨_, h, rfl, hE0, hE2, hE3, rfl⟩ hlt
  clear hJ; intro j; refine zr (zq (yac hE4) (zq zG (zq (zm (.bool (decide (0 < i)))) ?_))); by_cases hp6 : 0 < i
  · replace h := h.1 hp6; refine rl_q (yad rfl (yaf rfl (congrArg Value.bool (decide_eq_true hp6)))) rfl rfl (yac hE0) (rl_q (yad rfl (yaf rfl (congrArg Value.bool (decide_eq_true hp6)))) rfl rfl (ybz rfl) (rl_q (yad rfl (yaf rfl (congrArg Value.bool (decide_eq_true hp6)))) rfl rfl (yaj rfl underlying177 rfl yc4) ?_)); obtain ⟨x6, hc11, h⟩ := h; refine rl_q (yad rfl (yaf rfl (congrArg Value.bool (decide_eq_true hp6)))) rfl rfl (zl underlying29 hc11) (rl_q (yad rfl (yaf rfl (congrArg Value.bool (decide_eq_true hp6)))) rfl rfl zE (zq (yaw (v := (.bool (decide (x6 = 0)))) (congrArg Value.bool (decide_eq_true hp6)) rfl) (yaa ?_))); by_cases hp7 : x6 = 0
    · replace h := h.1 hp7; exact zc hp7 (yai (j _ _ _ ⟨h, rfl, hE0, hE2, hE3, hE4⟩))
    · replace h := h.2 hp7; exact zd hp7 (yaA rfl (yhG rfl ⟨rfl, h⟩))
  · replace h := h.2 hp6; exact rl_p (yab rfl (yaf rfl (congrArg Value.bool (decide_eq_false hp6))) rfl) rfl (rl_p (yab rfl (yaf rfl (congrArg Value.bool (decide_eq_false hp6))) rfl) rfl (rl_p (yab rfl (yaf rfl (congrArg Value.bool (decide_eq_false hp6))) rfl) rfl (rl_p (yab rfl (yaf rfl (congrArg Value.bool (decide_eq_false hp6))) rfl) rfl (rl_p (yab rfl (yaf rfl (congrArg Value.bool (decide_eq_false hp6))) rfl) rfl (zq (yay (v := (.bool (false))) (congrArg Value.bool (decide_eq_false hp6)) rfl) (yaa (yaz rfl (yaA rfl (yhG rfl ⟨rfl, h⟩)))))))))
def ybX (px : Addr) (w : World) (R : World → Prop) : Prop :=
(∃ I2 : Nat → World → Prop, (∃ m0, I2 m0 w) ∧ ∀ m1 w2, I2 m1 w2 → 
(∃ x : Int, w2.cell? (Addr.add px 5) = some (Value.int .i64 x) ∧
((x = 0 →
(Calls Try.prog 107 #[(Value.pointer (some px))] w2 fun e w3 => ∃ Ar : Option Addr, ∃ lr : Nat, ∃ cr : Nat, ∃ r : Bool, e = .returned (Value.tuple #[(Value.slice Ar lr cr), (Value.bool (r))]) ∧
(∀ (g : Nat) (w4 : World), New w3 g w4 #[(Value.slice none 0 0)] 144 →
(Wr w4 (⟨g, 0, none⟩ : Addr) ∧
∀ w5, w5 = w4.setCell (⟨g, 0, none⟩ : Addr) (Value.slice Ar lr cr) →
((r = true →
(∃ Ax : Option Addr, ∃ lx : Nat, ∃ cx : Nat, w5.cell? (⟨g, 0, none⟩ : Addr) = some (Value.slice Ax lx cx) ∧
(∃ I3 : Nat → Int → Int → World → Prop, (∃ m0, I3 m0 0 0 w5) ∧ ∀ m2 times i w6, I3 m2 times i w6 → 
((i < ((lx : Nat) : Int) →
(Ix Ax lx i ∧
(∃ x2 : Bool, w6.cell? (ixA Ax i 1) = some (Value.bool (x2)) ∧
((x2 = true →
(Calls Try.prog 137 #[(Value.pointer (some px)), (Value.int .i64 i), (Value.func (Fn.func 143) #[] #[(Value.pointer (some (⟨g, 0, none⟩ : Addr)))])] w6 fun e w7 => ∃ r2 : Int, e = .returned (Value.int .i64 r2) ∧
((0 < r2 →
(∃ Ax2 : Option Addr, ∃ lx2 : Nat, ∃ cx2 : Nat, w7.cell? (Addr.add px 3) = some (Value.slice Ax2 lx2 cx2) ∧
(Ix Ax2 lx2 i ∧
(∃ x3 : Int, w7.cell? (ixA Ax2 i 1) = some (Value.int .i64 x3) ∧
(r2 ≠ 0 ∧
In64 (x3.tdiv r2) ∧
((times = 0 →
(In64 (i + 1) ∧
∃ m3, m3 < m2 ∧ I3 m3 (x3.tdiv r2) (i + 1) w7)) ∧
(¬ (times = 0) →
(((x3.tdiv r2) < times →
(In64 (i + 1) ∧
∃ m4, m4 < m2 ∧ I3 m4 (x3.tdiv r2) (i + 1) w7)) ∧
(¬ ((x3.tdiv r2) < times) →
(In64 (i + 1) ∧
∃ m5, m5 < m2 ∧ I3 m5 times (i + 1) w7)))))))))) ∧
(¬ (0 < r2) →
(In64 (i + 1) ∧
∃ m6, m6 < m2 ∧ I3 m6 times (i + 1) w7))))) ∧
(¬ (x2 = true) →
(In64 (i + 1) ∧
∃ m7, m7 < m2 ∧ I3 m7 times (i + 1) w6)))))) ∧
(¬ (i < ((lx : Nat) : Int)) →
(∃ Ax3 : Option Addr, ∃ lx3 : Nat, ∃ cx3 : Nat, w6.cell? (⟨g, 0, none⟩ : Addr) = some (Value.slice Ax3 lx3 cx3) ∧
(Calls Try.prog 140 #[(Value.pointer (some px)), (Value.slice Ax3 lx3 cx3), (Value.int .i64 times)] w6 fun e w8 => e = .returned (Value.tuple #[]) ∧
∃ m8, m8 < m1 ∧ I2 m8 w8))))))) ∧
(¬ (r = true) →
R w5)))))) ∧
(¬ (x = 0) →
R w2))))
theorem yeH (px : Addr) (w : World) (R : World → Prop) (h : ybX px w R) :
    Calls Try.prog 111 #[(.pointer (some px))] w fun e w' => e = .returned (.tuple #[]) ∧ R  w' := by
  unfold ybX at h; refine yap (l := [(.pointer (some px))]) func111 rfl ntmps111 (Nat.le_of_ble_eq_true rfl) (yam ?_); obtain ⟨I2, ⟨m0, h0⟩, hr⟩ := h; refine yaC (fun m E ds w' => I2 m w' ∧ ds = [] ∧ E 0 = (Value.pointer (some px))) m0 ⟨h0, rfl, rfl⟩ ?_; clear h0; rintro m1 E ds w2 ⟨h, rfl, hE0⟩ again; replace h := hr m1 w2 h; clear hr; refine yae (zs (zq (yac hE0) (zq (ybz rfl) (zq (yaj rfl underlying177 rfl yc4) ?_)))); obtain ⟨x, hc, h⟩ := h; refine zq (zl underlying29 hc) (zq zE (yaa ?_)); by_cases hp : x = 0
  · replace h := h.1 hp; refine zc hp (yai (yam (zs (zq (yac hE0) (zn (yan rfl (am1 rfl) enter_107 (h.mono ?_))))))); rintro _ w3 ⟨Ar, lr, cr, r, rfl, h⟩; refine ⟨_, rfl, Stb.none _, ?_⟩; refine zq (zm (.tuple #[(.slice Ar lr cr), (.bool (r))])) (zq (zx (.slice Ar lr cr)) (zq (zx (.bool (r))) (zn (ya7 yg2 ?_)))); intro g w4 hN; replace h := h g w4 hN; clear hN; refine zb ?_; obtain ⟨hw, h⟩ := h; refine zo (zt (.slice Ar lr cr) yg2 hw ?_); intro w5 ew; replace h := h w5 ew; clear ew; refine zb (zq (za (.bool (r))) (yaa (yae (zs (zq (zm (.bool (r))) (zq (ycV rfl) (yaa ?_))))))); by_cases hp2 : r = true
    · replace h := h.1 hp2; refine yaz (congrArg Value.bool (congrArg Bool.not hp2)) (yai (zs (zq (za (ii 0)) (yaa (yae (zs ?_)))))); obtain ⟨Ax, lx, cx, hc2, h⟩ := h; refine zq (zl underlying144 hc2) (zq (ygL rfl underlying144) (zq (zm (ii 0)) (yaa (yam ?_)))); obtain ⟨I3, ⟨m0, h0⟩, hr⟩ := h; refine yaC (fun m E ds w' => ∃ times i, I3 m times i w' ∧ ds = [] ∧ E 0 = (Value.pointer (some px)) ∧ E 2 = (Value.pointer (some (⟨g, 0, none⟩ : Addr))) ∧ E 4 = (ii times) ∧ E 21 = (Value.slice Ax lx cx) ∧ E 22 = (ii ((lx : Nat) : Int)) ∧ E 23 = (ii i)) m0 ⟨_, _, h0, rfl, hE0, rfl, rfl, rfl, rfl, rfl⟩ ?_; clear h0; rintro m2 E ds w6 ⟨times, i, h, rfl, hE0, hE2, hE4, hE21, hE22, hE23⟩ again2; replace h := hr m2 times i w6 h; clear hr; refine zs (zq (yaP hE23 hE22) (yaa (yae ?_))); by_cases hp3 : i < ((lx : Nat) : Int)
      · replace h := h.1 hp3; refine zc hp3 (yai (yae (yam (zs (zq (yac hE23) ?_))))); obtain ⟨hx, h⟩ := h; refine zq (yao hE21 hE23 underlying144 yct hx) ?_; obtain ⟨x2, hc3, h⟩ := h; refine zq (zl underlying4 hc3) (zq (za (ii i)) (zq (za (.bool (x2))) (yaa (yae (zs (zq (zm (.bool (x2))) (zq (ycV rfl) (yaa ?_)))))))); by_cases hp4 : x2 = true
        · replace h := h.1 hp4; refine yaz (congrArg Value.bool (congrArg Bool.not hp4)) (yai (zs (zq (yac hE0) (zq (zm (ii i)) (zq (yiL (am0) (am1 hE2)) (zn (yan rfl (am3 rfl rfl rfl) enter_137 (h.mono ?_)))))))); rintro _ w7 ⟨r2, rfl, h⟩; refine ⟨_, rfl, Stb.none _, ?_⟩; refine zq (za (ii r2)) (yaa (zs (zq (zm (ii r2)) (zq zG (yaa ?_))))); by_cases hp5 : 0 < r2
          · replace h := h.1 hp5; refine zc hp5 (zs (zq (yac hE0) (zq (ybz rfl) (zq (yaj rfl underlying177 rfl ybb) ?_)))); obtain ⟨Ax2, lx2, cx2, hc4, h⟩ := h; refine zq (zl underlying26 hc4) (zq (zm (ii i)) ?_); obtain ⟨hx2, h⟩ := h; refine zq (zi underlying26 yah hx2) ?_; obtain ⟨x3, hc5, h⟩ := h; refine zq (zl underlying3 hc5) (zq (zm (ii r2)) ?_); obtain ⟨hz, h⟩ := h; obtain ⟨hi, h⟩ := h; refine zq (v_quo rfl rfl hz hi) (zq (za (ii (x3.tdiv r2))) (yaa (zs (zq (yac hE4) (zq zE (zq (zm (.bool (decide (times = 0)))) ?_)))))); by_cases hp6 : times = 0
            · replace h := h.1 hp6; refine rl_p (yab rfl (yaf rfl (congrArg Value.bool (decide_eq_true hp6))) rfl) rfl (rl_p (yab rfl (yaf rfl (congrArg Value.bool (decide_eq_true hp6))) rfl) rfl (rl_p (yab rfl (yaf rfl (congrArg Value.bool (decide_eq_true hp6))) rfl) rfl (zq (yaw (v := (.bool (true))) (congrArg Value.bool (decide_eq_true hp6)) rfl) (yaa (yau rfl (zr (zq (zm (ii (x3.tdiv r2))) (zq (za (ii (x3.tdiv r2))) (yaa (yal (zr ?_))))))))))); obtain ⟨hi2, h⟩ := h; refine zq (yaG hE23 rfl hi2) (zq (zm (ii (i + 1))) (yaa ?_)); obtain ⟨mq, hlt, h⟩ := h; exact again2 mq _ _ _ ⟨_, _, h, rfl, hE0, hE2, rfl, hE21, hE22, rfl⟩ hlt
            · replace h := h.2 hp6; refine rl_q (yad rfl (yaf rfl (congrArg Value.bool (decide_eq_false hp6)))) rfl rfl (zm (ii (x3.tdiv r2))) (rl_q (yad rfl (yaf rfl (congrArg Value.bool (decide_eq_false hp6)))) rfl rfl (yac hE4) (rl_q (yad rfl (yaf rfl (congrArg Value.bool (decide_eq_false hp6)))) rfl rfl zL (zq (yay (v := (.bool (decide ((x3.tdiv r2) < times)))) (congrArg Value.bool (decide_eq_false hp6)) rfl) (yaa ?_)))); by_cases hp7 : (x3.tdiv r2) < times
              · replace h := h.1 hp7; refine zc hp7 (zr (zq (zm (ii (x3.tdiv r2))) (zq (za (ii (x3.tdiv r2))) (yaa (yal (zr ?_)))))); obtain ⟨hi3, h⟩ := h; refine zq (yaG hE23 rfl hi3) (zq (zm (ii (i + 1))) (yaa ?_)); obtain ⟨mq, hlt, h⟩ := h; exact again2 mq _ _ _ ⟨_, _, h, rfl, hE0, hE2, rfl, hE21, hE22, rfl⟩ hlt
              · replace h := h.2 hp7; refine zd hp7 (yai (yal (zr ?_))); obtain ⟨hi4, h⟩ := h; refine zq (yaG hE23 rfl hi4) (zq (zm (ii (i + 1))) (yaa ?_)); obtain ⟨mq, hlt, h⟩ := h; exact again2 mq _ _ _ ⟨_, _, h, rfl, hE0, hE2, hE4, hE21, hE22, rfl⟩ hlt
          · replace h := h.2 hp5; refine zd hp5 (yai (yal (zr ?_))); obtain ⟨hi5, h⟩ := h; refine zq (yaG hE23 rfl hi5) (zq (zm (ii (i + 1))) (yaa ?_)); obtain ⟨mq, hlt, h⟩ := h; exact again2 mq _ _ _ ⟨_, _, h, rfl, hE0, hE2, hE4, hE21, hE22, rfl⟩ hlt
        · replace h := h.2 hp4; refine yau (congrArg Value.bool (congrArg Bool.not (Bool.eq_false_iff.2 hp4))) (yaA rfl (zr ?_)); obtain ⟨hi6, h⟩ := h; refine zq (yaG hE23 rfl hi6) (zq (zm (ii (i + 1))) (yaa ?_)); obtain ⟨mq, hlt, h⟩ := h; exact again2 mq _ _ _ ⟨_, _, h, rfl, hE0, hE2, hE4, hE21, hE22, rfl⟩ hlt
      · replace h := h.2 hp3; refine zd hp3 (yaA rfl (zr (zq (yac hE0) ?_))); obtain ⟨Ax3, lx3, cx3, hc6, h⟩ := h; refine zq (yag hE2 underlying144 rfl hc6) (zq (yac hE4) (zn (yan rfl (am3 rfl rfl rfl) enter_140 (h.mono ?_)))); rintro _ w8 ⟨rfl, h⟩; refine ⟨_, rfl, Stb.none _, ?_⟩; refine yaa (yal ?_); obtain ⟨mq, hlt, h⟩ := h; exact again mq _ _ _ ⟨h, rfl, hE0⟩ hlt
    · replace h := h.2 hp2; exact yau (congrArg Value.bool (congrArg Bool.not (Bool.eq_false_iff.2 hp2))) (wt_ret0 rfl ⟨rfl, h⟩)
  · replace h := h.2 hp; exact zd hp (yaA rfl (yhG rfl ⟨rfl, h⟩))
def ybU (pd : Addr) (w : World) (R : Option Addr → Nat → Nat → Option Addr → Nat → Nat → Int → World → Prop) : Prop :=
(∃ x : Int, w.cell? (Addr.add pd 5) = some (Value.int .i64 x) ∧
((x = 0 →
(∃ Ax : Option Addr, ∃ lx : Nat, ∃ cx : Nat, w.drew.cell? (Addr.add pd 4) = some (Value.slice Ax lx cx) ∧
(∃ x2 : Int, w.drew.cell? (Addr.add pd 2) = some (Value.int .i64 x2) ∧
(Ix Ax lx x2 ∧
(∃ x3 : Int, w.drew.cell? (ixA Ax x2 1) = some (Value.int .i64 x3) ∧
(∃ Ax2 : Option Addr, ∃ lx2 : Nat, ∃ cx2 : Nat, w.drew.cell? (Addr.add pd 4) = some (Value.slice Ax2 lx2 cx2) ∧
(∃ I2 : Nat → Int → World → Prop, (∃ m0, I2 m0 0 w.drew) ∧ ∀ m1 i w2, I2 m1 i w2 → 
((i < ((lx2 : Nat) : Int) →
(∃ Ax3 : Option Addr, ∃ lx3 : Nat, ∃ cx3 : Nat, w2.cell? (Addr.add pd 4) = some (Value.slice Ax3 lx3 cx3) ∧
(Ix Ax3 lx3 i ∧
(∃ x4 : Int, w2.cell? (ixA Ax3 i 1) = some (Value.int .i64 x4) ∧
(In64 (x4 - x3) ∧
(Ix Ax3 lx3 i ∧
(Wr w2 (ixA Ax3 i 1) ∧
∀ w3, w3 = w2.setCell (ixA Ax3 i 1) (Value.int .i64 (x4 - x3)) →
(In64 (i + 1) ∧
∃ m2, m2 < m1 ∧ I2 m2 (i + 1) w3)))))))) ∧
(¬ (i < ((lx2 : Nat) : Int)) →
(∃ J2 : World → Prop, (∀ (w4 : World), J2 w4 → (∃ Ax4 : Option Addr, ∃ lx4 : Nat, ∃ cx4 : Nat, w4.drew.cell? (Addr.add pd 3) = some (Value.slice Ax4 lx4 cx4) ∧
(∃ Ax5 : Option Addr, ∃ lx5 : Nat, ∃ cx5 : Nat, w4.drew.cell? (Addr.add pd 4) = some (Value.slice Ax5 lx5 cx5) ∧
R Ax4 lx4 cx4 Ax5 lx5 cx5 0 w4.drew))) ∧
(∃ Ax6 : Option Addr, ∃ lx6 : Nat, ∃ cx6 : Nat, w2.drew.cell? (Addr.add pd 3) = some (Value.slice Ax6 lx6 cx6) ∧
(∃ x5 : Int, w2.drew.cell? (Addr.add (Addr.add pd 0) 0) = some (Value.int .i64 x5) ∧
(Calls Try.prog 57 #[(Value.slice Ax6 lx6 cx6), (Value.int .i64 x5)] w2.drew fun e w5 => ∃ r2 : Int, e = .returned (Value.int .i64 r2) ∧
((r2 = 0 →
(∃ Ax7 : Option Addr, ∃ lx7 : Nat, ∃ cx7 : Nat, w5.cell? (Addr.add pd 4) = some (Value.slice Ax7 lx7 cx7) ∧
(∃ x6 : Int, w5.cell? (Addr.add (Addr.add pd 0) 0) = some (Value.int .i64 x6) ∧
(Calls Try.prog 57 #[(Value.slice Ax7 lx7 cx7), (Value.int .i64 x6)] w5 fun e w6 => ∃ r3 : Int, e = .returned (Value.int .i64 r3) ∧
((r3 = 0 →
J2 w6) ∧
(¬ (r3 = 0) →
R none 0 0 none 0 0 11 w6)))))) ∧
(¬ (r2 = 0) →
R none 0 0 none 0 0 11 w5))))))))))))))) ∧
(¬ (x = 0) →
(∃ x7 : Int, w.drew.cell? (Addr.add pd 5) = some (Value.int .i64 x7) ∧
R none 0 0 none 0 0 x7 w.drew))))
theorem yev (pd : Addr) (w : World) (R : Option Addr → Nat → Nat → Option Addr → Nat → Nat → Int → World → Prop) (h : ybU pd w R) :
    Calls Try.prog 112 #[(.pointer (some pd))] w fun e w' => ∃ Ar lr cr Ar2 lr2 cr2 r, e = .returned (.tuple #[(.slice Ar lr cr), (.slice Ar2 lr2 cr2), (ii r)]) ∧ R Ar lr cr Ar2 lr2 cr2 r w' := by
  unfold ybU at h; refine yap (l := [(.pointer (some pd))]) func112 rfl ntmps112 (Nat.le_of_ble_eq_true rfl) (zs (zq (za (.slice none 0 0)) (zq (za (.slice none 0 0)) (zq (za (ii 0)) (yaa (yae (zs (zq (zm (.pointer (some pd))) (zq (ybz rfl) (zq (yaj rfl underlying177 rfl yc4) ?_)))))))))); obtain ⟨x, hc, h⟩ := h; refine zq (zl underlying29 hc) (zq zN (yaa ?_)); by_cases hp : x = 0
  · replace h := h.1 hp; refine ze hp (yai (yae (yba [0, 1, 2, 3, 4, 5, 6, 7, 8, 9, 10] st0 ybn (by kernel_rfl) (by kernel_rfl) (zp (zm (.pointer (some pd))) (zp (ybz rfl) (zp (yaj rfl underlying177 rfl yds) ?_)))))); obtain ⟨Ax, lx, cx, hc2, h⟩ := h; refine zp (zl underlying55 hc2) (zp (zm (.pointer (some pd))) (zp (ybz rfl) (zp (yaj rfl underlying177 rfl yah) ?_))); obtain ⟨x2, hc3, h⟩ := h; refine zp (zl underlying3 hc3) ?_; obtain ⟨hx, h⟩ := h; refine zp (zi underlying55 yah hx) ?_; obtain ⟨x3, hc4, h⟩ := h; refine zp (zl underlying3 hc4) (zp (za (ii x3)) (ybs (yae (zs (zq (zm (.pointer (some pd))) (zq (ybz rfl) (zq (yaj rfl underlying177 rfl yds) ?_))))))); obtain ⟨Ax2, lx2, cx2, hc5, h⟩ := h; refine zq (zl underlying55 hc5) (zq (ygL rfl underlying55) (zq (zm (ii 0)) (yaa (yam ?_)))); obtain ⟨I2, ⟨m0, h0⟩, hr⟩ := h; refine yaC (fun m E ds w' => ∃ i, I2 m i w' ∧ ds = [] ∧ E 0 = (Value.pointer (some pd)) ∧ E 5 = (ii x3) ∧ E 30 = (ii ((lx2 : Nat) : Int)) ∧ E 31 = (ii i)) m0 ⟨_, h0, rfl, rfl, rfl, rfl, rfl⟩ ?_; clear h0; rintro m1 E ds w2 ⟨i, h, rfl, hE0, hE5, hE30, hE31⟩ again; replace h := hr m1 i w2 h; clear hr; refine zs (zq (yaP hE31 hE30) (yaa (yae ?_))); by_cases hp2 : i < ((lx2 : Nat) : Int)
    · replace h := h.1 hp2; refine zc hp2 (yai (yae (yam (zs (zq (yac hE31) (zq (za (ii i)) (yaa (zr (zq (yac hE0) (zq (ybz rfl) (zq (yaj rfl underlying177 rfl yds) ?_))))))))))); obtain ⟨Ax3, lx3, cx3, hc6, h⟩ := h; refine zq (zl underlying55 hc6) (zq (zm (ii i)) ?_); obtain ⟨hx2, h⟩ := h; refine zq (zi underlying55 yah hx2) ?_; obtain ⟨x4, hc7, h⟩ := h; refine zq (zl underlying3 hc7) (zq (yac hE5) ?_); obtain ⟨hi, h⟩ := h; refine zq (zS hi) ?_; obtain ⟨hx3, h⟩ := h; refine zq (zi underlying55 yah hx3) ?_; obtain ⟨hw, h⟩ := h; refine zo (zt (ii (x4 - x3)) yah hw ?_); intro w3 ew; replace h := h w3 ew; clear ew; refine zb (yaa (yal (zr ?_))); obtain ⟨hi2, h⟩ := h; refine zq (yaG hE31 rfl hi2) (zq (zm (ii (i + 1))) (yaa ?_)); obtain ⟨mq, hlt, h⟩ := h; exact again mq _ _ _ ⟨_, h, rfl, hE0, hE5, hE30, rfl⟩ hlt
    · replace h := h.2 hp2; refine zd hp2 (yaA rfl (yae (yae ?_))); obtain ⟨J2, hJ, h⟩ := h; refine ydX (fun E ds w' => J2 w' ∧ ds = [] ∧ E 0 = (Value.pointer (some pd))) ?_ ?_
      · rintro E ds w4 ⟨h, rfl, hE0⟩; replace h := hJ w4 h; refine yae (yba [0, 1, 2, 3, 4, 5, 6, 7, 8, 9, 10] st0 ybn (by kernel_rfl) (by kernel_rfl) (zp (yac hE0) (zp (ybz rfl) (zp (yaj rfl underlying177 rfl ybb) ?_)))); obtain ⟨Ax4, lx4, cx4, hc8, h⟩ := h; refine zp (zl underlying26 hc8) (zp (yac hE0) (zp (ybz rfl) (zp (yaj rfl underlying177 rfl yds) ?_))); obtain ⟨Ax5, lx5, cx5, hc9, h⟩ := h; exact zp (zl underlying55 hc9) (zp (za (.slice Ax4 lx4 cx4)) (zp (za (.slice Ax5 lx5 cx5)) (zp (za (ii 0)) (ybs (ydF rfl rfl rfl rfl ⟨_, _, _, _, _, _, _, rfl, h⟩)))))
      clear hJ; intro j; refine yba [0, 1, 2, 3, 4, 5, 6, 7, 8, 9, 10, 11, 12, 13, 14, 15, 16, 17, 18, 19, 20, 21, 22, 23] st0 ybn (by kernel_rfl) (by kernel_rfl) (zp (yac hE0) (zp (ybz rfl) (zp (yaj rfl underlying177 rfl ybb) ?_))); obtain ⟨Ax6, lx6, cx6, hc10, h⟩ := h; refine zp (zl underlying26 hc10) (zp (yac hE0) (zp (ybz rfl) (zp (yaj rfl underlying177 rfl yaq) (zp (yaj rfl underlying24 rfl yah) ?_)))); obtain ⟨x5, hc11, h⟩ := h; refine zp (zl underlying3 hc11) (rp_n rfl rfl rfl rfl (yan rfl (am2 rfl rfl) yfY (h.mono ?_))); rintro _ w5 ⟨r2, rfl, h⟩; refine ⟨_, rfl, Stb.none _, ?_⟩; refine zp zN (zp (zm (.bool (!(decide (r2 = 0))))) ?_); by_cases hp3 : r2 = 0
      · replace h := h.1 hp3; refine rp_q (yad rfl (yaf rfl (congrArg Value.bool (congrArg Bool.not (decide_eq_true hp3))))) rfl rfl (yac hE0) (rp_q (yad rfl (yaf rfl (congrArg Value.bool (congrArg Bool.not (decide_eq_true hp3))))) rfl rfl (ybz rfl) (rp_q (yad rfl (yaf rfl (congrArg Value.bool (congrArg Bool.not (decide_eq_true hp3))))) rfl rfl (yaj rfl underlying177 rfl yds) ?_)); obtain ⟨Ax7, lx7, cx7, hc12, h⟩ := h; refine rp_q (yad rfl (yaf rfl (congrArg Value.bool (congrArg Bool.not (decide_eq_true hp3))))) rfl rfl (zl underlying55 hc12) (rp_q (yad rfl (yaf rfl (congrArg Value.bool (congrArg Bool.not (decide_eq_true hp3))))) rfl rfl (yac hE0) (rp_q (yad rfl (yaf rfl (congrArg Value.bool (congrArg Bool.not (decide_eq_true hp3))))) rfl rfl (ybz rfl) (rp_q (yad rfl (yaf rfl (congrArg Value.bool (congrArg Bool.not (decide_eq_true hp3))))) rfl rfl (yaj rfl underlying177 rfl yaq) (rp_q (yad rfl (yaf rfl (congrArg Value.bool (congrArg Bool.not (decide_eq_true hp3))))) rfl rfl (yaj rfl underlying24 rfl yah) ?_)))); obtain ⟨x6, hc13, h⟩ := h; refine rp_q (yad rfl (yaf rfl (congrArg Value.bool (congrArg Bool.not (decide_eq_true hp3))))) rfl rfl (zl underlying3 hc13) (rp_n (yad rfl (yaf rfl (congrArg Value.bool (congrArg Bool.not (decide_eq_true hp3))))) rfl rfl rfl (yan rfl (am2 rfl rfl) yfY (h.mono ?_))); rintro _ w6 ⟨r3, rfl, h⟩; refine ⟨_, rfl, Stb.none _, ?_⟩; refine rp_q (yad rfl (yaf rfl (congrArg Value.bool (congrArg Bool.not (decide_eq_true hp3))))) rfl rfl zN (zp (yay (v := (.bool (!(decide (r3 = 0))))) (congrArg Value.bool (congrArg Bool.not (decide_eq_true hp3))) rfl) (ybs ?_)); by_cases hp4 : r3 = 0
        · replace h := h.1 hp4; exact ze hp4 (yai (j _ _ _ ⟨h, rfl, hE0⟩))
        · replace h := h.2 hp4; exact zf hp4 (zs (zq (za (.slice none 0 0)) (zq (za (.slice none 0 0)) (zq (za (ii 11)) (yaa (ydF rfl rfl rfl rfl ⟨_, _, _, _, _, _, _, rfl, h⟩))))))
      · replace h := h.2 hp3; exact rp_p (yab rfl (yaf rfl (congrArg Value.bool (congrArg Bool.not (decide_eq_false hp3)))) rfl) rfl (rp_p (yab rfl (yaf rfl (congrArg Value.bool (congrArg Bool.not (decide_eq_false hp3)))) rfl) rfl (rp_p (yab rfl (yaf rfl (congrArg Value.bool (congrArg Bool.not (decide_eq_false hp3)))) rfl) rfl (rp_p (yab rfl (yaf rfl (congrArg Value.bool (congrArg Bool.not (decide_eq_false hp3)))) rfl) rfl (rp_p (yab rfl (yaf rfl (congrArg Value.bool (congrArg Bool.not (decide_eq_false hp3)))) rfl) rfl (rp_p (yab rfl (yaf rfl (congrArg Value.bool (congrArg Bool.not (decide_eq_false hp3)))) rfl) rfl (rp_p (yab rfl (yaf rfl (congrArg Value.bool (congrArg Bool.not (decide_eq_false hp3)))) rfl) rfl (rp_p (yab rfl (yaf rfl (congrArg Value.bool (congrArg Bool.not (decide_eq_false hp3)))) rfl) rfl (rp_p (yab rfl (yaf rfl (congrArg Value.bool (congrArg Bool.not (decide_eq_false hp3)))) rfl) rfl (rp_p (yab rfl (yaf rfl (congrArg Value.bool (congrArg Bool.not (decide_eq_false hp3)))) rfl) rfl (rp_p (yab rfl (yaf rfl (congrArg Value.bool (congrArg Bool.not (decide_eq_false hp3)))) rfl) rfl (zp (yaw (v := (.bool (true))) (congrArg Value.bool (congrArg Bool.not (decide_eq_false hp3))) rfl) (ybs (yau rfl (zs (zq (za (.slice none 0 0)) (zq (za (.slice none 0 0)) (zq (za (ii 11)) (yaa (ydF rfl rfl rfl rfl ⟨_, _, _, _, _, _, _, rfl, h⟩)))))))))))))))))))
  · replace h := h.2 hp; refine zf hp (yae (yba [0, 1, 2, 3, 4, 5, 6] st0 ybn (by kernel_rfl) (by kernel_rfl) (zp (zm (.pointer (some pd))) (zp (ybz rfl) (zp (yaj rfl underlying177 rfl yc4) ?_))))); obtain ⟨x7, hc14, h⟩ := h; exact zp (zl underlying29 hc14) (zp (za (.slice none 0 0)) (zp (za (.slice none 0 0)) (zp (za (ii x7)) (ybs (ydF rfl rfl rfl rfl ⟨_, _, _, _, _, _, _, rfl, h⟩)))))
def ybW (u : Int) (cap : Addr) (w : World) (R : Bool → World → Prop) : Prop :=
(∃ Ax : Option Addr, ∃ lx : Nat, ∃ cx : Nat, w.cell? cap = some (Value.slice Ax lx cx) ∧
(Ix Ax lx u ∧
(∃ x : Bool, w.cell? (ixA Ax u 1) = some (Value.bool (x)) ∧
R x w)))
theorem yew (u : Int) (cap : Addr) (w : World) (R : Bool → World → Prop) (h : ybW u cap w R) :
    Calls Try.prog 142 #[(ii u), (.pointer (some cap))] w fun e w' => ∃ r, e = .returned (.bool (r)) ∧ R r w' := by
  unfold ybW at h; refine yap (l := [(ii u), (.pointer (some cap))]) func142 rfl ntmps142 (Nat.le_of_ble_eq_true rfl) (zs (zq (za (.bool (false))) (yaa (zs ?_)))); obtain ⟨Ax, lx, cx, hc, h⟩ := h; refine zq (zl underlying144 hc) (zq (zm (ii u)) ?_); obtain ⟨hx, h⟩ := h; refine zq (zi underlying144 yct hx) ?_; obtain ⟨x, hc2, h⟩ := h; exact zq (zl underlying4 hc2) (zq (za (.bool (x))) (yaa (yak rfl rfl ⟨_, rfl, h⟩)))
def ybL (u : Int) (cap : Addr) (w : World) (R : Bool → World → Prop) : Prop :=
(∃ Ax : Option Addr, ∃ lx : Nat, ∃ cx : Nat, w.cell? cap = some (Value.slice Ax lx cx) ∧
(Ix Ax lx u ∧
(∃ x : Bool, w.cell? (ixA Ax u 1) = some (Value.bool (x)) ∧
R (!(x)) w)))
theorem yd7 (u : Int) (cap : Addr) (w : World) (R : Bool → World → Prop) (h : ybL u cap w R) :
    Calls Try.prog 143 #[(ii u), (.pointer (some cap))] w fun e w' => ∃ r, e = .returned (.bool (r)) ∧ R r w' := by
  unfold ybL at h; refine yap (l := [(ii u), (.pointer (some cap))]) func143 rfl ntmps143 (Nat.le_of_ble_eq_true rfl) (zs (zq (za (.bool (false))) (yaa (zs ?_)))); obtain ⟨Ax, lx, cx, hc, h⟩ := h; refine zq (zl underlying144 hc) (zq (zm (ii u)) ?_); obtain ⟨hx, h⟩ := h; refine zq (zi underlying144 yct hx) ?_; obtain ⟨x, hc2, h⟩ := h; exact zq (zl underlying4 hc2) (zq (ycV rfl) (zq (za (.bool (!(x)))) (yaa (yak rfl rfl ⟨_, rfl, h⟩))))
def ych (g : Int) (Ag : Option Addr) (lg : Nat) (cg : Nat) (q : Int) (Ad : Option Addr) (ld : Nat) (cd : Nat) (w : World) (R : Option Addr → Nat → Nat → Option Addr → Nat → Nat → Int → World → Prop) : Prop :=
(∀ (g2 : Nat) (w2 : World), New w g2 w2 #[(Value.int .i64 g), (Value.slice Ag lg cg)] 24 →
(Calls Try.prog 104 #[(Value.agg #[(Value.int .i64 g), (Value.slice Ag lg cg)]), (Value.int .i64 q), (Value.slice Ad ld cd)] w2 fun e w3 => ∃ r2 : Int, e = .returned (Value.int .i64 r2) ∧
Kp w2 w3 g2 ∧
((r2 = 0 →
(Calls Try.prog 106 #[(Value.agg #[(Value.int .i64 g), (Value.slice Ag lg cg)]), (Value.int .i64 q), (Value.slice Ad ld cd)] w3 fun e w4 => ∃ pr : Addr, e = .returned (Value.pointer (some pr)) ∧
Kp w3 w4 g2 ∧
(Calls Try.prog 110 #[(Value.pointer (some pr))] w4 fun e w5 => e = .returned (Value.tuple #[]) ∧
Kp w4 w5 g2 ∧
(Calls Try.prog 111 #[(Value.pointer (some pr))] w5 fun e w6 => e = .returned (Value.tuple #[]) ∧
Kp w5 w6 g2 ∧
(Calls Try.prog 112 #[(Value.pointer (some pr))] w6 fun e w7 => ∃ Ar3 : Option Addr, ∃ lr3 : Nat, ∃ cr3 : Nat, ∃ Ar4 : Option Addr, ∃ lr4 : Nat, ∃ cr4 : Nat, ∃ r3 : Int, e = .returned (Value.tuple #[(Value.slice Ar3 lr3 cr3), (Value.slice Ar4 lr4 cr4), (Value.int .i64 r3)]) ∧
Kp w6 w7 g2 ∧
R Ar3 lr3 cr3 Ar4 lr4 cr4 r3 w7))))) ∧
(¬ (r2 = 0) →
R none 0 0 none 0 0 r2 w3))))
theorem yeq (g : Int) (Ag : Option Addr) (lg : Nat) (cg : Nat) (q : Int) (Ad : Option Addr) (ld : Nat) (cd : Nat) (w : World) (R : Option Addr → Nat → Nat → Option Addr → Nat → Nat → Int → World → Prop) (h : ych g Ag lg cg q Ad ld cd w R) :
    Calls Try.prog 75 #[(.agg #[(ii g), (.slice Ag lg cg)]), (ii q), (.slice Ad ld cd)] w fun e w' => ∃ Ar lr cr Ar2 lr2 cr2 r, e = .returned (.tuple #[(.slice Ar lr cr), (.slice Ar2 lr2 cr2), (ii r)]) ∧ R Ar lr cr Ar2 lr2 cr2 r w' := by
  unfold ych at h; refine yap (l := [(.agg #[(ii g), (.slice Ag lg cg)]), (ii q), (.slice Ad ld cd)]) func75 rfl ntmps75 (Nat.le_of_ble_eq_true rfl) (zs (zn (ybq (v := (.agg #[(ii g), (.slice Ag lg cg)])) rfl ?_))); intro g2 w2 hN; replace h := h g2 w2 hN; have rB : Row w2 g2 24 2 [(ii g), (.slice Ag lg cg)] := hN.row; clear hN; refine zb (zq (za (.slice none 0 0)) (zq (za (.slice none 0 0)) (zq (za (ii 0)) (yaa (yae (zs (zq (yas (vs := [(ii g), (.slice Ag lg cg)]) rfl underlying24 rfl yaq ⟨Row.cell rB (i := 0) rfl, Row.cell rB (i := 1) rfl, trivial⟩) (zq (zm (ii q)) (zq (zm (.slice Ad ld cd)) (zn (yan rfl (am3 rfl rfl rfl) enter_104 (h.mono ?_)))))))))))); rintro _ w3 ⟨r2, rfl, hk, h⟩; replace rB := rB.kp hk; refine ⟨_, rfl, Stb.none _, ?_⟩; refine zq (za (ii r2)) (yaa (zs (zq (zm (ii r2)) (zq zN (yaa ?_))))); by_cases hp : r2 = 0
  · replace h := h.1 hp; refine ze hp (yai (zs (zq (yas (vs := [(ii g), (.slice Ag lg cg)]) rfl underlying24 rfl yaq ⟨Row.cell rB (i := 0) rfl, Row.cell rB (i := 1) rfl, trivial⟩) (zq (zm (ii q)) (zq (zm (.slice Ad ld cd)) (zn (yan rfl (am3 rfl rfl rfl) enter_106 (h.mono ?_)))))))); rintro _ w4 ⟨pr, rfl, hk2, h⟩; replace rB := rB.kp hk2; refine ⟨_, rfl, Stb.none _, ?_⟩; refine zq (za (.pointer (some pr))) (yaa (zs (zq (zm (.pointer (some pr))) (zn (yan rfl (am1 rfl) enter_110 (h.mono ?_)))))); rintro _ w5 ⟨rfl, hk3, h⟩; replace rB := rB.kp hk3; refine ⟨_, rfl, Stb.none _, ?_⟩; refine yaa (zs (zq (zm (.pointer (some pr))) (zn (yan rfl (am1 rfl) enter_111 (h.mono ?_))))); rintro _ w6 ⟨rfl, hk4, h⟩; replace rB := rB.kp hk4; refine ⟨_, rfl, Stb.none _, ?_⟩; refine yaa (zs (zq (zm (.pointer (some pr))) (zn (yan rfl (am1 rfl) enter_112 (h.mono ?_))))); rintro _ w7 ⟨Ar3, lr3, cr3, Ar4, lr4, cr4, r3, rfl, hk5, h⟩; replace rB := rB.kp hk5; refine ⟨_, rfl, Stb.none _, ?_⟩; exact zq (zx (.slice Ar3 lr3 cr3)) (zq (zx (.slice Ar4 lr4 cr4)) (zq (zx (ii r3)) (zq (za (.slice Ar3 lr3 cr3)) (zq (za (.slice Ar4 lr4 cr4)) (zq (za (ii r3)) (yaa (ydF rfl rfl rfl rfl ⟨_, _, _, _, _, _, _, rfl, h⟩)))))))
  · replace h := h.2 hp; exact zf hp (zs (zq (zm (ii r2)) (zq (za (.slice none 0 0)) (zq (za (.slice none 0 0)) (zq (za (ii r2)) (yaa (ydF rfl rfl rfl rfl ⟨_, _, _, _, _, _, _, rfl, h⟩)))))))
def yd8 (Ax : Option Addr) (lx : Nat) (cx : Nat) (w : World) (R : Int → World → Prop) : Prop :=
(∃ J2 : World → Prop, (∀ (w2 : World), J2 w2 → (Ix Ax lx 0 ∧
(∃ x : Int, w2.cell? (ixA Ax 0 1) = some (Value.int .i64 x) ∧
(∃ I2 : Nat → Int → Int → World → Prop, (∃ m0, I2 m0 x 1 w2) ∧ ∀ m1 m2 i w3, I2 m1 m2 i w3 → 
((i < ((lx : Nat) : Int) →
(Ix Ax lx i ∧
(∃ x2 : Int, w3.cell? (ixA Ax i 1) = some (Value.int .i64 x2) ∧
(In64 (i + 1) ∧
∃ m3, m3 < m1 ∧ I2 m3 (mxF m2 x2) (i + 1) w3)))) ∧
(¬ (i < ((lx : Nat) : Int)) →
R m2 w3)))))) ∧
((((lx : Nat) : Int) < 1 →
False) ∧
(¬ (((lx : Nat) : Int) < 1) →
J2 w)))
theorem ok_slices_Max_ (Ax : Option Addr) (lx : Nat) (cx : Nat) (w : World) (R : Int → World → Prop) (h : yd8 Ax lx cx w R) :
    Calls Try.prog 141 #[(.slice Ax lx cx)] w fun e w' => ∃ r, e = .returned (ii r) ∧ R r w' := by
  unfold yd8 at h; refine yap (l := [(.slice Ax lx cx)]) func141 rfl ntmps141 (Nat.le_of_ble_eq_true rfl) (zs (zq (za (ii 0)) (yaa (yae (zs (zq (zm (.slice Ax lx cx)) (zq (ygL rfl underlying25) (zq zL (yaa ?_))))))))); obtain ⟨J2, hJ, h⟩ := h; refine ygT (fun E ds w' => J2 w' ∧ ds = [] ∧ E 0 = (Value.slice Ax lx cx)) ?_ ?_
  · rintro E ds w2 ⟨h, rfl, hE0⟩; replace h := hJ w2 h; refine zs (zq (yac hE0) ?_); obtain ⟨hx, h⟩ := h; refine zq (zi underlying25 yah hx) ?_; obtain ⟨x, hc, h⟩ := h; refine zq (zl underlying3 hc) (zq (za (ii x)) (yaa (yae (zs (zq (za (ii 1)) (yaa (yam ?_))))))); obtain ⟨I2, ⟨m0, h0⟩, hr⟩ := h; refine yaC (fun m E ds w' => ∃ m2 i, I2 m m2 i w' ∧ ds = [] ∧ E 0 = (Value.slice Ax lx cx) ∧ E 3 = (ii m2) ∧ E 4 = (ii i)) m0 ⟨_, _, h0, rfl, hE0, rfl, rfl⟩ ?_; clear h0; rintro m1 E ds w3 ⟨m2, i, h, rfl, hE0, hE3, hE4⟩ again; replace h := hr m1 m2 i w3 h; clear hr; refine yae (zs (zq (yac hE4) (zq (yac hE0) (zq (ygL rfl underlying25) (zq zL (yaa ?_)))))); by_cases hp : i < ((lx : Nat) : Int)
    · replace h := h.1 hp; refine zc hp (yai (yae (yam (zr (zq (yac hE3) (zq (yac hE0) (zq (yac hE4) ?_))))))); obtain ⟨hx2, h⟩ := h; refine zq (zi underlying25 yah hx2) ?_; obtain ⟨x2, hc2, h⟩ := h; refine zq (zl underlying3 hc2) (zq (v_max2 rfl rfl) (zq (za (ii (mxF m2 x2))) (yaa (yal (zr (zq (yac hE4) ?_)))))); obtain ⟨hi, h⟩ := h; refine zq (zA hi) (zq (za (ii (i + 1))) (yaa ?_)); obtain ⟨mq, hlt, h⟩ := h; exact again mq _ _ _ ⟨_, _, h, rfl, hE0, rfl, rfl⟩ hlt
    · replace h := h.2 hp; exact zd hp (yaA rfl (zs (zq (yac hE3) (zq (za (ii m2)) (yaa (yak rfl rfl ⟨_, rfl, h⟩))))))
  clear hJ; intro j; by_cases hp2 : ((lx : Nat) : Int) < 1
  · replace h := h.1 hp2; exact zc hp2 (zr h.elim)
  · replace h := h.2 hp2; exact zd hp2 (yai (j _ _ _ ⟨h, rfl, rfl⟩))
end Go.Proofs.Ytmeoemmemjipdaa

/- Shallow forms of functions, made by program (sh.py), each with the proof that the code does so. -/
namespace Go.Proofs.Ytmeoemmemjipdaa
open Go Go.RowKit Go.Shelf Go.Proofs.Try
set_option linter.unusedVariables false
set_option maxRecDepth 100000
set_option maxHeartbeats 1000000
def yc5 (Ax : Option Addr) (lx : Nat) (cx : Nat) (count : Int) (w : World) (R : Option Addr → Nat → Nat → World → Prop) : Prop :=
(∃ J2 : World → Prop, (∀ (w2 : World), J2 w2 → (InK .u64 ((lx : Nat) : Int) ∧
(InK .u64 count ∧
(Calls Try.prog 172 #[(Value.int .u64 ((lx : Nat) : Int)), (Value.int .u64 count)] w2 fun e w3 => ∃ r : Int, ∃ r2 : Int, e = .returned (Value.tuple #[(Value.int .u64 r), (Value.int .u64 r2)]) ∧
(∃ J3 : World → Prop, (∀ (w4 : World), J3 w4 → (In64 r2 ∧
((0 ≤ r2 ∧ r2 ≤ 1000000) ∧
∀ (g : Nat) (w5 : World), New w4 g w5 (Array.replicate r2.toNat (Value.int .i64 0)) 3 →
(∃ (bl o : Nat) (ad : Addr) (nw : List Value), ((some ⟨g, 0, none⟩) : Option Addr) = some ⟨bl, o, none⟩ ∧ Ax = some ad ∧ nw.length = min lx r2.toNat ∧ (∀ j u, nw[j]? = some u → w5.cell? (ad.add j) = some u) ∧ (∀ u ∈ nw, u.oneCell' = true) ∧ w5.there bl o nw.length ∧
∀ w6, w6 = w5.setCells bl o nw →
(∃ I2 : Nat → Int → World → Prop, (∃ m0, I2 m0 ((min lx r2.toNat : Nat) : Int) w6) ∧ ∀ m1 n w7, I2 m1 n w7 → 
((n < ((r2.toNat : Nat) : Int) →
((0 ≤ n ∧ n ≤ ((r2.toNat : Nat) : Int)) ∧
((0 ≤ n ∧ n ≤ ((r2.toNat : Nat) : Int)) ∧
(∃ (bl2 o2 : Nat) (ad2 : Addr) (nw2 : List Value), ((slA (some ⟨g, 0, none⟩) r2.toNat n.toNat 1) : Option Addr) = some ⟨bl2, o2, none⟩ ∧ (some ⟨g, 0, none⟩) = some ad2 ∧ nw2.length = min (n.toNat) (r2.toNat - n.toNat) ∧ (∀ j u, nw2[j]? = some u → w7.drew.cell? (ad2.add j) = some u) ∧ (∀ u ∈ nw2, u.oneCell' = true) ∧ w7.drew.there bl2 o2 nw2.length ∧
∀ w8, w8 = w7.drew.setCells bl2 o2 nw2 →
(In64 (n + ((min (n.toNat) (r2.toNat - n.toNat) : Nat) : Int)) ∧
∃ m2, m2 < m1 ∧ I2 m2 (n + ((min (n.toNat) (r2.toNat - n.toNat) : Nat) : Int)) w8))))) ∧
(¬ (n < ((r2.toNat : Nat) : Int)) →
R (some ⟨g, 0, none⟩) r2.toNat r2.toNat w7))))))) ∧
((0 < r →
False) ∧
(¬ (0 < r) →
((9223372036854775807 < r2 →
False) ∧
(¬ (9223372036854775807 < r2) →
J3 w3))))))))) ∧
((count < 0 →
False) ∧
(¬ (count < 0) →
J2 w)))
theorem yga (Ax : Option Addr) (lx : Nat) (cx : Nat) (count : Int) (w : World) (R : Option Addr → Nat → Nat → World → Prop) (h : yc5 Ax lx cx count w R) :
    Calls Try.prog 165 #[(.slice Ax lx cx), (ii count)] w fun e w' => ∃ Ar lr cr, e = .returned (.slice Ar lr cr) ∧ R Ar lr cr w' := by
  unfold yc5 at h; refine yap (l := [(.slice Ax lx cx), (ii count)]) func165 rfl ntmps165 (Nat.le_of_ble_eq_true rfl) (zs (zq (za (.slice none 0 0)) (yaa (yae (zs (zq (zm (ii count)) (zq zL (yaa ?_)))))))); obtain ⟨J2, hJ, h⟩ := h; refine ygT (fun E ds w' => J2 w' ∧ ds = [] ∧ E 0 = (Value.slice Ax lx cx) ∧ E 1 = (ii count)) ?_ ?_
  · rintro E ds w2 ⟨h, rfl, hE0, hE1⟩; replace h := hJ w2 h; refine zs (zq (yac hE0) (zq (ygL rfl underlying25) ?_)); obtain ⟨hi, h⟩ := h; refine zq (v_convk rfl underlying3 underlying209 hi) (zq (yac hE1) ?_); obtain ⟨hi2, h⟩ := h; refine zq (v_convk rfl underlying3 underlying209 hi2) (zn (yan rfl (am2 rfl rfl) enter_172 (h.mono ?_))); rintro _ w3 ⟨r, r2, rfl, h⟩; refine ⟨_, rfl, Stb.none _, ?_⟩; refine zq (zm (.tuple #[(.int .u64 r), (.int .u64 r2)])) (zq (zx (.int .u64 r)) (zq (zx (.int .u64 r2)) (zq (za (.int .u64 r)) (zq (za (.int .u64 r2)) (yaa (yae (yae ?_))))))); obtain ⟨J3, hJ, h⟩ := h; refine ydX (fun E ds w' => J3 w' ∧ ds = [] ∧ E 0 = (Value.slice Ax lx cx) ∧ E 6 = (Value.int .u64 r2)) ?_ ?_
    · rintro E ds w4 ⟨h, rfl, hE0, hE6⟩; replace h := hJ w4 h; refine zs (zq (yac hE6) ?_); obtain ⟨hi3, h⟩ := h; refine zq (v_conv rfl underlying209 underlying3 hi3) ?_; obtain ⟨hn, h⟩ := h; refine zn (yfK rfl rfl underlying25 yah (by decide) rfl hn ?_); intro g w5 hN; replace h := h g w5 hN; clear hN; refine zb (zq (za (.slice (some ⟨g, 0, none⟩) r2.toNat r2.toNat)) (yaa (zs (zq (zm (.slice (some ⟨g, 0, none⟩) r2.toNat r2.toNat)) (zq (yac hE0) ?_))))); obtain ⟨bl, o, ad, nw, q1, q2, q3, q4, q5, q6, h⟩ := h; refine zn (n_copy rfl rfl underlying25 yah ⟨bl, o, ad, nw, q1, q2, q3, q4, q5, q6, ?_⟩); intro w6 ew; replace h := h w6 ew; clear ew q1 q2 q3 q4 q5 q6; refine zb (zq (za (ii ((min lx r2.toNat : Nat) : Int))) (yaa (yae (yam ?_)))); obtain ⟨I2, ⟨m0, h0⟩, hr⟩ := h; refine yaC (fun m E ds w' => ∃ n, I2 m n w' ∧ ds = [] ∧ E 7 = (Value.slice (some ⟨g, 0, none⟩) r2.toNat r2.toNat) ∧ E 8 = (ii n)) m0 ⟨_, h0, rfl, rfl, rfl⟩ ?_; clear h0; rintro m1 E ds w7 ⟨n, h, rfl, hE7, hE8⟩ again; replace h := hr m1 n w7 h; clear hr; refine yae (zs (zq (yac hE8) (zq (yac hE7) (zq (ygL rfl underlying25) (zq zL (yaa ?_)))))); by_cases hp : n < ((r2.toNat : Nat) : Int)
      · replace h := h.1 hp; refine zc hp (yai (yam (yba [0, 1, 2, 3, 4, 5, 6, 7, 8, 9] (fun i => match i with | 7 => [0] | _ => []) ybn (by kernel_rfl) (by kernel_rfl) ?_))); refine zp (yac hE8) (zp (yac hE7) (zp (yac hE8) ?_)); obtain ⟨hs, h⟩ := h; refine zp (v_slice_l rfl rfl underlying25 yah hs) (zp (yac hE7) (zp (yac hE8) ?_)); obtain ⟨hs2, h⟩ := h; refine zp (v_slice_h rfl rfl underlying25 yah hs2) ?_; obtain ⟨bl2, o2, ad2, nw2, q1, q2, q3, q4, q5, q6, h⟩ := h; refine rp_n rfl rfl rfl rfl (n_copy rfl rfl underlying25 yah ⟨bl2, o2, ad2, nw2, q1, q2, q3, q4, q5, q6, ?_⟩); intro w8 ew2; replace h := h w8 ew2; clear ew2 q1 q2 q3 q4 q5 q6; refine ⟨⟨fun hh => Bool.noConfusion (show false = true from hh), ⟨fun hh => Bool.noConfusion (show false = true from hh), ⟨fun hh => Bool.noConfusion (show false = true from hh), ⟨fun hh => Bool.noConfusion (show false = true from hh), ⟨fun hh => Bool.noConfusion (show false = true from hh), ⟨fun hh => Bool.noConfusion (show false = true from hh), ⟨fun _ => (yac hE8), trivial⟩⟩⟩⟩⟩⟩⟩, ?_⟩; obtain ⟨hi4, h⟩ := h; refine zp (zA hi4) (zp (za (ii (n + ((min (n.toNat) (r2.toNat - n.toNat) : Nat) : Int)))) (ybs (yal ?_))); obtain ⟨mq, hlt, h⟩ := h; exact again mq _ _ _ ⟨_, h, rfl, hE7, rfl⟩ hlt
      · replace h := h.2 hp; exact zd hp (yaA rfl (zs (zq (yac hE7) (zq (za (.slice (some ⟨g, 0, none⟩) r2.toNat r2.toNat)) (yaa (yak rfl rfl ⟨_, _, _, rfl, h⟩))))))
    clear hJ; intro j2; refine zr (zq (zm (.int .u64 r)) (zq zG (zq (zm (.bool (decide (0 < r)))) ?_))); by_cases hp2 : 0 < r
    · replace h := h.1 hp2; exact rl_p (yab rfl (yaf rfl (congrArg Value.bool (decide_eq_true hp2))) rfl) rfl (rl_p (yab rfl (yaf rfl (congrArg Value.bool (decide_eq_true hp2))) rfl) rfl (zq (yaw (v := (.bool (true))) (congrArg Value.bool (decide_eq_true hp2)) rfl) (yaa (yau rfl (zr h.elim)))))
    · replace h := h.2 hp2; refine rl_q (yad rfl (yaf rfl (congrArg Value.bool (decide_eq_false hp2)))) rfl rfl (zm (.int .u64 r2)) (rl_q (yad rfl (yaf rfl (congrArg Value.bool (decide_eq_false hp2)))) rfl rfl zG (zq (yay (v := (.bool (decide (9223372036854775807 < r2)))) (congrArg Value.bool (decide_eq_false hp2)) rfl) (yaa ?_))); by_cases hp3 : 9223372036854775807 < r2
      · replace h := h.1 hp3; exact zc hp3 (zr h.elim)
      · replace h := h.2 hp3; exact zd hp3 (yai (j2 _ _ _ ⟨h, rfl, hE0, rfl⟩))
  clear hJ; intro j; by_cases hp4 : count < 0
  · replace h := h.1 hp4; exact zc hp4 (zr h.elim)
  · replace h := h.2 hp4; exact zd hp4 (yai (j _ _ _ ⟨h, rfl, rfl, rfl⟩))
def ydr (x : Int) (y : Int) (w : World) (R : Int → Int → World → Prop) : Prop :=
(Calls Try.prog 174 #[(Value.int .u64 x), (Value.int .u64 y)] w fun e w2 => ∃ r3 : Int, ∃ r4 : Int, e = .returned (Value.tuple #[(Value.int .u64 r3), (Value.int .u64 r4)]) ∧
R r3 r4 w2)
theorem ygF (x : Int) (y : Int) (w : World) (R : Int → Int → World → Prop) (h : ydr x y w R) :
    Calls Try.prog 172 #[(.int .u64 x), (.int .u64 y)] w fun e w' => ∃ r r2, e = .returned (.tuple #[(.int .u64 r), (.int .u64 r2)]) ∧ R r r2 w' := by
  unfold ydr at h; refine yap (l := [(.int .u64 x), (.int .u64 y)]) func172 rfl ntmps172 (Nat.le_of_ble_eq_true rfl) (zs (zq (za (.int .u64 0)) (zq (za (.int .u64 0)) (yaa (yae (yaz rfl (yai (zs (zq (zm (.int .u64 x)) (zq (zm (.int .u64 y)) (zn (yan rfl (am2 rfl rfl) enter_174 (h.mono ?_))))))))))))); rintro _ w2 ⟨r3, r4, rfl, h⟩; refine ⟨_, rfl, Stb.none _, ?_⟩; exact zq (zm (.tuple #[(.int .u64 r3), (.int .u64 r4)])) (zq (zx (.int .u64 r3)) (zq (zx (.int .u64 r4)) (zq (za (.int .u64 r3)) (zq (za (.int .u64 r4)) (yaa (zs (zq (zm (.int .u64 r3)) (zq (zm (.int .u64 r4)) (zq (za (.int .u64 r3)) (zq (za (.int .u64 r4)) (yaa (ya2 rfl rfl rfl ⟨_, _, rfl, h⟩))))))))))))
def ycJ (x : Int) (y : Int) (w : World) (R : Int → Int → World → Prop) : Prop :=
((0 ≤ x ∧ x < 18446744073709551616 ∧ 0 ≤ (4294967295 : Int) ∧ (4294967295 : Int) < 18446744073709551616) ∧
((0 ≤ (32 : Int) ∧ (32 : Int) < 64) ∧
((0 ≤ y ∧ y < 18446744073709551616 ∧ 0 ≤ (4294967295 : Int) ∧ (4294967295 : Int) < 18446744073709551616) ∧
((0 ≤ (32 : Int) ∧ (32 : Int) < 64) ∧
(InK .u64 (((x.toNat &&& (4294967295 : Int).toNat : Nat) : Int) * ((y.toNat &&& (4294967295 : Int).toNat : Nat) : Int)) ∧
(InK .u64 ((x / 2 ^ (32 : Int).toNat) * ((y.toNat &&& (4294967295 : Int).toNat : Nat) : Int)) ∧
((0 ≤ (32 : Int) ∧ (32 : Int) < 64) ∧
(InK .u64 (((x / 2 ^ (32 : Int).toNat) * ((y.toNat &&& (4294967295 : Int).toNat : Nat) : Int)) + ((((x.toNat &&& (4294967295 : Int).toNat : Nat) : Int) * ((y.toNat &&& (4294967295 : Int).toNat : Nat) : Int)) / 2 ^ (32 : Int).toNat)) ∧
((0 ≤ (((x / 2 ^ (32 : Int).toNat) * ((y.toNat &&& (4294967295 : Int).toNat : Nat) : Int)) + ((((x.toNat &&& (4294967295 : Int).toNat : Nat) : Int) * ((y.toNat &&& (4294967295 : Int).toNat : Nat) : Int)) / 2 ^ (32 : Int).toNat)) ∧ (((x / 2 ^ (32 : Int).toNat) * ((y.toNat &&& (4294967295 : Int).toNat : Nat) : Int)) + ((((x.toNat &&& (4294967295 : Int).toNat : Nat) : Int) * ((y.toNat &&& (4294967295 : Int).toNat : Nat) : Int)) / 2 ^ (32 : Int).toNat)) < 18446744073709551616 ∧ 0 ≤ (4294967295 : Int) ∧ (4294967295 : Int) < 18446744073709551616) ∧
((0 ≤ (32 : Int) ∧ (32 : Int) < 64) ∧
(InK .u64 (((x.toNat &&& (4294967295 : Int).toNat : Nat) : Int) * (y / 2 ^ (32 : Int).toNat)) ∧
(InK .u64 ((((((x / 2 ^ (32 : Int).toNat) * ((y.toNat &&& (4294967295 : Int).toNat : Nat) : Int)) + ((((x.toNat &&& (4294967295 : Int).toNat : Nat) : Int) * ((y.toNat &&& (4294967295 : Int).toNat : Nat) : Int)) / 2 ^ (32 : Int).toNat)).toNat &&& (4294967295 : Int).toNat : Nat) : Int) + (((x.toNat &&& (4294967295 : Int).toNat : Nat) : Int) * (y / 2 ^ (32 : Int).toNat))) ∧
(InK .u64 ((x / 2 ^ (32 : Int).toNat) * (y / 2 ^ (32 : Int).toNat)) ∧
(InK .u64 (((x / 2 ^ (32 : Int).toNat) * (y / 2 ^ (32 : Int).toNat)) + ((((x / 2 ^ (32 : Int).toNat) * ((y.toNat &&& (4294967295 : Int).toNat : Nat) : Int)) + ((((x.toNat &&& (4294967295 : Int).toNat : Nat) : Int) * ((y.toNat &&& (4294967295 : Int).toNat : Nat) : Int)) / 2 ^ (32 : Int).toNat)) / 2 ^ (32 : Int).toNat)) ∧
((0 ≤ (32 : Int) ∧ (32 : Int) < 64) ∧
(InK .u64 ((((x / 2 ^ (32 : Int).toNat) * (y / 2 ^ (32 : Int).toNat)) + ((((x / 2 ^ (32 : Int).toNat) * ((y.toNat &&& (4294967295 : Int).toNat : Nat) : Int)) + ((((x.toNat &&& (4294967295 : Int).toNat : Nat) : Int) * ((y.toNat &&& (4294967295 : Int).toNat : Nat) : Int)) / 2 ^ (32 : Int).toNat)) / 2 ^ (32 : Int).toNat)) + (((((((x / 2 ^ (32 : Int).toNat) * ((y.toNat &&& (4294967295 : Int).toNat : Nat) : Int)) + ((((x.toNat &&& (4294967295 : Int).toNat : Nat) : Int) * ((y.toNat &&& (4294967295 : Int).toNat : Nat) : Int)) / 2 ^ (32 : Int).toNat)).toNat &&& (4294967295 : Int).toNat : Nat) : Int) + (((x.toNat &&& (4294967295 : Int).toNat : Nat) : Int) * (y / 2 ^ (32 : Int).toNat))) / 2 ^ (32 : Int).toNat)) ∧
(InK .u64 (x * y) ∧
R ((((x / 2 ^ (32 : Int).toNat) * (y / 2 ^ (32 : Int).toNat)) + ((((x / 2 ^ (32 : Int).toNat) * ((y.toNat &&& (4294967295 : Int).toNat : Nat) : Int)) + ((((x.toNat &&& (4294967295 : Int).toNat : Nat) : Int) * ((y.toNat &&& (4294967295 : Int).toNat : Nat) : Int)) / 2 ^ (32 : Int).toNat)) / 2 ^ (32 : Int).toNat)) + (((((((x / 2 ^ (32 : Int).toNat) * ((y.toNat &&& (4294967295 : Int).toNat : Nat) : Int)) + ((((x.toNat &&& (4294967295 : Int).toNat : Nat) : Int) * ((y.toNat &&& (4294967295 : Int).toNat : Nat) : Int)) / 2 ^ (32 : Int).toNat)).toNat &&& (4294967295 : Int).toNat : Nat) : Int) + (((x.toNat &&& (4294967295 : Int).toNat : Nat) : Int) * (y / 2 ^ (32 : Int).toNat))) / 2 ^ (32 : Int).toNat)) (x * y) w)))))))))))))))))
theorem yfP (x : Int) (y : Int) (w : World) (R : Int → Int → World → Prop) (h : ycJ x y w R) :
    Calls Try.prog 174 #[(.int .u64 x), (.int .u64 y)] w fun e w' => ∃ r r2, e = .returned (.tuple #[(.int .u64 r), (.int .u64 r2)]) ∧ R r r2 w' := by
  unfold ycJ at h; refine yap (l := [(.int .u64 x), (.int .u64 y)]) func174 rfl ntmps174 (Nat.le_of_ble_eq_true rfl) (zs (zq (za (.int .u64 0)) (zq (za (.int .u64 0)) (yaa (zs (zq (zm (.int .u64 x)) ?_)))))); obtain ⟨hz, h⟩ := h; refine zq (v_andu rfl rfl hz) (zq (za (.int .u64 ((x.toNat &&& (4294967295 : Int).toNat : Nat) : Int))) (yaa (zs (zq (zm (.int .u64 x)) ?_)))); obtain ⟨hz2, h⟩ := h; refine zq (v_shru rfl rfl hz2) (zq (za (.int .u64 (x / 2 ^ (32 : Int).toNat))) (yaa (zs (zq (zm (.int .u64 y)) ?_)))); obtain ⟨hz3, h⟩ := h; refine zq (v_andu rfl rfl hz3) (zq (za (.int .u64 ((y.toNat &&& (4294967295 : Int).toNat : Nat) : Int))) (yaa (zs (zq (zm (.int .u64 y)) ?_)))); obtain ⟨hz4, h⟩ := h; refine zq (v_shru rfl rfl hz4) (zq (za (.int .u64 (y / 2 ^ (32 : Int).toNat))) (yaa (zs (zq (zm (.int .u64 ((x.toNat &&& (4294967295 : Int).toNat : Nat) : Int))) (zq (zm (.int .u64 ((y.toNat &&& (4294967295 : Int).toNat : Nat) : Int))) ?_))))); obtain ⟨hi, h⟩ := h; refine zq (v_mulk rfl rfl hi) (zq (za (.int .u64 (((x.toNat &&& (4294967295 : Int).toNat : Nat) : Int) * ((y.toNat &&& (4294967295 : Int).toNat : Nat) : Int)))) (yaa (zs (zq (zm (.int .u64 (x / 2 ^ (32 : Int).toNat))) (zq (zm (.int .u64 ((y.toNat &&& (4294967295 : Int).toNat : Nat) : Int))) ?_))))); obtain ⟨hi2, h⟩ := h; refine zq (v_mulk rfl rfl hi2) (zq (zm (.int .u64 (((x.toNat &&& (4294967295 : Int).toNat : Nat) : Int) * ((y.toNat &&& (4294967295 : Int).toNat : Nat) : Int)))) ?_); obtain ⟨hz5, h⟩ := h; refine zq (v_shru rfl rfl hz5) ?_; obtain ⟨hi3, h⟩ := h; refine zq (v_addk rfl rfl hi3) (zq (za (.int .u64 (((x / 2 ^ (32 : Int).toNat) * ((y.toNat &&& (4294967295 : Int).toNat : Nat) : Int)) + ((((x.toNat &&& (4294967295 : Int).toNat : Nat) : Int) * ((y.toNat &&& (4294967295 : Int).toNat : Nat) : Int)) / 2 ^ (32 : Int).toNat)))) (yaa (zs (zq (zm (.int .u64 (((x / 2 ^ (32 : Int).toNat) * ((y.toNat &&& (4294967295 : Int).toNat : Nat) : Int)) + ((((x.toNat &&& (4294967295 : Int).toNat : Nat) : Int) * ((y.toNat &&& (4294967295 : Int).toNat : Nat) : Int)) / 2 ^ (32 : Int).toNat)))) ?_)))); obtain ⟨hz6, h⟩ := h; refine zq (v_andu rfl rfl hz6) (zq (za (.int .u64 (((((x / 2 ^ (32 : Int).toNat) * ((y.toNat &&& (4294967295 : Int).toNat : Nat) : Int)) + ((((x.toNat &&& (4294967295 : Int).toNat : Nat) : Int) * ((y.toNat &&& (4294967295 : Int).toNat : Nat) : Int)) / 2 ^ (32 : Int).toNat)).toNat &&& (4294967295 : Int).toNat : Nat) : Int))) (yaa (zs (zq (zm (.int .u64 (((x / 2 ^ (32 : Int).toNat) * ((y.toNat &&& (4294967295 : Int).toNat : Nat) : Int)) + ((((x.toNat &&& (4294967295 : Int).toNat : Nat) : Int) * ((y.toNat &&& (4294967295 : Int).toNat : Nat) : Int)) / 2 ^ (32 : Int).toNat)))) ?_)))); obtain ⟨hz7, h⟩ := h; refine zq (v_shru rfl rfl hz7) (zq (za (.int .u64 ((((x / 2 ^ (32 : Int).toNat) * ((y.toNat &&& (4294967295 : Int).toNat : Nat) : Int)) + ((((x.toNat &&& (4294967295 : Int).toNat : Nat) : Int) * ((y.toNat &&& (4294967295 : Int).toNat : Nat) : Int)) / 2 ^ (32 : Int).toNat)) / 2 ^ (32 : Int).toNat))) (yaa (zs (zq (zm (.int .u64 (((((x / 2 ^ (32 : Int).toNat) * ((y.toNat &&& (4294967295 : Int).toNat : Nat) : Int)) + ((((x.toNat &&& (4294967295 : Int).toNat : Nat) : Int) * ((y.toNat &&& (4294967295 : Int).toNat : Nat) : Int)) / 2 ^ (32 : Int).toNat)).toNat &&& (4294967295 : Int).toNat : Nat) : Int))) (zq (zm (.int .u64 ((x.toNat &&& (4294967295 : Int).toNat : Nat) : Int))) (zq (zm (.int .u64 (y / 2 ^ (32 : Int).toNat))) ?_)))))); obtain ⟨hi4, h⟩ := h; refine zq (v_mulk rfl rfl hi4) ?_; obtain ⟨hi5, h⟩ := h; refine zq (v_addk rfl rfl hi5) (zq (za (.int .u64 ((((((x / 2 ^ (32 : Int).toNat) * ((y.toNat &&& (4294967295 : Int).toNat : Nat) : Int)) + ((((x.toNat &&& (4294967295 : Int).toNat : Nat) : Int) * ((y.toNat &&& (4294967295 : Int).toNat : Nat) : Int)) / 2 ^ (32 : Int).toNat)).toNat &&& (4294967295 : Int).toNat : Nat) : Int) + (((x.toNat &&& (4294967295 : Int).toNat : Nat) : Int) * (y / 2 ^ (32 : Int).toNat))))) (yaa (zs (zq (zm (.int .u64 (x / 2 ^ (32 : Int).toNat))) (zq (zm (.int .u64 (y / 2 ^ (32 : Int).toNat))) ?_))))); obtain ⟨hi6, h⟩ := h; refine zq (v_mulk rfl rfl hi6) (zq (zm (.int .u64 ((((x / 2 ^ (32 : Int).toNat) * ((y.toNat &&& (4294967295 : Int).toNat : Nat) : Int)) + ((((x.toNat &&& (4294967295 : Int).toNat : Nat) : Int) * ((y.toNat &&& (4294967295 : Int).toNat : Nat) : Int)) / 2 ^ (32 : Int).toNat)) / 2 ^ (32 : Int).toNat))) ?_); obtain ⟨hi7, h⟩ := h; refine zq (v_addk rfl rfl hi7) (zq (zm (.int .u64 ((((((x / 2 ^ (32 : Int).toNat) * ((y.toNat &&& (4294967295 : Int).toNat : Nat) : Int)) + ((((x.toNat &&& (4294967295 : Int).toNat : Nat) : Int) * ((y.toNat &&& (4294967295 : Int).toNat : Nat) : Int)) / 2 ^ (32 : Int).toNat)).toNat &&& (4294967295 : Int).toNat : Nat) : Int) + (((x.toNat &&& (4294967295 : Int).toNat : Nat) : Int) * (y / 2 ^ (32 : Int).toNat))))) ?_); obtain ⟨hz8, h⟩ := h; refine zq (v_shru rfl rfl hz8) ?_; obtain ⟨hi8, h⟩ := h; refine zq (v_addk rfl rfl hi8) (zq (za (.int .u64 ((((x / 2 ^ (32 : Int).toNat) * (y / 2 ^ (32 : Int).toNat)) + ((((x / 2 ^ (32 : Int).toNat) * ((y.toNat &&& (4294967295 : Int).toNat : Nat) : Int)) + ((((x.toNat &&& (4294967295 : Int).toNat : Nat) : Int) * ((y.toNat &&& (4294967295 : Int).toNat : Nat) : Int)) / 2 ^ (32 : Int).toNat)) / 2 ^ (32 : Int).toNat)) + (((((((x / 2 ^ (32 : Int).toNat) * ((y.toNat &&& (4294967295 : Int).toNat : Nat) : Int)) + ((((x.toNat &&& (4294967295 : Int).toNat : Nat) : Int) * ((y.toNat &&& (4294967295 : Int).toNat : Nat) : Int)) / 2 ^ (32 : Int).toNat)).toNat &&& (4294967295 : Int).toNat : Nat) : Int) + (((x.toNat &&& (4294967295 : Int).toNat : Nat) : Int) * (y / 2 ^ (32 : Int).toNat))) / 2 ^ (32 : Int).toNat)))) (yaa (zs (zq (zm (.int .u64 x)) (zq (zm (.int .u64 y)) ?_))))); obtain ⟨hi9, h⟩ := h; exact zq (v_mulk rfl rfl hi9) (zq (za (.int .u64 (x * y))) (yaa (ya2 rfl rfl rfl ⟨_, _, rfl, h⟩)))
end Go.Proofs.Ytmeoemmemjipdaa

/- The contracts of slices.Repeat at one number, of bits.Mul at small numbers, of slices.Max. -/
namespace Go.Proofs.Ytmeoemmemjipdaa
open Go Go.RowKit Go.Shelf Go.Proofs.Try
set_option linter.unusedVariables false
set_option linter.unusedSimpArgs false
set_option linter.unusedSectionVars false
set_option maxRecDepth 100000
set_option maxHeartbeats 1000000
theorem inU64 {a : Int} (h0 : 0 ≤ a) (h1 : a < 18446744073709551616) : InK .u64 a := by
  unfold InK IntKind.wrap
  simp [IntKind.bits, IntKind.signed]
  omega
theorem and32 {x : Int} (h0 : 0 ≤ x) (h1 : x ≤ 65535) : ((x.toNat &&& (4294967295 : Int).toNat : Nat) : Int) = x := by
  have : (4294967295 : Int).toNat = 2 ^ 32 - 1 := rfl
  rw [this, Nat.and_two_pow_sub_one_eq_mod]
  omega
theorem mul64_any (x y : Int) (w : World) (hx : 0 ≤ x ∧ x ≤ 65535) (hy : 0 ≤ y ∧ y ≤ 65535) :
    Calls Try.prog 174 #[.int .u64 x, .int .u64 y] w fun e w' => ∃ r r2 : Int, e = .returned (.tuple #[.int .u64 r, .int .u64 r2]) ∧ r = 0 ∧ r2 = x * y ∧ w = w' := by
  refine yfP x y w (fun r r2 w' => r = 0 ∧ r2 = x * y ∧ w = w') ?_
  unfold ycJ
  have e1 := and32 hx.1 hx.2
  have e2 := and32 hy.1 hy.2
  have hxy0 : 0 ≤ x * y := Int.mul_nonneg hx.1 hy.1
  have hxy1 : x * y ≤ 65535 * 65535 := Int.mul_le_mul hx.2 hy.2 hy.1 (by omega)
  have p32 : (2 : Int) ^ (32 : Int).toNat = 4294967296 := rfl
  have e3 : x / 4294967296 = 0 := by omega
  have e4 : y / 4294967296 = 0 := by omega
  have e5 : x * y / 4294967296 = 0 := by omega
  have e6 := and32 (x := 0) (by omega) (by omega)
  simp only [e1, e2, p32, e3, e4, e5, Int.zero_mul, Int.mul_zero, Int.add_zero, Int.zero_add, e6]
  have z : InK .u64 0 := inU64 (by omega) (by omega)
  have zz : (0 : Int) / 4294967296 = 0 := by omega
  simp only [zz, Int.add_zero, Int.zero_add]
  refine ⟨by omega, by omega, by omega, by omega, inU64 (by omega) (by omega), z, by omega, z, by omega, by omega, z, z, z, z, by omega, z, inU64 (by omega) (by omega), trivial, trivial, trivial⟩
theorem mul_any (x y : Int) (w : World) (hx : 0 ≤ x ∧ x ≤ 65535) (hy : 0 ≤ y ∧ y ≤ 65535) :
    Calls Try.prog 172 #[.int .u64 x, .int .u64 y] w fun e w' => ∃ r r2 : Int, e = .returned (.tuple #[.int .u64 r, .int .u64 r2]) ∧ r = 0 ∧ r2 = x * y ∧ w = w' := by
  refine ygF x y w (fun r r2 w' => r = 0 ∧ r2 = x * y ∧ w = w') ?_
  unfold ydr
  refine (mul64_any x y w hx hy).mono ?_
  rintro _ w2 ⟨r, r2, rfl, h1, h2, h3⟩
  exact ⟨_, _, rfl, h1, h2, h3⟩
theorem setL_rep (v : Int) : ∀ (j k m : Nat), j ≤ m → setL ((List.replicate k v ++ List.replicate m 0).map (Value.int .i64)) k (List.replicate j (Value.int .i64 v)) = (List.replicate (k + j) v ++ List.replicate (m - j) 0).map (Value.int .i64)
  | 0, k, m, _ => by simp [setL]
  | j + 1, k, m, h => by
    obtain ⟨m, rfl⟩ : ∃ m', m = m' + 1 := ⟨m - 1, by omega⟩
    rw [show List.replicate (j + 1) (Value.int .i64 v) = Value.int .i64 v :: List.replicate j (Value.int .i64 v) from rfl]
    show setL (((List.replicate k v ++ List.replicate (m + 1) 0).map (Value.int .i64)).set k (Value.int .i64 v)) (k + 1) (List.replicate j (Value.int .i64 v)) = _
    have h1 : ((List.replicate k v ++ List.replicate (m + 1) 0).map (Value.int .i64)).set k (Value.int .i64 v) = (List.replicate (k + 1) v ++ List.replicate m 0).map (Value.int .i64) := by
      rw [← List.map_set]
      congr 1
      rw [List.set_append_right _ _ (by simp)]
      rw [List.length_replicate, Nat.sub_self, List.replicate_succ, List.set_cons_zero, List.replicate_succ' (n := k), List.append_assoc]
      rfl
    rw [h1, setL_rep v j (k + 1) m (by omega)]
    congr 3 <;> omega
def RepPost (v : Int) (n : Nat) (w : World) (A : Option Addr) (l c : Nat) (w' : World) : Prop :=
  ∃ g, A = some ⟨g, 0, none⟩ ∧ l = n ∧ c = n ∧ w.heap.size ≤ g ∧ IRow w' g 3 n (List.replicate n v) ∧ Pure w w'
theorem repeat_any (A : Option Addr) (v : Int) (c n : Nat) (w : World) (hA : Ints w A [v]) (hn : 1 ≤ n) (hn2 : n ≤ 1000) :
    Calls Try.prog 165 #[.slice A 1 c, .int .i64 (n : Int)] w fun e w' => ∃ A' l' c', e = .returned (.slice A' l' c') ∧ RepPost v n w A' l' c' w' := by
  refine yga A 1 c n w (RepPost v n w) ?_
  unfold yc5
  refine ⟨fun w' => w' = w, ?_, fun h => absurd h (by omega), fun _ => rfl⟩
  intro w2 hw2
  have hw2 := hw2.symm
  subst hw2
  refine ⟨inU64 (by omega) (by omega), inU64 (by omega) (by omega), (mul_any _ _ _ (by omega) (by omega)).mono ?_⟩
  rintro _ w3 ⟨r, r2, rfl, rfl, rfl, rfl⟩
  refine ⟨_, _, rfl, fun w' => w' = w, ?_, fun h => absurd h (by omega), fun _ => ⟨fun h => absurd h (by omega), fun _ => rfl⟩⟩
  intro w4 hw4
  have hw4 := hw4.symm
  subst hw4
  obtain ⟨b, off, rfl, hb, hc⟩ := hA (by simp)
  have e1 : ((1 : Nat) : Int) * (n : Int) = (n : Int) := by omega
  rw [e1]
  simp only [Int.toNat_natCast]
  refine ⟨in64 (by omega), by omega, fun g w5 hN => ?_⟩
  have ag := hN.at_
  have hr5 : IRow w5 g 3 n (List.replicate n 0) := by
    have := hN.row
    simpa [IRow] using this
  have hr5' : Row w5 g 3 n ((List.replicate 0 v ++ List.replicate n 0).map (Value.int .i64)) := by simpa [IRow] using hr5
  have hcv := (hN.keeps (fun _ => False)).cell (p := ⟨b, off, none⟩) id (hc 0 (by simp))
  refine ⟨g, 0, ⟨b, off, none⟩, [.int .i64 v], rfl, rfl, by simp; omega, ?_, by simp [Value.oneCell'], yaY hr5' (by simp; omega), fun w6 e6 => ?_⟩
  · intro j u hj
    cases j with
    | zero => simp only [List.getElem?_cons_zero, Option.some.injEq] at hj; subst hj; exact hcv
    | succ j => simp at hj
  have hr6 : IRow w6 g 3 n (List.replicate 1 v ++ List.replicate (n - 1) 0) := by
    rw [e6]
    have := ygW [.int .i64 v] 0 hr5'
    rw [show [Value.int .i64 v] = List.replicate 1 (Value.int .i64 v) from rfl, setL_rep v 1 0 n (by omega)] at this
    exact this
  have hp6 : Pure w w6 := by
    rw [e6]
    exact (hN.keeps _).setCell (fun h => absurd h (by simp; omega)) _
  refine ⟨fun m i w7 => ∃ k : Nat, m = n - k ∧ 1 ≤ k ∧ k ≤ n ∧ i = (k : Int) ∧ IRow w7 g 3 n (List.replicate k v ++ List.replicate (n - k) 0) ∧ Pure w w7, ⟨n - 1, 1, rfl, by omega, by omega, by omega, hr6, hp6⟩, ?_⟩
  clear hr6 hp6
  rintro m i w7 ⟨k, rfl, hk1, hk2, rfl, hr, hp⟩
  simp only [Int.toNat_natCast]
  refine ⟨fun hlt => ?_, fun hge => ?_⟩
  · have hs : slA (some ⟨g, 0, none⟩) n k 1 = some ⟨g, k, none⟩ := by
      unfold slA
      rw [if_neg (by omega)]
      simp [Addr.add_mid]
    have hrd : Row w7.drew g 3 n ((List.replicate k v ++ List.replicate (n - k) 0).map (Value.int .i64)) := Row.drew hr
    refine ⟨by omega, by omega, g, k, ⟨g, 0, none⟩, List.replicate (min k (n - k)) (.int .i64 v), hs, rfl, by simp, ?_, ?_, yaY hrd (by simp; omega), fun w8 e8 => ?_⟩
    · intro j u hj
      have hj1 : j < min k (n - k) := by
        rcases Nat.lt_or_ge j (min k (n - k)) with h | h
        · exact h
        · rw [List.getElem?_eq_none (by simpa using h)] at hj; cases hj
      rw [List.getElem?_replicate, if_pos hj1] at hj
      cases hj
      rw [yb1]
      have := icell (w := w7.drew) (xs := List.replicate k v ++ List.replicate (n - k) 0) hrd (k := j) (by simp; omega)
      rw [this]
      congr 2
      unfold gi
      simp [List.getElem?_append, List.getElem?_replicate]
      rw [if_pos (by omega), if_pos (by omega)]
      rfl
    · intro u hu
      rw [List.mem_replicate] at hu
      rw [hu.2]; rfl
    · refine ⟨in64 (by omega), n - (k + min k (n - k)), by omega, k + min k (n - k), rfl, by omega, by omega, by omega, ?_, ?_⟩
      · rw [e8]
        have := ygW (List.replicate (min k (n - k)) (.int .i64 v)) k hrd
        rw [setL_rep v _ k (n - k) (by omega)] at this
        rw [show n - (k + min k (n - k)) = n - k - min k (n - k) by omega]
        exact this
      · rw [e8]
        have hgw : w.heap.size ≤ g := by omega
        have key : ∀ (vs : List Value) (o : Nat) (W : World), Pure w W → Pure w (W.setCells g o vs) := by
          intro vs
          induction vs with
          | nil => intro o W h; exact h
          | cons u vs ih => intro o W h; exact ih _ _ (h.setCell (fun h => absurd h (by simp; omega)) _)
        exact key _ _ _ hp.drew
  · obtain rfl : k = n := by omega
    exact ⟨g, rfl, rfl, rfl, by omega, by simpa using hr, hp⟩
end Go.Proofs.Ytmeoemmemjipdaa

/- Distances by a search in breadth: what its two lists say at each step. No program in sight. -/
namespace Go.Proofs.Ytmeoemmemjipdaa
open Go Go.Proofs.Try
set_option linter.unusedVariables false
set_option linter.unusedSimpArgs false
set_option linter.unusedSectionVars false
def Adj (es : List E3) (v u : Nat) : Prop := ∃ m, ((u : Int), m) ∈ ybT es (v : Int)
theorem ybA {es : List E3} {v u m : Int} : (u, m) ∈ ybT es v ↔ ∃ x ∈ es, x.1 ≠ x.2.1 ∧ (x.1 = v ∨ x.2.1 = v) ∧ u = x.1 + x.2.1 - v ∧ m = x.2.2 := by
  unfold ybT
  rw [List.mem_filterMap]
  constructor
  · rintro ⟨x, hx, hl⟩
    unfold link at hl
    split at hl
    · rename_i h
      simp only [Option.some.injEq, Prod.mk.injEq] at hl
      exact ⟨x, hx, h.1, h.2, hl.1.symm, hl.2.symm⟩
    · cases hl
  · rintro ⟨x, hx, h1, h2, rfl, rfl⟩
    exact ⟨x, hx, by unfold link; rw [if_pos ⟨h1, h2⟩]⟩
theorem Adj.symm {es : List E3} {v u : Nat} (h : Adj es v u) : Adj es u v := by
  obtain ⟨m, h⟩ := h
  obtain ⟨x, hx, h1, h2, h3, h4⟩ := ybA.1 h
  exact ⟨m, ybA.2 ⟨x, hx, h1, by omega, by omega, h4⟩⟩
def cu (o : List Int) : Nat := (o.filter fun x => decide (x < 0)).length
theorem cu_set {o : List Int} {v : Nat} {x : Int} (h : v < o.length) (hv : gi o v < 0) (hx : 0 ≤ x) : cu (o.set v x) + 1 = cu o := by
  unfold cu
  induction o generalizing v with
  | nil => simp at h
  | cons y o ih =>
    cases v with
    | zero =>
      simp [gi] at hv
      simp [List.filter_cons, hv, Int.not_lt.2 hx]
    | succ v =>
      have := ih (v := v) (by simpa using h) (by simpa [gi] using hv)
      simp only [List.set_cons_succ, List.filter_cons]
      split
      · simp only [List.length_cons]; omega
      · omega
structure BIn (n : Nat) (es : List E3) (q v : Nat) (pre : List (Int × Int)) (o : List Int) (Q : List Nat) : Prop where
  len : o.length = n
  vn : v < n
  v0 : 0 ≤ gi o v
  rng : ∀ a ∈ Q, a < n ∧ 0 ≤ gi o a
  q0 : gi o q = 0
  low : ∀ b, -1 ≤ gi o b
  val : ∀ b, gi o b + cu o ≤ (n : Int) - 1
  par : ∀ b, b < n → 0 < gi o b → ∃ u, u < n ∧ Adj es b u ∧ gi o u = gi o b - 1
  top : ∀ b, b < n → gi o b ≤ gi o v + 1
  bot : ∀ a ∈ Q, gi o v ≤ gi o a
  mono : Q.Pairwise fun a b => gi o a ≤ gi o b
  done : ∀ x, x < n → 0 ≤ gi o x → x ∉ Q → x ≠ v → gi o x ≤ gi o v ∧ ∀ u, Adj es x u → 0 ≤ gi o u ∧ gi o u ≤ gi o x + 1
  now : ∀ p ∈ pre, 0 ≤ gi o p.1.toNat ∧ gi o p.1.toNat ≤ gi o v + 1
  zero : ∀ b, b < n → gi o b = 0 → b = q
structure BInv (n : Nat) (es : List E3) (q : Nat) (o : List Int) (Q : List Nat) : Prop where
  len : o.length = n
  rng : ∀ a ∈ Q, a < n ∧ 0 ≤ gi o a
  q0 : gi o q = 0
  low : ∀ b, -1 ≤ gi o b
  val : ∀ b, gi o b + cu o ≤ (n : Int) - 1
  par : ∀ b, b < n → 0 < gi o b → ∃ u, u < n ∧ Adj es b u ∧ gi o u = gi o b - 1
  top : ∀ a ∈ Q, ∀ b, b < n → gi o b ≤ gi o a + 1
  mono : Q.Pairwise fun a b => gi o a ≤ gi o b
  done : ∀ x, x < n → 0 ≤ gi o x → x ∉ Q → (∀ a ∈ Q, gi o x ≤ gi o a) ∧ ∀ u, Adj es x u → 0 ≤ gi o u ∧ gi o u ≤ gi o x + 1
  zero : ∀ b, b < n → gi o b = 0 → b = q
theorem BInv.pop {n : Nat} {es : List E3} {q v : Nat} {o : List Int} {Q : List Nat} (h : BInv n es q o (v :: Q)) : BIn n es q v [] o Q := by
  have hp := List.pairwise_cons.1 h.mono
  refine ⟨h.len, (h.rng v (by simp)).1, (h.rng v (by simp)).2, fun a ha => h.rng a (by simp [ha]), h.q0, h.low, h.val, h.par, h.top v (by simp), hp.1, hp.2, fun x hx h0 hn hne => ?_, by simp, h.zero⟩
  have := h.done x hx h0 (by simp [hn, hne])
  exact ⟨this.1 v (by simp), this.2⟩
theorem BIn.push {n : Nat} {es : List E3} {q v : Nat} {pre : List (Int × Int)} {o : List Int} {Q : List Nat} (h : BIn n es q v pre o Q) {u : Nat} {m : Int} (hu : u < n) (ha : Adj es v u) (hneg : gi o u < 0) :
    BIn n es q v (pre ++ [((u : Int), m)]) (o.set u (gi o v + 1)) (Q ++ [u]) := by
  have hul : u < o.length := by rw [h.len]; exact hu
  have hs : ∀ b, gi (o.set u (gi o v + 1)) b = if b = u then gi o v + 1 else gi o b := fun b => ybu hul
  have hv0 := h.v0
  have hvu : v ≠ u := by rintro rfl; omega
  have hc := cu_set hul hneg (x := gi o v + 1) (by omega)
  have hkn : ∀ b, 0 ≤ gi o b → gi (o.set u (gi o v + 1)) b = gi o b := fun b hb => by
    rw [hs, if_neg (by rintro rfl; omega)]
  refine ⟨by simpa using h.len, h.vn, by rw [hkn v hv0]; exact hv0, ?_, by rw [hkn q (by rw [h.q0]; omega)]; exact h.q0, ?_, ?_, ?_, ?_, ?_, ?_, ?_, ?_, fun b hb h0 => by
    rw [hs] at h0
    split at h0
    · omega
    · exact h.zero b hb h0⟩
  · intro a ha'
    rcases List.mem_append.1 ha' with h1 | h1
    · have := h.rng a h1; exact ⟨this.1, by rw [hkn a this.2]; exact this.2⟩
    · simp only [List.mem_singleton] at h1; subst h1; exact ⟨hu, by rw [hs, if_pos rfl]; omega⟩
  · intro b; rw [hs]; split
    · omega
    · exact h.low b
  · intro b; rw [hs]
    have := h.val b
    have := h.val v
    split <;> omega
  · intro b hb h0
    rw [hs] at h0
    by_cases e : b = u
    · subst e
      refine ⟨v, h.vn, ha.symm, ?_⟩
      rw [hkn v hv0, hs, if_pos rfl]; omega
    · rw [if_neg e] at h0
      obtain ⟨y, hy, hay, hoy⟩ := h.par b hb h0
      refine ⟨y, hy, hay, ?_⟩
      rw [hkn y (by omega), hs, if_neg e]; exact hoy
  · intro b hb
    rw [hkn v hv0, hs]
    have := h.top b hb
    split <;> omega
  · intro a ha'
    rw [hkn v hv0]
    rcases List.mem_append.1 ha' with h1 | h1
    · have h2 := h.rng a h1; rw [hkn a h2.2]; exact h.bot a h1
    · simp only [List.mem_singleton] at h1; subst h1; rw [hs, if_pos rfl]; omega
  · refine List.pairwise_append.2 ⟨h.mono.imp_of_mem (fun {a b} ha hb hab => by rw [hkn a (h.rng a ha).2, hkn b (h.rng b hb).2]; exact hab), by simp, fun a ha' b hb => ?_⟩
    simp only [List.mem_singleton] at hb; subst hb
    have h2 := h.rng a ha'
    rw [hkn a h2.2, hs, if_pos rfl]
    exact h.top a h2.1
  · intro x hx h0 hn hne
    have hxu : x ≠ u := fun e => hn (by simp [e])
    rw [hs, if_neg hxu] at h0
    have := h.done x hx h0 (fun h => hn (by simp [h])) hne
    rw [hkn v hv0, hs x, if_neg hxu]
    refine ⟨this.1, fun y hy => ?_⟩
    have h2 := this.2 y hy
    rw [hkn y h2.1]; exact h2
  · intro p hp
    rw [hkn v hv0]
    rcases List.mem_append.1 hp with h1 | h1
    · have h2 := h.now p h1; rw [hkn _ h2.1]; exact h2
    · simp only [List.mem_singleton] at h1; subst h1
      simp only [Int.toNat_natCast]
      rw [hs, if_pos rfl]; omega
theorem BIn.pass {n : Nat} {es : List E3} {q v : Nat} {pre : List (Int × Int)} {o : List Int} {Q : List Nat} (h : BIn n es q v pre o Q) {u : Nat} {m : Int} (hu : u < n) (h0 : 0 ≤ gi o u) :
    BIn n es q v (pre ++ [((u : Int), m)]) o Q := by
  refine ⟨h.len, h.vn, h.v0, h.rng, h.q0, h.low, h.val, h.par, h.top, h.bot, h.mono, h.done, fun p hp => ?_, h.zero⟩
  rcases List.mem_append.1 hp with h1 | h1
  · exact h.now p h1
  · simp only [List.mem_singleton] at h1; subst h1
    exact ⟨by simpa using h0, by simpa using h.top u hu⟩
theorem BIn.fin {n : Nat} {es : List E3} {q v : Nat} {o : List Int} {Q : List Nat} (h : BIn n es q v (ybT es (v : Int)) o Q) : BInv n es q o Q := by
  refine ⟨h.len, h.rng, h.q0, h.low, h.val, h.par, fun a ha b hb => ?_, h.mono, fun x hx h0 hn => ?_, h.zero⟩
  · have := h.top b hb; have := h.bot a ha; omega
  · by_cases e : x = v
    · subst e
      refine ⟨fun a ha => h.bot a ha, fun u hu => ?_⟩
      obtain ⟨m, hm⟩ := hu
      have := h.now _ hm
      simpa using this
    · have := h.done x hx h0 hn e
      exact ⟨fun a ha => by have := h.bot a ha; omega, this.2⟩
theorem BInv.start {n : Nat} {es : List E3} {q : Nat} (hq : q < n) : BInv n es q ((List.replicate n (-1)).set q 0) [q] := by
  have hl : q < (List.replicate n (-1 : Int)).length := by simpa using hq
  have hs : ∀ b, gi ((List.replicate n (-1)).set q 0) b = if b = q then 0 else gi (List.replicate n (-1)) b := fun b => ybu hl
  have hr : ∀ b, b < n → gi (List.replicate n (-1)) b = -1 := fun b hb => by rw [ya0 (by simpa using hb)]; simp
  have hr2 : ∀ b, gi (List.replicate n (-1)) b = -1 ∨ gi (List.replicate n (-1)) b = 0 := fun b => by
    rcases Nat.lt_or_ge b n with h | h
    · exact .inl (hr b h)
    · exact .inr (gi_ge (by simpa using h))
  have hc0 : ∀ n : Nat, cu (List.replicate n (-1)) = n := by
    intro n
    unfold cu
    rw [List.filter_eq_self.2 (fun x hx => by rw [(List.mem_replicate.1 hx).2]; rfl)]
    simp
  have hc := cu_set hl (by rw [hr q hq]; omega) (x := 0) (by omega)
  rw [hc0] at hc
  refine ⟨by simp, fun a ha => ?_, by rw [hs, if_pos rfl], fun b => ?_, fun b => ?_, fun b hb h0 => ?_, fun a ha b hb => ?_, by simp, fun x hx h0 hn => ?_, fun b hb h0 => by
    rw [hs, hr b hb] at h0
    split at h0
    · assumption
    · omega⟩
  · simp only [List.mem_singleton] at ha; subst ha; exact ⟨hq, by rw [hs, if_pos rfl]; omega⟩
  · rw [hs]; rcases hr2 b with h | h <;> split <;> omega
  · rw [hs]
    rcases hr2 b with h | h
    · split <;> omega
    · split <;> omega
  · rw [hs] at h0; rw [hr b hb] at h0; split at h0 <;> omega
  · simp only [List.mem_singleton] at ha; subst ha; rw [hs, hs a, if_pos rfl, hr b hb]; split <;> omega
  · exfalso
    rw [hs, hr x hx] at h0
    split at h0
    · rename_i e; exact hn (by simp [e])
    · omega
structure Dist (n : Nat) (es : List E3) (q : Nat) (o : List Int) : Prop where
  len : o.length = n
  q0 : gi o q = 0
  low : ∀ b, -1 ≤ gi o b
  high : ∀ b, gi o b ≤ (n : Int) - 1
  par : ∀ b, b < n → 0 < gi o b → ∃ u, u < n ∧ Adj es b u ∧ gi o u = gi o b - 1
  step : ∀ x, x < n → 0 ≤ gi o x → ∀ u, Adj es x u → 0 ≤ gi o u ∧ gi o u ≤ gi o x + 1
  zero : ∀ b, b < n → gi o b = 0 → b = q
theorem BInv.dist {n : Nat} {es : List E3} {q : Nat} {o : List Int} (h : BInv n es q o []) : Dist n es q o :=
  ⟨h.len, h.q0, h.low, fun b => by have := h.val b; omega, h.par, fun x hx h0 => (h.done x hx h0 (by simp)).2, h.zero⟩
end Go.Proofs.Ytmeoemmemjipdaa
