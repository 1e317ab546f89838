/- Texts laid together: It, Eqa, Mpr, Dr, Ot, Alt, Chips, Graph, Slices, Forest, Links, Joins, Begin, Burn, Use, Sb, Sc, Rep, Bfs, Dist, Fire2, Settle, Lend, Sum, Result, Math, GoodL, GoodS, GoodT, Connect, Parts, Conn2, Con, Red, Reduce, Unb, Awake, Rm, RedIn, Wr, Tab, Cnt, Opn, Opn2. -/
import Derived.ChangeKeysEq
import Derived.Maps.RangeRun
import Derived.Test.YtdbpajnjhgocoaaProg
import Derived.ChangeAlike
import Derived.Handy
import Derived.Deep.QuietTactic
import Derived.BigQuiet
import Derived.Deep.RegionHeld3
import Derived.Laws.OwnMore
import Derived.Deep.Draws
import Derived.RangeFuncNested
import Derived.RangeFuncBound
import Derived.RangeFuncCalls
import Derived.RangeFuncLeaves
import Derived.RangeFuncFrom
import Derived.Shelf.Abstract
import Derived.Shelf.RegionOpen
import Derived.OwnWalkIn
import Derived.TacticsInMore
import Derived.LoopNIn
import Derived.LoopIn
import Derived.Deep.RegionWith
import Derived.Deep.LoopGhost
import Derived.Maps.Own
import Derived.Maps.OwnOps
import Derived.Deep.AppendLies
import Derived.Deep.RegionLaw
import Derived.Test.YtdbpajnjhgocoaaRows
import Derived.ProofKit
import Derived.Lib.SmallJoins
import Derived.Deep.Slices
import Derived.Below
import Derived.OpenShut
import Derived.Test.YtdbpajnjhgocoaaK1
/- Iterators: what a generator and the loop over it owe each other; each side has its own blocks. No program in sight. -/
namespace Go.Proofs.Ytdbpajnjhgocoaa
open Go Go.RowKit Go.Shelf Go.Proofs.Try
set_option linter.unusedVariables false
set_option linter.unusedSimpArgs false
set_option linter.unusedSectionVars false
theorem n_yield {P : Program} {E : Env} {w : World} {d : Option Tmp} {ty : TypeId} {ps : String} {af : Array Edge} {g : Option (Nat × Bool)} {K : Value → World → Prop} {l m : Nat} {args : Array Operand} {ats : Array TypeId} {vs : Array Value} {fo : Operand}
    (hf : evE E fo = .func (.yield l) #[] #[]) (ha : args.map (evE E) = vs) (h : YieldAt Fence.wide m P l vs w fun e w'' => ∃ v, e = .returned v ∧ K v w'') : ybc P ⟨d, .call ⟨.value fo, args, ats⟩, ty, ps, af, g⟩ (evE E) w K := by
  obtain ⟨fn, tmps, assign, body, hy, hR⟩ := h
  unfold ybc execOp
  simp only [resolve, hf, ha, Deferred.ofValue, Sem.run_bind, Sem.run_pure, Result.andThen, invoke, Array.empty_append, Array.append_empty, hy]
  exact ⟨trivial, fun c cs _ => hR.2 c cs (room_wide _)⟩
theorem WTa.ofx {F : Fence} {n : Nat} {P : Program} {Q : Exit → Act → World → Prop} {a : Act} {w : World} {t : List Item} {c : Code}
    (h : c.wpIn F n P (fun e a' w' => match e with
      | .normal => WTa F n P t Q a' w'
      | .ret => Q .ret a' w'
      | .exit id => (match exitTo id t with | some k' => WTa F n P k' Q a' w' | none => Q (.exit id) a' w')
      | _ => False) a w) : WTa F n P (.code c :: t) Q a w := by
  intro b k cs hro hb hr
  obtain ⟨e, a', w', hw, harr⟩ := h b (t ++ k) cs hro hb hr
  cases e with
  | normal =>
    obtain ⟨e2, a2, w2, hq, harr2⟩ := hw b k cs hro hb hr
    exact ⟨e2, a2, w2, hq, .of_steps harr harr2⟩
  | ret => exact ⟨.ret, a', w', hw, harr⟩
  | exit id =>
    cases he : exitTo id t with
    | some k' =>
      simp only [he] at hw
      obtain ⟨e2, a2, w2, hq, harr2⟩ := hw b k cs hro hb hr
      exact ⟨e2, a2, w2, hq, .of_steps (harr.1 _ (ydd k he)) harr2⟩
    | none =>
      simp only [he] at hw
      refine ⟨.exit id, a', w', hw, ?_⟩
      have h1 := harr.1
      have h2 := harr.2
      rw [ydk k he] at h1 h2
      exact ⟨h1, h2⟩
  | goto l => exact hw.elim
  | panic ch => exact hw.elim
  | outgrown => exact hw.elim
theorem Keeps.trans' {A B T S : Nat → Prop} {a b c d : World} (h : Keeps A a b) (k : Keeps B b c) (l : Keeps S c d) (h1 : ∀ k, A k → T k) (h2 : ∀ k, B k → T k) (h3 : ∀ k, S k → T k) : Keeps T a d :=
  ((h.mono fun k _ e => h1 k e).trans (k.mono fun k _ e => h2 k e)).trans (l.mono fun k _ e => h3 k e)
abbrev BS := Nat → Prop
structure RK (T : BS) (W : World) (T' : BS) (W' : World) : Prop where
  keeps : Keeps T W W'
  sub : ∀ k, T' k → T k ∨ W.heap.size ≤ k
  lt : ∀ k, T' k → k < W'.heap.size
def GenOk {α : Type} (J : BS → BS → List α → World → Prop) : Prop :=
  ∀ {T G G' : BS} {pre : List α} {W W' : World}, J T G pre W → Keeps G W W' → (∀ k, G' k → G k ∨ W.heap.size ≤ k) → (∀ k, G' k → k < W'.heap.size) → J T G' pre W'
def TwoOk {α : Type} (J : BS → BS → List α → World → Prop) : Prop :=
  ∀ {T G : BS} {pre : List α} {W : World}, J T G pre W → (∀ k, T k → ¬ G k ∧ k < W.heap.size) ∧ ∀ k, G k → k < W.heap.size
structure Sess (P : Program) (l : Nat) {α : Type} (enc : α → Array Value) (pass : α → FP) (Pr : List α → Prop) (J Jx : BS → BS → List α → World → Prop) : Prop where
  gen : GenOk J
  genx : GenOk Jx
  two : TwoOk J
  twox : TwoOk Jx
  yld : ∀ {T G : BS} {pre : List α} {x : α} {W : World}, J T G pre W → Pr (pre ++ [x]) → (pass x).P (fun k => T k ∨ G k) W →
    YieldAt Fence.wide 1 P l (enc x) W fun e W' => ∃ T', RK T W T' W' ∧ ((e = .returned (.bool true) ∧ J T' G (pre ++ [x]) W') ∨ (e = .returned (.bool false) ∧ Jx T' G (pre ++ [x]) W'))
def GenSays (P : Program) (gf : FuncId) (lb : Array Value) {α : Type} (enc : α → Array Value) (pass : α → FP) (Pr R : List α → Prop) (T0 G0 : BS) (w : World) : Prop :=
  ∀ (l : Nat) (J Jx : BS → BS → List α → World → Prop) (T1 : BS) (w1 : World), Sess P l enc pass Pr J Jx → J T1 G0 [] w1 → Pure w w1 → (∀ k, T1 k → T0 k ∨ w.heap.size ≤ k) →
    CallsIn Fence.wide 2 P gf (#[.func (.yield l) #[] #[]] ++ lb) w1 fun e w' => (∃ v, e = .returned v) ∧ ((∃ xs T G, R xs ∧ J T G xs w') ∨ ∃ pre T G, Jx T G pre w')
structure RL1 (l : Nat) (busy : Obj) (T : BS) (W : World) (T' : BS) (W' : World) : Prop where
  keeps : Keeps (fun k => T k ∨ k = l) W W'
  sub : ∀ k, T' k → T k ∨ W.heap.size ≤ k
  lt : ∀ k, T' k → k < W'.heap.size
  at_ : W'.heap[l]? = some busy
def rndPost (l : Nat) (busy : Obj) {α : Type} (I : BS → BS → List α → World → Prop) (Ix : Option Nat → BS → BS → List α → World → Prop) (T G : BS) (xs : List α) (W : World) : Exit → Act → World → Prop
  | .normal, _, W' => ∃ T', RL1 l busy T W T' W' ∧ I T' G xs W'
  | .ret, _, W' => ∃ T', RL1 l busy T W T' W' ∧ Ix none T' G xs W'
  | .exit id, _, W' => ∃ T', RL1 l busy T W T' W' ∧ Ix (some id) T' G xs W'
  | _, _, _ => False
def jumpOf : Option Nat → Code
  | none => .ret
  | some id => .exit id
theorem ycU (W : World) (l : Nat) (o : Obj) : (W.putObj l o).heap.size = W.heap.size := by simp
theorem yc0 (W : World) (l : Nat) (o : Obj) : Keeps (fun k => k = l) W (W.putObj l o) :=
  ⟨rfl, rfl, rfl, by simp, fun k hk hn => World.putObj_heap_other hn⟩
def JumpTo (P : Program) (N : Nat) (t : List Item) (Q : Exit → Act → World → Prop) (E : Env) (ds : List Deferred) (w : World) : Option Nat → Prop
  | none => ∀ a, Rep N E ds a → Q .ret a w
  | some id => match exitTo id t with
    | some k' => WT Fence.wide 3 P N k' Q E ds w
    | none => ∀ a, Rep N E ds a → Q (.exit id) a w
theorem wpIn_iter {P : Program} {N : Nat} {Q : Exit → Act → World → Prop} {E : Env} {ds : List Deferred} {w : World} {t : List Item} {fo : Operand} {ps : Array Tmp} {assign body : Code} {gf : FuncId} {lb : Array Value} {a : Act}
    (hr : a.eval fo = .func (.func gf) #[] lb) (he : Enters P gf) {α : Type} {enc : α → Array Value} {pass : α → FP} {Pr R : List α → Prop} (hps : ∀ x, (enc x).size = ps.size)
    (T0 G0 : BS) (I : BS → BS → List α → World → Prop) (Ix : Option Nat → BS → BS → List α → World → Prop) (hI : GenOk I) (hI2 : TwoOk I) (hIx : ∀ c, GenOk (Ix c)) (hIx2 : ∀ c, TwoOk (Ix c)) (h0 : I T0 G0 [] w)
    (hgen : GenSays P gf lb enc pass Pr R T0 G0 w)
    (hround : ∀ (l : Nat) (T G : BS) (pre : List α) (x : α) (W : World) (rdy busy : Obj), I T G pre W → Pr (pre ++ [x]) → (pass x).P (fun k => T k ∨ G k) W → G l → W.heap[l]? = some rdy →
      assign.wpIn (Fence.wide.inRound l) 1 P (Exit.then (fun a1 W1 => W1.heap[l]? = some rdy ∧ ∀ W2, W2 = W1.putObj l busy → body.wpIn (Fence.wide.inRound l) 1 P (rndPost l busy I Ix T G (pre ++ [x]) W) a1 W2) (fun _ _ _ => False))
        { tmps := (ps.zip (enc x)).foldl (fun t (p, v) => t.setIfInBounds p v) a.tmps, defers := [] } W)
    (hdone : ∀ (D : Nat) (T G : BS) (xs : List α) (W : World), w.heap.size ≤ D → ¬ T D → G D → R xs → I T G xs W → W.heap[D]? = some (.deferred (some [])) → Q .normal { a with defers := { target := .collected D, args := #[] } :: a.defers } W)
    (hstop : ∀ (D : Nat) (T G : BS) (c : Option Nat) (xs : List α) (W : World), w.heap.size ≤ D → ¬ T D → G D → Ix c T G xs W → W.heap[D]? = some (.deferred (some [])) → (jumpOf c).wpIn Fence.wide 3 P Q { a with defers := { target := .collected D, args := #[] } :: a.defers } W) :
    (Code.rangeFunc fo ps assign body).wpIn Fence.wide 3 P Q a w := by
  refine wpIn_rangeFunc ?_
  intro fn hfn
  obtain ⟨D, hD⟩ : ∃ D, D = w.heap.size := ⟨_, rfl⟩
  obtain ⟨L, hL⟩ : ∃ L, L = w.heap.size + 1 := ⟨_, rfl⟩
  obtain ⟨rec, hrec⟩ : ∃ rec : LoopState → Option Code → Loop, rec = fun st pe => { state := st, pending := pe, fn, tmps := a.tmps, params := ps, assign, body, defers := w.heap.size } := ⟨_, rfl⟩
  obtain ⟨W1, hW1⟩ : ∃ W1, (w.alloc (.deferred (some []))).alloc (.loop (rec .ready none)) = W1 := ⟨_, rfl⟩
  have hL1 : W1.heap[L]? = some (.loop (rec .ready none)) := by
    rw [← hW1, hL]; have := World.alloc_heap_new (w.alloc (.deferred (some []))) (.loop (rec .ready none)); rwa [World.size_alloc] at this
  have hK1 : W1.heap[D]? = some (.deferred (some [])) := by
    rw [← hW1, hD]; exact (Below.heap_alloc _ _ _ (by simp)).trans (World.alloc_heap_new w _)
  have hP1 : Pure w W1 := by rw [← hW1]; exact ((Keeps.refl _ _).alloc _).alloc _
  have hs1 : W1.heap.size = w.heap.size + 2 := by rw [← hW1]; simp
  have two0 := hI2 h0
  refine ⟨L, [{ target := .collected D, args := #[] }], W1, { target := .fn (.func gf) lb, args := #[.func (.yield L) #[] #[]] }, W1, gf, #[.func (.yield L) #[] #[]] ++ lb, W1, ?_, ?_, fun _ _ => trivial, ?_, fun h => (by cases h), ?_⟩
  · rw [← hW1, hrec, hL, hD]; exact run_enterLoop_outer _ _ _ _ _
  · simp only [resolve, hr]
    simp [go_sem]
  · simp [invoke, go_sem, he _ _]
  · have key := hgen L
      (fun Tg G pre W => ∃ T, (∀ k, Tg k ↔ T k ∨ k = L ∨ k = D) ∧ I T (fun k => G k ∨ k = L ∨ k = D) pre W ∧ W.heap[L]? = some (.loop (rec .ready none)) ∧ W.heap[D]? = some (.deferred (some [])) ∧ ¬ G L ∧ ¬ G D ∧ ¬ T D)
      (fun Tg G pre W => ∃ T c, (∀ k, Tg k ↔ T k ∨ k = L ∨ k = D) ∧ Ix c T (fun k => G k ∨ k = L ∨ k = D) pre W ∧ W.heap[L]? = some (.loop (rec .done (some (jumpOf c)))) ∧ W.heap[D]? = some (.deferred (some [])) ∧ ¬ G L ∧ ¬ G D ∧ ¬ T D)
      (fun k => T0 k ∨ k = L ∨ k = D) W1 ⟨?_, ?_, ?_, ?_, ?_⟩ ⟨T0, fun _ => Iff.rfl, ?_, hL1, hK1, ?_, ?_, ?_⟩ hP1 (fun k hk => ?_)
    · refine (show CallsIn Fence.wide (3 - 1) P gf _ W1 _ from key).mono ?_
      rintro e W2 ⟨⟨v, rfl⟩, (⟨xs, Tg, G, hR, T, hT, hi, hl, hd, g1, g2, g3⟩ | ⟨pre, Tg, G, T, c, hT, hi, hl, hd, g1, g2, g3⟩)⟩
      · refine ⟨none, W2.putObj L (.loop { rec .ready none with state := .exhausted }), by have := run_endLoop (P := P) hl (by rw [hrec]; simp); rw [hrec] at this ⊢; exact this, ?_⟩
        have hLl : L < W2.heap.size := (Array.getElem?_eq_some_iff.1 hl).1
        have hlt := (hI2 hi).2
        exact hdone D T _ xs _ (by omega) g3 (.inr (.inr rfl)) hR (hI hi ((yc0 _ _ _).mono fun k _ e => .inr (.inl e)) (fun k h => .inl h) (fun k h => by rw [ycU]; exact hlt k h)) ((World.putObj_heap_other (by omega)).trans hd)
      · refine ⟨some (jumpOf c), W2.putObj L (.loop { rec .done (some (jumpOf c)) with state := .exhausted }), by have := run_endLoop (P := P) hl (by rw [hrec]; simp); rw [hrec] at this ⊢; exact this, ?_⟩
        have hlt := (hIx2 c hi).2
        exact hstop D T _ c pre _ (by omega) g3 (.inr (.inr rfl)) (hIx c hi ((yc0 _ _ _).mono fun k _ e => .inr (.inl e)) (fun k h => .inl h) (fun k h => by rw [ycU]; exact hlt k h)) ((World.putObj_heap_other (by omega)).trans hd)
    · -- the generator's steps
      rintro Tg G G' pre W W' ⟨T, hT, hi, hl, hd, g1, g2, g3⟩ hK hG hGl
      have lL := (Array.getElem?_eq_some_iff.1 hl).1
      have lD := (Array.getElem?_eq_some_iff.1 hd).1
      refine ⟨T, hT, hI hi (hK.mono fun k _ h => .inl h) (fun k h => ?_) (fun k h => ?_), (hK.block L lL g1).trans hl, (hK.block D lD g2).trans hd, fun h => ?_, fun h => ?_, g3⟩
      · rcases h with h | h
        · rcases hG k h with q | q
          · exact .inl (.inl q)
          · exact .inr q
        · exact .inl (.inr h)
      · rcases h with h | h | h
        · exact hGl k h
        · rw [h]; exact Nat.lt_of_lt_of_le lL hK.size
        · rw [h]; exact Nat.lt_of_lt_of_le lD hK.size
      · rcases hG L h with q | q
        · exact g1 q
        · omega
      · rcases hG D h with q | q
        · exact g2 q
        · omega
    · rintro Tg G G' pre W W' ⟨T, c, hT, hi, hl, hd, g1, g2, g3⟩ hK hG hGl
      have lL := (Array.getElem?_eq_some_iff.1 hl).1
      have lD := (Array.getElem?_eq_some_iff.1 hd).1
      refine ⟨T, c, hT, hIx c hi (hK.mono fun k _ h => .inl h) (fun k h => ?_) (fun k h => ?_), (hK.block L lL g1).trans hl, (hK.block D lD g2).trans hd, fun h => ?_, fun h => ?_, g3⟩
      · rcases h with h | h
        · rcases hG k h with q | q
          · exact .inl (.inl q)
          · exact .inr q
        · exact .inl (.inr h)
      · rcases h with h | h | h
        · exact hGl k h
        · rw [h]; exact Nat.lt_of_lt_of_le lL hK.size
        · rw [h]; exact Nat.lt_of_lt_of_le lD hK.size
      · rcases hG L h with q | q
        · exact g1 q
        · omega
      · rcases hG D h with q | q
        · exact g2 q
        · omega
    · rintro Tg G pre W ⟨T, hT, hi, hl, hd, g1, g2, g3⟩
      have lL := (Array.getElem?_eq_some_iff.1 hl).1
      refine ⟨fun k hk => ?_, fun k hk => (hI2 hi).2 k (.inl hk)⟩
      rcases (hT k).1 hk with q | q
      · exact ⟨fun hg => ((hI2 hi).1 k q).1 (.inl hg), ((hI2 hi).1 k q).2⟩
      · rcases q with q | q
        · rw [q]; exact ⟨g1, lL⟩
        · rw [q]; exact ⟨g2, (Array.getElem?_eq_some_iff.1 hd).1⟩
    · rintro Tg G pre W ⟨T, c, hT, hi, hl, hd, g1, g2, g3⟩
      have lL := (Array.getElem?_eq_some_iff.1 hl).1
      refine ⟨fun k hk => ?_, fun k hk => (hIx2 c hi).2 k (.inl hk)⟩
      rcases (hT k).1 hk with q | q
      · exact ⟨fun hg => ((hIx2 c hi).1 k q).1 (.inl hg), ((hIx2 c hi).1 k q).2⟩
      · rcases q with q | q
        · rw [q]; exact ⟨g1, lL⟩
        · rw [q]; exact ⟨g2, (Array.getElem?_eq_some_iff.1 hd).1⟩
    · -- one round
      rintro Tg G pre x W ⟨T, hT, hi, hl, hd, g1, g2, g3⟩ hPr hpass
      have lL := (Array.getElem?_eq_some_iff.1 hl).1
      have lD := (Array.getElem?_eq_some_iff.1 hd).1
      have hy := run_yield (P := P) (args := enc x) hl (by rw [hrec]; exact hps x)
      rw [hrec] at hy
      have hp2 : (pass x).P (fun k => T k ∨ (G k ∨ k = L ∨ k = D)) W := (pass x).sub hpass (fun k _ h => by
        rcases h with h | h | h
        · exact .inl ((hT k).2 (.inl h))
        · exact .inr h
        · exact .inl ((hT k).2 (.inr h)))
      refine ⟨fn, _, assign, body, hy, roundIn_of_wpIn hfn (wpIn_mono (hround L T _ pre x W _ (.loop { rec .ready none with state := .busy }) hi hPr hp2 (.inr (.inl rfl)) hl) ?_)⟩
      rintro e1 a1 V1 hq
      cases e1 with
      | exit id => exact hq.elim
      | ret => exact hq.elim
      | goto l => exact hq.elim
      | panic c => exact hq.elim
      | outgrown => exact hq.elim
      | normal =>
      obtain ⟨hl1, hb1⟩ := hq
      refine ⟨_, run_beginRound hl1 (by rw [hrec]), wpIn_mono (hb1 _ rfl) ?_⟩
      have fin : ∀ (T' : BS) (jump : Option Code) (W3 : World), RL1 L (.loop { rec .ready none with state := .busy }) T W T' W3 →
          (Instr.endRound L jump).run P W3 = .ok (.bool jump.isNone) (W3.putObj L (.loop (rec (if jump.isNone then .ready else .done) jump))) ∧
          (W3.putObj L (.loop (rec (if jump.isNone then .ready else .done) jump))).heap[L]? = some (.loop (rec (if jump.isNone then .ready else .done) jump)) ∧
          (W3.putObj L (.loop (rec (if jump.isNone then .ready else .done) jump))).heap[D]? = some (.deferred (some [])) ∧
          RK Tg W (fun k => T' k ∨ k = L ∨ k = D) (W3.putObj L (.loop (rec (if jump.isNone then .ready else .done) jump))) ∧ Keeps (fun k => k = L) W3 (W3.putObj L (.loop (rec (if jump.isNone then .ready else .done) jump))) ∧ L < W3.heap.size ∧ ¬ T' D := fun T' jump W3 hk3 => by
        have hl3 : W3.heap[L]? = some (.loop { rec .ready none with state := .busy }) := hk3.at_
        have hd3 : W3.heap[D]? = some (.deferred (some [])) := (hk3.keeps.block D (by omega) (fun h => h.elim g3 (fun e => by omega))).trans hd
        have lL3 := (Array.getElem?_eq_some_iff.1 hl3).1
        have hrun := run_endRound (P := P) jump hl3
        rw [hrec] at hrun ⊢
        have hkk := yc0 W3 L (.loop ((fun st pe => ({ state := st, pending := pe, fn, tmps := a.tmps, params := ps, assign, body, defers := w.heap.size } : Loop)) (if jump.isNone then .ready else .done) jump))
        refine ⟨hrun, World.putObj_heap_same lL3, (World.putObj_heap_other (by omega)).trans hd3, ⟨(Keeps.refl (fun _ => False) W).trans' hk3.keeps hkk (T := Tg) (fun k e => e.elim) (fun k e => e.elim (fun e => (hT k).2 (.inl e)) (fun e => (hT k).2 (.inr (.inl e)))) (fun k e => (hT k).2 (.inr (.inl e))), fun k h => ?_, fun k h => ?_⟩, hkk, lL3, fun h => ?_⟩
        · rcases h with h | h
          · rcases hk3.sub k h with q | q
            · exact .inl ((hT k).2 (.inl q))
            · exact .inr (by omega)
          · exact .inl ((hT k).2 (.inr h))
        · rw [ycU]
          rcases h with h | h
          · exact hk3.lt k h
          · rcases h with h | h
            · rw [h]; exact lL3
            · rw [h]; exact (Array.getElem?_eq_some_iff.1 hd3).1
        · rcases hk3.sub D h with q | q
          · exact g3 q
          · omega
      rintro e a3 W3 hp
      cases e with
      | normal =>
        obtain ⟨T', hk3, hi3⟩ := hp
        obtain ⟨hr3, hl4, hd4, hrk, hkk, lL3, hTD⟩ := fin T' none W3 hk3
        exact ⟨_, _, hr3, _, hrk, .inl ⟨rfl, T', fun _ => Iff.rfl, hI hi3 (hkk.mono fun k _ e => .inr (.inl e)) (fun k h => .inl h) (fun k h => by rw [ycU]; exact (hI2 hi3).2 k h), hl4, hd4, g1, g2, hTD⟩⟩
      | ret =>
        obtain ⟨T', hk3, hi3⟩ := hp
        obtain ⟨hr3, hl4, hd4, hrk, hkk, lL3, hTD⟩ := fin T' (some .ret) W3 hk3
        exact ⟨_, _, hr3, _, hrk, .inr ⟨rfl, T', none, fun _ => Iff.rfl, hIx none hi3 (hkk.mono fun k _ e => .inr (.inl e)) (fun k h => .inl h) (fun k h => by rw [ycU]; exact (hIx2 none hi3).2 k h), hl4, hd4, g1, g2, hTD⟩⟩
      | exit id =>
        obtain ⟨T', hk3, hi3⟩ := hp
        obtain ⟨hr3, hl4, hd4, hrk, hkk, lL3, hTD⟩ := fin T' (some (.exit id)) W3 hk3
        exact ⟨_, _, hr3, _, hrk, .inr ⟨rfl, T', some id, fun _ => Iff.rfl, hIx (some id) hi3 (hkk.mono fun k _ e => .inr (.inl e)) (fun k h => .inl h) (fun k h => by rw [ycU]; exact (hIx2 (some id) hi3).2 k h), hl4, hd4, g1, g2, hTD⟩⟩
      | goto t => exact hp.elim
      | panic ch => exact hp.elim
      | outgrown => exact hp.elim
    · have hsz : ∀ k, G0 k → k < w.heap.size := two0.2
      exact hI h0 (G := G0) (hP1.mono fun k _ h => h.elim) (fun k h => h.elim .inl (fun e => .inr (by omega))) (fun k h => h.elim (fun h => by have := hsz k h; omega) (fun e => by omega))
    · intro h; have := two0.2 L h; omega
    · intro h; have := two0.2 D h; omega
    · intro h; have := (two0.1 D h).2; omega
    · rcases hk with h | h
      · exact .inl h
      · exact .inr (by omega)
theorem wt_iter {P : Program} {N : Nat} {Q : Exit → Act → World → Prop} {E : Env} {ds : List Deferred} {w : World} {t : List Item} {fo : Operand} {ps : Array Tmp} {assign body : Code} {gf : FuncId} {lb : Array Value}
    (hr : evE E fo = .func (.func gf) #[] lb) (he : Enters P gf) {α : Type} {val : α → Array Value} {pass : α → FP} {Pr R : List α → Prop} (hps : ∀ x, (val x).size = ps.size) (hpN : ps.toList.all (fun p => Nat.blt p N) = true)
    (T0 G0 : BS) (I : BS → BS → List α → World → Prop) (Ix : Option Nat → BS → BS → List α → World → Prop) (hI : GenOk I) (hI2 : TwoOk I) (hIx : ∀ c, GenOk (Ix c)) (hIx2 : ∀ c, TwoOk (Ix c)) (h0 : I T0 G0 [] w)
    (hgen : GenSays P gf lb val pass Pr R T0 G0 w)
    (hround : ∀ (l : Nat) (T G : BS) (pre : List α) (x : α) (W : World) (rdy busy : Obj), I T G pre W → Pr (pre ++ [x]) → (pass x).P (fun k => T k ∨ G k) W → G l → W.heap[l]? = some rdy →
      WT (Fence.wide.inRound l) 1 P N [.code assign] (fun e a1 W1 => e = .normal ∧ ∃ E1, Rep N E1 [] a1 ∧ W1.heap[l]? = some rdy ∧ ∀ W2, W2 = W1.putObj l busy → WT (Fence.wide.inRound l) 1 P N [.code body] (rndPost l busy I Ix T G (pre ++ [x]) W) E1 [] W2) (setE E (ps.toList.zip (val x).toList)) [] W)
    (hdone : ∀ (D : Nat) (T G : BS) (xs : List α) (W : World), w.heap.size ≤ D → ¬ T D → G D → R xs → I T G xs W → W.heap[D]? = some (.deferred (some [])) → WT Fence.wide 3 P N t Q E ({ target := .collected D, args := #[] } :: ds) W)
    (hstop : ∀ (D : Nat) (T G : BS) (c : Option Nat) (xs : List α) (W : World), w.heap.size ≤ D → ¬ T D → G D → Ix c T G xs W → W.heap[D]? = some (.deferred (some [])) → JumpTo P N t Q E ({ target := .collected D, args := #[] } :: ds) W c) :
    WT Fence.wide 3 P N (.code (.rangeFunc fo ps assign body) :: t) Q E ds w := by
  intro a ra
  let mk : Env → Act := fun E' => { tmps := Array.ofFn (n := N) fun i => E' i, defers := [] }
  have hmk : ∀ E' : Env, (∀ t, N ≤ t → E' t = undef) → Rep N E' [] (mk E') := by
    intro E' h
    refine ⟨by simp [mk], fun t => ?_, rfl⟩
    simp only [mk, Array.getD_eq_getD_getElem?]
    rcases Nat.lt_or_ge t N with ht | ht
    · simp [ht]
    · simp [ht, h t ht]
  have hun : ∀ {E' : Env} {ds' : List Deferred} {a' : Act}, Rep N E' ds' a' → ∀ t, N ≤ t → E' t = undef := by
    intro E' ds' a' h t ht
    rw [← h.get t]
    simp [Array.getD_eq_getD_getElem?, h.size, ht]
  have hpr : ∀ x, Rep N (setE E (ps.toList.zip (val x).toList)) [] { tmps := (ps.zip (val x)).foldl (fun t (p, v) => t.setIfInBounds p v) a.tmps, defers := [] } := by
    intro x
    have h1 : Rep N E [] { tmps := a.tmps, defers := [] } := ⟨ra.size, ra.get, rfl⟩
    have h2 := setE_rep (ps.toList.zip (val x).toList) E [] _ h1 (fun p hp => by
      have := List.all_eq_true.1 hpN p.1 (List.of_mem_zip hp).1
      simpa using this)
    have h3 : (ps.zip (val x)).foldl (fun t (p, v) => t.setIfInBounds p v) a.tmps = (ps.toList.zip (val x).toList).foldl (fun t p => t.setIfInBounds p.1 p.2) a.tmps := by
      rw [← Array.foldl_toList, Array.toList_zip]
    rw [h3]; exact h2
  refine WTa.ofx (wpIn_iter (N := N) (E := E) (ds := ds) (t := t) (a := a) (by rw [ra.eval, hr]) he hps T0 G0 I Ix hI hI2 hIx hIx2 h0 hgen ?_ ?_ ?_)
  · intro l T G pre x W rdy busy hi hp hq hg hl
    refine wpIn_mono (WTa.code (hround l T G pre x W rdy busy hi hp hq hg hl _ (hpr x))) ?_
    rintro e a1 W1 ⟨rfl, E1, r1, h1, h2⟩
    exact ⟨h1, fun W2 hW => WTa.code (h2 W2 hW _ r1)⟩
  · intro D T G xs W hD hT hG hR hi hd
    exact hdone D T G xs W hD hT hG hR hi hd _ ⟨ra.size, ra.get, by rw [ra.defers]⟩
  · intro D T G c xs W hD hT hG hi hd
    have hj := hstop D T G c xs W hD hT hG hi hd
    have ra2 : Rep N E ({ target := .collected D, args := #[] } :: ds) { a with defers := { target := .collected D, args := #[] } :: a.defers } := ⟨ra.size, ra.get, by rw [ra.defers]⟩
    cases c with
    | none => exact WTa.code (WTa.ret (hj _ ra2))
    | some id =>
      refine WTa.code (WTa.leave rfl ?_)
      unfold JumpTo at hj
      cases hq : exitTo id t with
      | none => simp only [hq] at hj ⊢; exact hj _ ra2
      | some k' => simp only [hq] at hj ⊢; exact hj _ ra2
def OwnB (L : Hold) : BS := fun k => ∃ i, (L i).has k
structure Two (w0 : World) (S O G : BS) (W : World) (L : Hold) : Prop where
  pure : Keeps S w0 W
  lt : ∀ k, O k → k < w0.heap.size ∧ ¬ S k
  g : ∀ k, G k → k < W.heap.size ∧ (w0.heap.size ≤ k ∨ S k) ∧ ∀ i, ¬ (L i).has k
  ok : ∀ i, (L i).ok 0 (Bl (fun k => O k ∨ G k) L) W
  bd : ∀ i k, (L i).has k → w0.heap.size ≤ k ∨ S k
  nd : ∀ i j k, (L i).has k → (L j).has k → i = j
section
variable {w0 w w' W W' : World} {S O G G' T : BS} {L L' : Hold}
theorem ygx {js : List Nat} {i k : Nat} (h : (rl (js.map L) i).has k) : ∃ j, js[i]? = some j ∧ (L j).has k := by
  rw [rl_map] at h
  cases hq : js[i]? with
  | none => rw [hq] at h; cases h
  | some j => rw [hq] at h; exact ⟨j, rfl, h⟩
theorem Sep.give (h : Sep w0 S O w L) (js gs : List Nat) (hj : js.Nodup) (hg : gs.Nodup) (hf : allJ (fun j => (j ∉ js) ∨ (L j).free) gs) :
    Two w0 S O (OwnB (rl (gs.map L))) w (rl (js.map L)) ∧ Sep w (OwnB (rl (gs.map L))) (Bl O (rl (js.map L))) w (rl (gs.map L)) := by
  have hdis : ∀ a b k, (rl (js.map L) a).has k → (rl (gs.map L) b).has k → False := fun a b k ha hb => by
    obtain ⟨j1, e1, b1⟩ := ygx ha
    obtain ⟨j2, e2, b2⟩ := ygx hb
    have := h.nd j1 j2 k b1 b2
    subst this
    rcases hf.out j1 (List.mem_of_getElem? e2) with q | q
    · exact q (List.mem_of_getElem? e1)
    · exact absurd b1 (q.out _)
  have hO : ∀ k, (OwnB L) k → ¬ O k := fun k ⟨i, hi⟩ hk => by
    have := h.lt k hk
    rcases h.bd i k hi with q | q
    · omega
    · exact this.2 q
  have hsz : ∀ i k, (L i).has k → k < w.heap.size := fun i k hk => ((h.ok i).lt hk).2
  have ndl : ∀ (l : List Nat), l.Nodup → ∀ a b k, (rl (l.map L) a).has k → (rl (l.map L) b).has k → a = b := fun l hl a b k ha hb => by
    obtain ⟨j1, e1, b1⟩ := ygx ha
    obtain ⟨j2, e2, b2⟩ := ygx hb
    have := h.nd j1 j2 k b1 b2
    subst this
    obtain ⟨l1, q1⟩ := List.getElem?_eq_some_iff.1 e1
    obtain ⟨l2, q2⟩ := List.getElem?_eq_some_iff.1 e2
    exact (List.getElem_inj hl).1 (q1.trans q2.symm)
  have okl : ∀ (l : List Nat) (O' : BS), (∀ k, O' k → Bl O L k) → ∀ i, (rl (l.map L) i).ok 0 O' w := fun l O' ho i => by
    rw [rl_map]
    cases hq : l[i]? with
    | none => trivial
    | some j => exact (h.ok j).sub fun k _ hk => ho k hk
  have inl : ∀ (l : List Nat) k, OwnB (rl (l.map L)) k → OwnB L k := fun l k ⟨i, hi⟩ => by
    obtain ⟨j, _, hb⟩ := ygx hi
    exact ⟨j, hb⟩
  refine ⟨⟨h.pure, h.lt, fun k hk => ?_, ?_, fun i k hk => ?_, ndl js hj⟩, ⟨Keeps.refl _ _, fun k hk => ?_, ?_, fun i k hk => .inr ⟨i, hk⟩, ndl gs hg⟩⟩
  · obtain ⟨j, hb⟩ := inl gs k hk
    obtain ⟨i, hi⟩ := hk
    exact ⟨hsz j k hb, h.bd j k hb, fun a ha => hdis a i k ha hi⟩
  · refine okl js _ fun k hk => ?_
    rcases hk with (q | q) | q
    · exact .inl q
    · exact .inr (inl gs k q)
    · exact .inr (inl js k q)
  · obtain ⟨j, _, hb⟩ := ygx hk
    exact h.bd j k hb
  · rcases hk with q | ⟨i, q⟩
    · exact ⟨Nat.lt_of_lt_of_le (h.lt k q).1 h.pure.size, fun hg => hO k (inl gs k hg) q⟩
    · obtain ⟨j, _, hb⟩ := ygx q
      exact ⟨hsz j k hb, fun ⟨b, hb2⟩ => hdis i b k q hb2⟩
  · refine okl gs _ fun k hk => ?_
    rcases hk with (q | q) | q
    · exact .inl q
    · exact .inr (inl js k q)
    · exact .inr (inl gs k q)
theorem Two.gen (h : Two w0 S O G W L) (hK : Keeps G W W') (hG : ∀ k, G' k → G k ∨ W.heap.size ≤ k) (hl : ∀ k, G' k → k < W'.heap.size) : Two w0 S O G' W' L := by
  have hlt : ∀ i k, (L i).has k → k < W.heap.size := fun i k hk => ((h.ok i).lt hk).2
  refine ⟨h.pure.then hK (fun k hk q => (h.g k q).2.1.elim (fun r => by omega) id), h.lt, fun k hk => ⟨hl k hk, ?_, fun i hi => ?_⟩, fun i => ?_, h.bd, h.nd⟩
  · rcases hG k hk with q | q
    · exact (h.g k q).2.1
    · exact .inl (Nat.le_trans h.pure.size q)
  · rcases hG k hk with q | q
    · exact (h.g k q).2.2 i hi
    · have := hlt i k hi; omega
  · refine (h.ok i).keep hK (fun k hk hg => (h.g k hg).2.2 i hk) (fun k _ hg => .inl (.inr hg)) fun k hk hO => ?_
    rcases hO with (q | q) | q
    · exact .inl (.inl q)
    · rcases hG k q with r | r
      · exact .inl (.inr r)
      · omega
    · exact .inr q
theorem Two.round (h : Two w0 S O G W L) : Sep W (OwnB L) (fun k => O k ∨ G k) W L := by
  refine ⟨Keeps.refl _ _, fun k hk => ?_, h.ok, fun i k hk => .inr ⟨i, hk⟩, h.nd⟩
  rcases hk with q | q
  · refine ⟨Nat.lt_of_lt_of_le (h.lt k q).1 h.pure.size, fun ⟨i, hi⟩ => ?_⟩
    rcases h.bd i k hi with r | r
    · have := (h.lt k q).1; omega
    · exact (h.lt k q).2 r
  · exact ⟨(h.g k q).1, fun ⟨i, hi⟩ => (h.g k q).2.2 i hi⟩
theorem Two.back (h : Two w0 S O G W L) (hS : Sep W (OwnB L) (fun k => O k ∨ G k) W' L') : Two w0 S O G W' L' ∧ RK (Bl O L) W (Bl O L') W' := by
  have hbd : ∀ i k, (L' i).has k → OwnB L k ∨ W.heap.size ≤ k := fun i k hk => (hS.bd i k hk).symm
  refine ⟨⟨h.pure.then hS.pure (fun k hk ⟨i, hi⟩ => (h.bd i k hi).elim (fun r => by omega) id), h.lt, fun k hk => ⟨Nat.lt_of_lt_of_le (h.g k hk).1 hS.pure.size, (h.g k hk).2.1, fun i hi => ?_⟩, hS.ok, fun i k hk => ?_, hS.nd⟩, ⟨hS.pure.mono fun k _ q => .inr q, fun k hk => ?_, fun k hk => ?_⟩⟩
  · rcases hbd i k hi with ⟨j, q⟩ | q
    · exact (h.g k hk).2.2 j q
    · have := (h.g k hk).1; omega
  · rcases hbd i k hk with ⟨j, q⟩ | q
    · exact h.bd j k q
    · exact .inl (Nat.le_trans h.pure.size q)
  · rcases hk with q | ⟨i, q⟩
    · exact .inl (.inl q)
    · rcases hbd i k q with r | r
      · exact .inl (.inr r)
      · exact .inr r
  · rcases hk with q | ⟨i, q⟩
    · exact Nat.lt_of_lt_of_le (h.lt k q).1 (Nat.le_trans h.pure.size hS.pure.size)
    · exact ((hS.ok i).lt q).2
end
def IV {α : Type} (w0 : World) (S O : BS) (V : List α → List Res → Prop) : BS → BS → List α → World → Prop := fun T G pre W => ∃ LL, T = Bl O (rl LL) ∧ Two w0 S O G W (rl LL) ∧ V pre LL
theorem IV.gen {α : Type} (w0 : World) (S O : BS) (V : List α → List Res → Prop) : GenOk (IV w0 S O V) := by
  rintro T G G' pre W W' ⟨L, rfl, h, hV⟩ hK hG hl
  exact ⟨L, rfl, h.gen hK hG hl, hV⟩
theorem IV.two {α : Type} (w0 : World) (S O : BS) (V : List α → List Res → Prop) : TwoOk (IV w0 S O V) := by
  rintro T G pre W ⟨L, rfl, h, hV⟩
  refine ⟨fun k hk => ?_, fun k hk => (h.g k hk).1⟩
  rcases hk with q | ⟨i, q⟩
  · refine ⟨fun hg => ?_, Nat.lt_of_lt_of_le (h.lt k q).1 h.pure.size⟩
    rcases (h.g k hg).2.1 with r | r
    · have := (h.lt k q).1; omega
    · exact (h.lt k q).2 r
  · exact ⟨fun hg => (h.g k hg).2.2 i q, ((h.ok i).lt q).2⟩
def dfr (D : Nat) : Res := .obj D (.deferred (some []))
theorem ygb : ∀ (LL : List Res) (r : Res), rl (LL ++ [r]) = stl (rl LL) LL.length r
  | [], r => by funext i; cases i <;> rfl
  | x :: t, r => by
    funext i
    cases i with
    | zero => rfl
    | succ i =>
      show rl (t ++ [r]) i = _
      rw [ygb t r]
      by_cases e : i = t.length
      · subst e; rw [yaU, List.length_cons, yaU]
      · rw [yaE _ _ e, List.length_cons, yaE _ _ (by omega)]; rfl
theorem ycR : ∀ (LL : List Res), rl LL LL.length = .gone
  | [] => rfl
  | _ :: t => ycR t
theorem Two.take {w0 W : World} {S O G : BS} {L : Hold} (h : Two w0 S O G W L) {D i : Nat} {o : Obj} (hi : L i = .gone) (hD : G D) (hd : W.heap[D]? = some o) :
    (∀ j, (stl L i (.obj D o) j).ok 0 (Bl (fun k => O k ∨ G k) L) W) ∧ (∀ k, Bl (fun k => O k ∨ (G k ∧ k ≠ D)) (stl L i (.obj D o)) k → Bl (fun k => O k ∨ G k) L k) ∧ (∀ a b k, (stl L i (.obj D o) a).has k → (stl L i (.obj D o) b).has k → a = b) ∧ ∀ j k, (stl L i (.obj D o) j).has k → OwnB L k ∨ k = D := by
  refine ⟨fun j => ?_, ?_, fun a b k ha hb' => ?_, fun j k hk => ?_⟩
  · by_cases e : j = i
    · subst e; rw [yaU]; exact ⟨Nat.zero_le _, hd⟩
    · rw [yaE _ _ e]; exact h.ok j
  · rintro k ((q | q) | ⟨j, q⟩)
    · exact .inl (.inl q)
    · exact .inl (.inr q.1)
    · by_cases e : j = i
      · subst e; rw [yaU] at q; cases q; exact .inl (.inr hD)
      · rw [yaE _ _ e] at q; exact .inr ⟨j, q⟩
  · have key : ∀ a b, a ≠ i → b = i → (stl L i (.obj D o) a).has k → (stl L i (.obj D o) b).has k → False := fun a b h1 h2 ha hb' => by
      subst h2
      rw [yaE _ _ h1] at ha
      rw [yaU] at hb'
      cases hb'
      exact (h.g D hD).2.2 a ha
    by_cases e1 : a = i
    · by_cases e2 : b = i
      · omega
      · exact (key b a e2 e1 hb' ha).elim
    · by_cases e2 : b = i
      · exact (key a b e1 e2 ha hb').elim
      · rw [yaE _ _ e1] at ha; rw [yaE _ _ e2] at hb'; exact h.nd _ _ k ha hb'
  · by_cases e : j = i
    · subst e; rw [yaU] at hk; cases hk; exact .inr rfl
    · rw [yaE _ _ e] at hk; exact .inl ⟨j, hk⟩
theorem Two.mark {w0 W : World} {S O G : BS} {LL : List Res} (h : Two w0 S O G W (rl LL)) {D : Nat} (hD : G D) (hd : W.heap[D]? = some (.deferred (some []))) : Sep w0 S O W (rl (LL ++ [dfr D])) := by
  obtain ⟨h1, h2, h3, h4⟩ := h.take (ycR LL) hD hd
  rw [ygb]
  refine ⟨h.pure, h.lt, fun j => (h1 j).sub fun k _ hk => h2 k (hk.elim (fun q => .inl (.inl q)) .inr), fun j k hk => ?_, h3⟩
  rcases h4 j k hk with ⟨i, q⟩ | q
  · exact h.bd i k q
  · rw [q]; exact (h.g D hD).2.1
theorem Two.open_ {w0 W : World} {S O G : BS} {LL : List Res} (h : Two w0 S O G W (rl LL)) {l : Nat} {o : Obj} (hG : G l) (hl : W.heap[l]? = some o) : Sep W (fun k => OwnB (rl LL) k ∨ k = l) (fun k => O k ∨ (G k ∧ k ≠ l)) W (rl (LL ++ [.obj l o])) := by
  obtain ⟨h1, h2, h3, h4⟩ := h.take (ycR LL) hG hl
  rw [ygb]
  have hr := h.round
  refine ⟨Keeps.refl _ _, fun k hk => ?_, fun j => (h1 j).sub fun k _ hk => h2 k hk, fun j k hk => .inr (h4 j k hk), h3⟩
  rcases hk with q | q
  · have := hr.lt k (.inl q)
    refine ⟨this.1, fun h5 => h5.elim this.2 fun e => ?_⟩
    subst e
    rcases (h.g k hG).2.1 with r | r
    · have := (h.lt k q).1; omega
    · exact (h.lt k q).2 r
  · have := hr.lt k (.inr q.1)
    exact ⟨this.1, fun h5 => h5.elim this.2 q.2⟩
theorem Sep.flip {w0 w w' : World} {S O : BS} {L : Hold} (h : Sep w0 S O w L) (i : Nat) {l : Nat} {o : Obj} (hi : L i = .obj l o) (o' : Obj) (hw : w' = w.putObj l o') : Sep w0 S O w' (stl L i (.obj l o')) := by
  have hl : w.heap[l]? = some o := by have := h.ok i; rw [hi] at this; exact this.2
  subst hw
  exact h.upd i _ (T := fun k => k = l) (yc0 _ _ _) (fun k _ e => by rw [hi, e]) (fun k hk => by cases hk; rw [hi]; exact .inl rfl) ⟨Nat.zero_le _, World.putObj_heap_same (Array.getElem?_eq_some_iff.1 hl).1⟩
theorem Two.close {w0 W W' : World} {S O G : BS} {LL LL' : List Res} (h : Two w0 S O G W (rl LL)) {l : Nat} {busy : Obj} (hG : G l)
    (hS : Sep W (fun k => OwnB (rl LL) k ∨ k = l) (fun k => O k ∨ (G k ∧ k ≠ l)) W' (rl (LL' ++ [.obj l busy]))) : Two w0 S O G W' (rl LL') ∧ RL1 l busy (Bl O (rl LL)) W (Bl O (rl LL')) W' := by
  rw [ygb] at hS
  have ho : ∀ i, i ≠ LL'.length → stl (rl LL') LL'.length (.obj l busy) i = rl LL' i := fun i hi => yaE _ _ hi
  have hne : ∀ i k, (rl LL' i).has k → i ≠ LL'.length := fun i k hk e => by rw [e, ycR] at hk; cases hk
  have hbl : ∀ k, Bl (fun k => O k ∨ G k) (rl LL') k → Bl (fun k => O k ∨ (G k ∧ k ≠ l)) (stl (rl LL') LL'.length (.obj l busy)) k := by
    rintro k ((q | q) | ⟨j, q⟩)
    · exact .inl (.inl q)
    · by_cases e : k = l
      · exact .inr ⟨LL'.length, by rw [yaU, e]⟩
      · exact .inl (.inr ⟨q, e⟩)
    · exact .inr ⟨j, by rw [ho j (hne j k q)]; exact q⟩
  have hnl : ∀ i k, (rl LL' i).has k → k ≠ l := fun i k hk e => by
    subst e
    have := hS.nd i LL'.length k (by rw [ho i (hne i k hk)]; exact hk) (by rw [yaU])
    exact hne i k hk this
  have hbd : ∀ i k, (rl LL' i).has k → OwnB (rl LL) k ∨ W.heap.size ≤ k := fun i k hk => by
    rcases hS.bd i k (by rw [ho i (hne i k hk)]; exact hk) with q | q | q
    · exact .inr q
    · exact .inl q
    · exact absurd q (hnl i k hk)
  have hok : ∀ i, (rl LL' i).ok 0 (Bl (fun k => O k ∨ G k) (rl LL')) W' := fun i => by
    by_cases e : i = LL'.length
    · rw [e, ycR]; trivial
    · have := hS.ok i
      rw [ho i e] at this
      exact this.sub fun k _ hk => hbl k hk
  have hat : W'.heap[l]? = some busy := by have := hS.ok LL'.length; rw [yaU] at this; exact this.2
  refine ⟨⟨h.pure.then hS.pure (fun k hk q => ?_), h.lt, fun k hk => ⟨Nat.lt_of_lt_of_le (h.g k hk).1 hS.pure.size, (h.g k hk).2.1, fun i hi => ?_⟩, hok, fun i k hk => ?_, fun i j k hi hj => hS.nd i j k (by rw [ho i (hne i k hi)]; exact hi) (by rw [ho j (hne j k hj)]; exact hj)⟩, ⟨hS.pure.mono fun k _ q => q.elim (fun q => .inl (.inr q)) .inr, fun k hk => ?_, fun k hk => ?_, hat⟩⟩
  · rcases q with ⟨i, q⟩ | q
    · exact (h.bd i k q).elim (fun r => by omega) id
    · rw [q] at hk ⊢; exact (h.g l hG).2.1.elim (fun r => by omega) id
  · rcases hbd i k hi with ⟨j, q⟩ | q
    · exact (h.g k hk).2.2 j q
    · have := (h.g k hk).1; omega
  · rcases hbd i k hk with ⟨j, q⟩ | q
    · exact h.bd j k q
    · exact .inl (Nat.le_trans h.pure.size q)
  · rcases hk with q | ⟨i, q⟩
    · exact .inl (.inl q)
    · rcases hbd i k q with r | r
      · exact .inl (.inr r)
      · exact .inr r
  · rcases hk with q | ⟨i, q⟩
    · exact Nat.lt_of_lt_of_le (h.lt k q).1 (Nat.le_trans h.pure.size hS.pure.size)
    · exact ((hok i).lt q).2
def rndS {α : Type} (l : Nat) (busy : Obj) (W : World) (S O : BS) (V : List α → List Res → Prop) (Vx : Option Nat → List α → List Res → Prop) (xs : List α) : Exit → Act → World → Prop
  | .normal, _, W' => ∃ LL, V xs LL ∧ Sep W S O W' (rl (LL ++ [.obj l busy]))
  | .ret, _, W' => ∃ LL, Vx none xs LL ∧ Sep W S O W' (rl (LL ++ [.obj l busy]))
  | .exit id, _, W' => ∃ LL, Vx (some id) xs LL ∧ Sep W S O W' (rl (LL ++ [.obj l busy]))
  | _, _, _ => False
theorem wt_iterS {P : Program} {N : Nat} {Q : Exit → Act → World → Prop} {E : Env} {ds : List Deferred} {w0 w : World} {S O : BS} {L : Hold} {t : List Item} {fo : Operand} {ps : Array Tmp} {assign body : Code} {gf : FuncId} {lb : Array Value}
    (hS : Sep w0 S O w L) (js gs : List Nat) (hj : js.Nodup) (hg : gs.Nodup) (hf : allJ (fun j => (j ∉ js) ∨ (L j).free) gs)
    (hr : evE E fo = .func (.func gf) #[] lb) (he : Enters P gf) {α : Type} {val : α → Array Value} {pass : α → FP} {Pr R : List α → Prop} (hps : ∀ x, (val x).size = ps.size) (hpN : ps.toList.all (fun p => Nat.blt p N) = true)
    (V : List α → List Res → Prop) (Vx : Option Nat → List α → List Res → Prop) (h0 : V [] (js.map L))
    (hgen : ∀ T G, Sep w G T w (rl (gs.map L)) → GenSays P gf lb val pass Pr R T G w)
    (hround : ∀ (l : Nat) (rdy busy : Obj) (S1 O1 : BS) (pre : List α) (x : α) (W : World) (LL : List Res), V pre LL → Pr (pre ++ [x]) → (pass x).P (Bl O1 (rl (LL ++ [.obj l rdy]))) W → Sep W S1 O1 W (rl (LL ++ [.obj l rdy])) →
      WT (Fence.wide.inRound l) 1 P N [.code assign] (fun e a1 W1 => e = .normal ∧ ∃ E1 L1, Rep N E1 [] a1 ∧ Sep W S1 O1 W1 L1 ∧ (∃ i, L1 i = .obj l rdy) ∧ ∀ W2, W2 = W1.putObj l busy → WT (Fence.wide.inRound l) 1 P N [.code body] (rndS l busy W S1 O1 V Vx (pre ++ [x])) E1 [] W2) (setE E (ps.toList.zip (val x).toList)) [] W)
    (hdone : ∀ (D : Nat) (xs : List α) (W : World) (LL : List Res), R xs → V xs LL → Sep w0 S O W (rl (LL ++ [dfr D])) → WT Fence.wide 3 P N t Q E (mark D :: ds) W)
    (hstop : ∀ (D : Nat) (c : Option Nat) (xs : List α) (W : World) (LL : List Res), Vx c xs LL → Sep w0 S O W (rl (LL ++ [dfr D])) → JumpTo P N t Q E (mark D :: ds) W c) :
    WT Fence.wide 3 P N (.code (.rangeFunc fo ps assign body) :: t) Q E ds w := by
  obtain ⟨hT, hG⟩ := hS.give js gs hj hg hf
  refine wt_iter hr he hps hpN (Bl O (rl (js.map L))) (OwnB (rl (gs.map L))) (IV w0 S O V) (fun c => IV w0 S O (Vx c)) (IV.gen _ _ _ _) (IV.two _ _ _ _) (fun c => IV.gen _ _ _ _) (fun c => IV.two _ _ _ _) ⟨_, rfl, hT, h0⟩ (hgen _ _ hG) ?_ ?_ ?_
  · rintro l T G pre x W rdy busy ⟨LL, rfl, h, hV⟩ hPr hp hGl hl
    have hb := hround l rdy busy (fun k => OwnB (rl LL) k ∨ k = l) (fun k => O k ∨ (G k ∧ k ≠ l)) pre x W LL hV hPr ((pass x).sub hp fun k _ hk => by
      rw [ygb] at hk
      rcases (h.take (ycR LL) hGl hl).2.1 k hk with (q | q) | q
      · exact .inl (.inl q)
      · exact .inr q
      · exact .inl (.inr q)) (h.open_ hGl hl)
    intro a ra b k cs h1 h2 h3
    obtain ⟨e, a', w', ⟨rfl, E1, L1, r1, s1, ⟨i, hi⟩, hq⟩, harr⟩ := hb a ra b k cs h1 h2 h3
    refine ⟨.normal, a', w', ⟨rfl, E1, r1, by have := s1.ok i; rw [hi] at this; exact this.2, fun W2 hW2 => ?_⟩, harr⟩
    intro a2 ra2 b2 k2 cs2 g1 g2 g3
    obtain ⟨e, a3, w3, hq, harr3⟩ := hq W2 hW2 a2 ra2 b2 k2 cs2 g1 g2 g3
    refine ⟨e, a3, w3, ?_, harr3⟩
    cases e with
    | normal => obtain ⟨L2, v2, s2⟩ := hq; obtain ⟨t2, r2⟩ := h.close hGl s2; exact ⟨_, r2, L2, rfl, t2, v2⟩
    | ret => obtain ⟨L2, v2, s2⟩ := hq; obtain ⟨t2, r2⟩ := h.close hGl s2; exact ⟨_, r2, L2, rfl, t2, v2⟩
    | exit id => obtain ⟨L2, v2, s2⟩ := hq; obtain ⟨t2, r2⟩ := h.close hGl s2; exact ⟨_, r2, L2, rfl, t2, v2⟩
    | goto t => exact hq.elim
    | panic ch => exact hq.elim
    | outgrown => exact hq.elim
  · rintro D T G xs W hD hTD hGD hR ⟨L', rfl, h, hV⟩ hd
    exact hdone D xs W L' hR hV (h.mark hGD hd)
  · rintro D T G c xs W hD hTD hGD ⟨L', rfl, h, hV⟩ hd
    exact hstop D c xs W L' hV (h.mark hGD hd)
section
variable {P : Program} {l : Nat} {α : Type} {val : α → Array Value} {pass : α → FP} {Pr : List α → Prop} {J Jx K : BS → BS → List α → World → Prop}
theorem Sep.yielded {wb w W' : World} {G T T' : BS} {L : Hold} (h : Sep wb G T w L) (hr : RK T w T' W') : Sep W' (OwnB L) T' W' L := by
  have hlt : ∀ i k, (L i).has k → k < w.heap.size := fun i k hk => ((h.ok i).lt hk).2
  have hnT : ∀ i k, (L i).has k → ¬ T k := fun i k hk hT => by
    rcases h.bd i k hk with r | r
    · have := (h.lt k hT).1; omega
    · exact (h.lt k hT).2 r
  refine ⟨Keeps.refl _ _, fun k hk => ⟨hr.lt k hk, fun ⟨i, hi⟩ => ?_⟩, fun i => ?_, fun i k hk => .inr ⟨i, hk⟩, h.nd⟩
  · rcases hr.sub k hk with q | q
    · exact hnT i k hi q
    · have := hlt i k hi; omega
  · refine (h.ok i).keep hr.keeps (fun k hk => hnT i k hk) (fun k _ hk => .inl hk) fun k hk hO => ?_
    rcases hO with q | q
    · rcases hr.sub k q with r | r
      · exact .inl r
      · omega
    · exact .inr q
theorem gen_yield (hs : Sess P l val pass Pr J Jx) {T G : BS} {pre : List α} {x : α} {wb w : World} {L : Hold} (hJ : J T G pre wb) (hS : Sep wb G T w L) (hPr : Pr (pre ++ [x])) (hp : (pass x).P (Bl T L) w)
    {Rr : Ending → World → Prop} (h1 : ∀ T' W', J T' (OwnB L) (pre ++ [x]) W' → Sep W' (OwnB L) T' W' L → Rr (.returned (.bool true)) W') (h2 : ∀ T' W', Jx T' (OwnB L) (pre ++ [x]) W' → Sep W' (OwnB L) T' W' L → Rr (.returned (.bool false)) W') :
    YieldAt Fence.wide 1 P l (val x) w Rr := by
  have hJ2 : J T (OwnB L) pre w := hs.gen hJ hS.pure (fun k ⟨i, hi⟩ => (hS.bd i k hi).elim (fun q => .inr (by have := hS.pure.size; omega)) .inl) (fun k ⟨i, hi⟩ => ((hS.ok i).lt hi).2)
  obtain ⟨fn, tmps, assign, body, hy, hR⟩ := hs.yld hJ2 hPr hp
  refine ⟨fn, tmps, assign, body, hy, hR.mono ?_⟩
  rintro e W' ⟨T', hr, (⟨rfl, hj⟩ | ⟨rfl, hj⟩)⟩
  · exact h1 T' W' hj (hS.yielded hr)
  · exact h2 T' W' hj (hS.yielded hr)
theorem gen_end (hs : Sess P l val pass Pr J Jx) {T G : BS} {pre : List α} {wb w : World} {L : Hold} {R : List α → Prop} (hJ : J T G pre wb) (hS : Sep wb G T w L) (hR : R pre) :
    (∃ xs T G, R xs ∧ J T G xs w) ∨ ∃ pre T G, Jx T G pre w :=
  .inl ⟨pre, T, OwnB L, hR, hs.gen hJ hS.pure (fun k ⟨i, hi⟩ => (hS.bd i k hi).elim (fun q => .inr (by have := hS.pure.size; omega)) .inl) (fun k ⟨i, hi⟩ => ((hS.ok i).lt hi).2)⟩
theorem gen_endx (hs : Sess P l val pass Pr J Jx) {T G : BS} {pre : List α} {wb w : World} {L : Hold} {R : List α → Prop} (hJ : Jx T G pre wb) (hS : Sep wb G T w L) :
    (∃ xs T G, R xs ∧ J T G xs w) ∨ ∃ pre T G, Jx T G pre w :=
  .inr ⟨pre, T, OwnB L, hs.genx hJ hS.pure (fun k ⟨i, hi⟩ => (hS.bd i k hi).elim (fun q => .inr (by have := hS.pure.size; omega)) .inl) (fun k ⟨i, hi⟩ => ((hS.ok i).lt hi).2)⟩
end
theorem gen_start {P : Program} {l : Nat} {α : Type} {val : α → Array Value} {pass : α → FP} {Pr : List α → Prop} {J Jx : BS → BS → List α → World → Prop} {T T1 G : BS} {w w1 : World} {L : Hold}
    (h : Sep w G T w L) (hs : Sess P l val pass Pr J Jx) (hJ : J T1 G [] w1) (hp : Pure w w1) (hT : ∀ k, T1 k → T k ∨ w.heap.size ≤ k) : ∃ G1, J T1 G1 [] w1 ∧ Sep w1 G1 T1 w1 L := by
  have hS := h.yielded (T' := T1) ⟨hp.mono fun k _ q => q.elim, hT, fun k hk => ((hs.two hJ).1 k hk).2⟩
  refine ⟨OwnB L, hs.gen hJ (Keeps.refl _ _) (fun k ⟨i, hi⟩ => ?_) (fun k ⟨i, hi⟩ => ((hS.ok i).lt hi).2), hS⟩
  rcases h.bd i k hi with q | q
  · have := ((h.ok i).lt hi).2; omega
  · exact .inl q
theorem callsIn_gen {P : Program} {f : FuncId} {fn : Func} {c : Code} {args : Array Value} {l : List Value} {w : World} {R : Ending → World → Prop} {N : Nat} (hf : P.funcs[f]? = some fn) (hb : fn.body = some c) (hN : fn.ntmps = N) (hl : l.length ≤ N) (ha : args = l.toArray)
    (h : WT Fence.wide 2 P N [.code c] (bodyPost P fn R) (lenv l) [] w) : CallsIn Fence.wide 2 P f args w R := by
  subst ha
  refine callsIn_of_wp hf hb trivial (WTa.code (h _ ⟨?_, lenv_eq l _, rfl⟩)) rfl
  simp
  omega
def FP.tt : FP := ⟨fun _ _ => True, fun h _ => h, fun h _ => h⟩
theorem leaves_marks2 {F : Fence} {n : Nat} {P : Program} {fn : Func} {tmps : Array Value} {R : Ending → World → Prop} : ∀ (rs : List Nat) (W : World), rs.Nodup → (∀ r ∈ rs, W.heap[r]? = some (Obj.deferred (some []))) →
    (∀ W' : World, Keeps (fun k => k ∈ rs) W W' → LeavesIn F n P fn tmps R [] .returning W') → LeavesInM F n P fn tmps R (rs.map mark) .returning W := by
  intro rs
  induction rs with
  | nil => intro W _ _ h; exact h W (Keeps.refl _ _)
  | cons r rs ih =>
    intro W hn hd h
    have hr := hd r (by simp)
    have hnr := List.nodup_cons.1 hn
    refine ⟨by simp, .inl ⟨r, _, rfl, run_takeDeferred hr, ?_⟩⟩
    refine ih (W.putObj r (.deferred none)) hnr.2 (fun q hq => ?_) fun W' hK => ?_
    · rw [World.putObj_heap_other (by rintro rfl; exact hnr.1 hq)]; exact hd q (by simp [hq])
    · exact h W' (((yc0 W r _).mono fun k _ e => by subst e; simp).trans (hK.mono fun k _ e => by simp [e]))
theorem Sep.unmark {w0 w w' : World} {S O : BS} {L : Hold} (h : Sep w0 S O w L) {rs : List Nat} (is js : List Nat) (hj : js.Nodup) (hd : ∀ i ∈ is, i ∉ js) (hm : ∀ r ∈ rs, ∃ i ∈ is, (L i).has r) (hK : Keeps (fun k => k ∈ rs) w w') : Sep w0 S O w' (rl (js.map L)) := by
  have h2 := h.step (w' := w') (L' := fun j => if j ∈ is then .gone else L j) (T := fun k => k ∈ rs) hK (fun k _ hk => by obtain ⟨i, _, hi⟩ := hm k hk; exact ⟨i, hi⟩)
    (fun j k hk => by
      by_cases e : j ∈ is
      · simp only [if_pos e] at hk; cases hk
      · simp only [if_neg e] at hk; exact .inl ⟨j, hk⟩)
    (fun j => by
      by_cases e : j ∈ is
      · simp only [if_pos e]; exact .inr trivial
      · refine .inl ⟨j, by simp only [if_neg e], fun k hk hr => ?_⟩
        obtain ⟨i, hi, hb⟩ := hm k hr
        have := h.nd i j k hb hk
        subst this
        exact e hi)
    (fun a b k ha hb => by
      by_cases e1 : a ∈ is
      · simp only [if_pos e1] at ha; cases ha
      · by_cases e2 : b ∈ is
        · simp only [if_pos e2] at hb; cases hb
        · simp only [if_neg e1] at ha; simp only [if_neg e2] at hb; exact h.nd a b k ha hb)
  have h3 := h2.sel js hj
  have e : js.map (fun j => if j ∈ is then Res.gone else L j) = js.map L := List.map_congr_left fun j hjj => by
    rw [if_neg fun q => hd j q hjj]
  rw [e] at h3
  exact h3
section
variable {P : Program} {fn : Func} {N : Nat} {t : List Item} {R : Ending → World → Prop} {E : Env} {w : World} {rs : List Nat} {a : Act}
theorem wt_retn (hn : rs.Nodup) (hd : ∀ r ∈ rs, w.heap[r]? = some (Obj.deferred (some []))) (h : ∀ a, Rep N E (rs.map mark) a → ∀ W', Keeps (fun k => k ∈ rs) w W' → LeavesIn Fence.wide 3 P fn a.tmps R [] .returning W') : WT Fence.wide 3 P N (.code .ret :: t) (bodyPostM Fence.wide 3 P fn R) E (rs.map mark) w :=
  wt_ret fun a r => by
    have hd' := r.defers
    show LeavesInM _ _ _ _ _ _ a.defers _ _
    rw [hd']
    exact leaves_marks2 rs w hn hd fun W' hk => h a r W' hk
theorem wt_retk2 {t1 t2 : Tmp} {v1 v2 : Value} (hn : rs.Nodup) (hd : ∀ r ∈ rs, w.heap[r]? = some (Obj.deferred (some []))) (hr : fn.results = #[.tmp t1, .tmp t2]) (h1 : E t1 = v1) (h2 : E t2 = v2) (h : ∀ w', Keeps (fun k => k ∈ rs) w w' → R (.returned (.tuple #[v1, v2])) w') : WT Fence.wide 3 P N (.code .ret :: t) (bodyPostM Fence.wide 3 P fn R) E (rs.map mark) w :=
  wt_retn hn hd fun a r W' hk => ⟨_, results_tmp2 hr _ _ _, by rw [r.get, r.get, h1, h2]; exact h W' hk⟩
end
theorem Sep.marked {w0 w : World} {S O : BS} {L : Hold} (h : Sep w0 S O w L) (i : Nat) {D : Nat} (hi : L i = dfr D) : ∀ r ∈ [D], w.heap[r]? = some (Obj.deferred (some [])) := fun r hr => by
  rw [List.mem_singleton] at hr
  subst hr
  have := h.ok i
  rw [hi] at this
  exact this.2
theorem unmark1 {L : Hold} (i : Nat) {D : Nat} (hi : L i = dfr D) : ∀ r ∈ [D], ∃ j ∈ [i], (L j).has r := fun r hr => by
  rw [List.mem_singleton] at hr
  subst hr
  exact ⟨i, by simp, by rw [hi]; rfl⟩
section
variable {P : Program} {fn : Func} {N : Nat} {t : List Item} {R : Ending → World → Prop} {E : Env} {w : World} {rs : List Nat}
end
end Go.Proofs.Ytdbpajnjhgocoaa

/- Equality of structs and of arrays of ints. No program in sight. -/
namespace Go.Proofs.Ytdbpajnjhgocoaa
open Go Go.RowKit Go.Shelf Go.Proofs.Try
set_option linter.unusedVariables false
set_option linter.unusedSimpArgs false
def intsA (xs : List Int) : Array Value := (xs.map (Value.int .i64)).toArray
def isInt (P : Program) (t : TypeId) : Bool := P.plainKey t && match P.underlying t with | some (.int _) => true | _ => false
def yfh (P : Program) : Nat → List Field → Bool
  | _, [] => true
  | k, f :: fs => (f.name != "_") && isInt P f.type && (f.offset == k) && yfh P (k + 1) fs
structure EqI (P : Program) (t : TypeId) (n : Nat) : Prop where
  guard : P.eqGuardType P.depth t = false
  eq : ∀ (xs ys : List Int) (w : World), xs.length = n → ys.length = n → (Op.equalIn 10000 t (.agg (intsA xs)) (.agg (intsA ys))).run P w = .ok (decide (xs = ys)) w
section
variable {P : Program}
theorem ygB {t : TypeId} (h : isInt P t = true) : P.plainKey t = true ∧ ∃ k, P.underlying t = some (.int k) := by
  unfold isInt at h
  rw [Bool.and_eq_true] at h
  refine ⟨h.1, ?_⟩
  have h2 := h.2
  split at h2
  · rename_i k hk; exact ⟨k, hk⟩
  · cases h2
theorem yfd {xs : List Int} {i : Nat} (h : i < xs.length) : (intsA xs)[i]? = some (.int .i64 xs[i]) := by simp [intsA, h]
theorem drop_eq {xs ys : List Int} {k : Nat} (hx : k < xs.length) (hy : k < ys.length) : decide (xs.drop k = ys.drop k) = ((xs[k] == ys[k]) && decide (xs.drop (k + 1) = ys.drop (k + 1))) := by
  have e1 := List.drop_eq_getElem_cons hx
  have e2 := List.drop_eq_getElem_cons hy
  generalize xs.drop (k + 1) = a at e1 ⊢
  generalize ys.drop (k + 1) = b at e2 ⊢
  generalize xs[k] = u at e1 ⊢
  generalize ys[k] = v at e2 ⊢
  rw [e1, e2]
  by_cases h : u = v <;> simp [h]
theorem yfl {d : Nat} : ∀ (fs : List Field) (k : Nat) (xs ys : List Int) (w : World), yfh P k fs = true → xs.length = k + fs.length → ys.length = k + fs.length → (Op.eqFields (d + 1) (intsA xs) (intsA ys) fs).run P w = .ok (decide (xs.drop k = ys.drop k)) w
  | [], k, xs, ys, w, _, hx, hy => by
    rw [List.drop_of_length_le (by simp at hx; omega), List.drop_of_length_le (by simp at hy; omega)]
    simp [Op.eqFields]
  | f :: fs, k, xs, ys, w, h, hx, hy => by
    simp only [yfh, Bool.and_eq_true, bne_iff_ne, ne_eq, beq_iff_eq] at h
    obtain ⟨⟨⟨h1, h2⟩, h3⟩, h4⟩ := h
    obtain ⟨h2, q, h5⟩ := (ygB h2)
    simp only [List.length_cons] at hx hy
    have ha := run_part_plain (P := P) w h2 (yfd (xs := xs) (i := k) (by omega))
    have hb := run_part_plain (P := P) w h2 (yfd (xs := ys) (i := k) (by omega))
    have hr := yfl (d := d) fs (k + 1) xs ys w h4 (by omega) (by omega)
    rw [drop_eq (by omega : k < xs.length) (by omega : k < ys.length)]
    simp only [Op.eqFields, ne_eq, h1, not_false_eq_true, if_true, Sem.run_bind, h3, ha, hb, Result.andThen_ok, run_equalIn_int w d f.type .i64 q _ _ h5]
    cases hq : xs[k] == ys[k]
    · simp
    · simpa using hr
theorem yfI {d : Nat} {e : TypeId} (he : isInt P e = true) : ∀ (m k : Nat) (xs ys : List Int) (w : World), xs.length = k + m → ys.length = k + m → (Op.eqItems (d + 1) e 1 (intsA xs) (intsA ys) (List.range' k m)).run P w = .ok (decide (xs.drop k = ys.drop k)) w
  | 0, k, xs, ys, w, hx, hy => by
    rw [List.drop_of_length_le (by omega), List.drop_of_length_le (by omega)]
    simp [Op.eqItems]
  | m + 1, k, xs, ys, w, hx, hy => by
    obtain ⟨h2, q, h5⟩ := (ygB he)
    have ha := run_part_plain (P := P) w h2 (yfd (xs := xs) (i := k) (by omega))
    have hb := run_part_plain (P := P) w h2 (yfd (xs := ys) (i := k) (by omega))
    have hr := yfI (d := d) he m (k + 1) xs ys w (by omega) (by omega)
    rw [drop_eq (by omega : k < xs.length) (by omega : k < ys.length)]
    simp only [List.range'_succ, Op.eqItems, Sem.run_bind, Nat.mul_one, ha, hb, Result.andThen_ok, run_equalIn_int w d e .i64 q _ _ h5]
    cases hq : xs[k] == ys[k]
    · simp
    · simpa using hr
theorem EqI.struct {t : TypeId} {fs : Array Field} {n : Nat} (hu : P.underlying t = some (.struct fs)) (hg : P.eqGuardType P.depth t = false) (hp : P.stoodInHeld t = false) (hf : yfh P 0 fs.toList = true) (hn : fs.toList.length = n) : EqI P t n where
  guard := hg
  eq xs ys w hx hy := by
    have hF : P.fieldsOf t = fs := by simp [Program.fieldsOf, hu]
    rw [show (10000 : Nat) = 9998 + 1 + 1 from rfl, run_equalIn_agg w (9998 + 1) t _ _ (by rw [hF]; exact hu) hp, hF]
    have := yfl (P := P) (d := 9998) fs.toList 0 xs ys w hf (by omega) (by omega)
    simpa using this
theorem EqI.array {t e : TypeId} {n : Nat} (hu : P.underlying t = some (.array n e)) (hg : P.eqGuardType P.depth t = false) (he : isInt P e = true) (hc : P.cellsOf e = 1) : EqI P t n where
  guard := hg
  eq xs ys w hx hy := by
    obtain ⟨i, hi⟩ := info_of_underlying (ygB he).2.choose_spec
    rw [show (10000 : Nat) = 9998 + 1 + 1 from rfl, run_equalIn_array w (9998 + 1) _ _ hu hi, hc, List.range_eq_range']
    have := yfI (P := P) (d := 9998) he n 0 xs ys w (by omega) (by omega)
    simpa using this
end
section
variable {P : Program} {E : Env} {w : World} {d : Option Tmp} {x y : Operand} {ty xt yt : TypeId} {ps : String} {af : Array Edge} {g : Option (Nat × Bool)} {n : Nat}
theorem v_neqA (T : EqI P xt n) (xs ys : List Int) (hx : evE E x = .agg (intsA xs)) (hy : evE E y = .agg (intsA ys)) (hl : xs.length = n) (hm : ys.length = n) : (execOp (evE E) ⟨d, .binOp .neq xt x y yt, ty, ps, af, g⟩).run P w = .ok (.value (.bool (!decide (xs = ys)))) w := by
  unfold execOp
  simp only [hx, hy, Sem.run_bind, run_eqGuard_agg w .neq xt x y _ _ T.guard, Result.andThen_ok, run_neq_struct, T.eq xs ys w hl hm, Sem.run_pure]
end
end Go.Proofs.Ytdbpajnjhgocoaa

/- Maps: loops over a map, m[k]++, keys that are structs of numbers. -/
namespace Go.Proofs.Ytdbpajnjhgocoaa
open Go Go.RowKit Go.Shelf Go.Proofs.Try
set_option linter.unusedVariables false
def mitO (b n : Nat) (seen : List Nat) : Obj := .mapIter (some b) n seen.toArray n
section
variable {τ : Type} {P : Program} {E : Env} {w : World} {d : Option Tmp} {x y z : Operand} {ty xt k e : TypeId} {ps : String} {af : Array Edge} {g : Option (Nat × Bool)} {K : Value → World → Prop} {n b r : Nat} {vE : τ → Value} {m : List (List Int × τ)} {key : List Int}
theorem n_range (hx : evE E x = .map (some b)) (hu : P.underlying xt = some (.map k e)) (hb : w.heap[b]? = some (mapO vE m)) (h : ∀ g' w', g' = w.heap.size → w' = w.alloc (mitO b m.length []) → K (.pointer (some ⟨g', 0, none⟩)) w') : ybc P ⟨d, .range xt x, ty, ps, af, g⟩ (evE E) w K := by
  unfold ybc execOp
  simp only [hx, run_range_map w xt k e b _ _ hu hb, Sem.run_bind, Sem.run_pure, Result.andThen]
  exact h _ _ rfl rfl
theorem mEs_born (vE : τ → Value) (m : List (List Int × τ)) : ∀ u ∈ (mEs vE 0 m).toArray.toList, u.born < m.length := fun u hu => by
  rw [List.toList_toArray] at hu
  obtain ⟨j, hj⟩ := List.getElem?_of_mem hu
  have hl := (List.getElem?_eq_some_iff.1 hj).1
  rw [yga] at hl
  rw [yc9, List.getElem?_eq_getElem hl] at hj
  cases hj
  show 0 + j < m.length
  omega
theorem n_next {seen : List Nat} (hx : evE E x = .pointer (some ⟨r, 0, none⟩)) (hr : w.heap[r]? = some (mitO b m.length seen)) (hb : w.heap[b]? = some (mapO vE m))
    (h0 : (∀ j, j < m.length → j ∈ seen) → K (.tuple #[.bool false]) w)
    (h1 : ∀ j p w', m[j]? = some p → j ∉ seen → w'.heap[r]? = some (mitO b m.length (seen ++ [j])) → Keeps (fun q => q = r) w w' → K (.tuple #[.bool true, kE p.1, vE p.2]) w') : ybc P ⟨d, .next x false, ty, ps, af, g⟩ (evE E) w K := by
  unfold ybc execOp
  have hrt : r < w.heap.size := (Array.getElem?_eq_some_iff.1 hr).1
  rcases run_next_at (P := P) w ty r b m.length m.length seen.toArray _ _ hr hb (mEs_born vE m) (Nat.le_refl _) with ⟨hl, hrun⟩ | ⟨u, hu, w1, hw1, hrun⟩
  · simp only [hx, hrun, Sem.run_bind, Sem.run_pure, Result.andThen]
    refine h0 fun j hj => Classical.not_not.1 fun hn => ?_
    have hm : (mEs vE 0 m)[j]? = some ⟨kE (m[j]).1, vE (m[j]).2, 0 + j⟩ := by rw [yc9, List.getElem?_eq_getElem hj]; rfl
    have : (⟨kE (m[j]).1, vE (m[j]).2, 0 + j⟩ : MapEntry) ∈ leftOf (mEs vE 0 m).toArray seen.toArray := by
      unfold leftOf
      rw [Array.mem_filter]
      refine ⟨by simpa using List.mem_of_getElem? hm, ?_⟩
      simp only [Nat.zero_add, Bool.not_eq_true', List.contains_toArray]
      simpa using hn
    have hz : 0 < (leftOf (mEs vE 0 m).toArray seen.toArray).size := by
      rw [Array.size_pos_iff]
      intro e
      rw [e] at this
      simp at this
    omega
  · simp only [hx, hrun, Sem.run_bind, Sem.run_pure, Result.andThen]
    unfold leftOf at hu
    rw [Array.mem_toList_iff, Array.mem_filter] at hu
    obtain ⟨hu1, hu2⟩ := hu
    obtain ⟨j, hj⟩ := List.getElem?_of_mem (show u ∈ mEs vE 0 m by simpa using hu1)
    have hl := (List.getElem?_eq_some_iff.1 hj).1
    rw [yga] at hl
    rw [yc9, List.getElem?_eq_getElem hl] at hj
    cases hj
    refine h1 j m[j] _ (List.getElem?_eq_getElem hl) ?_ ?_ ?_
    · simp only [Nat.zero_add, Bool.not_eq_true', List.contains_toArray] at hu2
      simpa using hu2
    · have hrt1 : r < w1.heap.size := by rcases hw1 with rfl | rfl <;> exact hrt
      have : (ChangeMaps.setBlock w1 r (.mapIter (some b) m.length (seen.toArray.push (0 + j)) m.length)).heap[r]? = some (.mapIter (some b) m.length (seen.toArray.push (0 + j)) m.length) := by simp [ChangeMaps.setBlock, hrt1]
      rw [this]
      simp [mitO]
    · have hK : Keeps (fun q => q = r) w w1 := by
        rcases hw1 with rfl | rfl
        · exact Keeps.refl _ _
        · exact (Keeps.refl _ _).drew
      refine hK.trans ⟨rfl, rfl, rfl, by simp [ChangeMaps.setBlock], fun q hq hqr => ?_⟩
      simp [ChangeMaps.setBlock, Ne.symm hqr]
theorem n_next2 {m : List (List Int × τ)} {seen : List Nat} (hm : KOk 2 m) (hx : evE E x = .pointer (some ⟨r, 0, none⟩)) (hr : w.heap[r]? = some (mitO b m.length seen)) (hb : w.heap[b]? = some (mapO vE m))
    (h0 : (∀ j, j < m.length → j ∈ seen) → K (.tuple #[.bool false]) w)
    (h1 : ∀ (j : Nat) (p q : Int) (v : τ) w', m[j]? = some ([p, q], v) → j ∉ seen → w'.heap[r]? = some (mitO b m.length (seen ++ [j])) → Keeps (fun q => q = r) w w' → K (.tuple #[.bool true, .agg #[.int .i64 p, .int .i64 q], vE v]) w') : ybc P ⟨d, .next x false, ty, ps, af, g⟩ (evE E) w K :=
  n_next hx hr hb h0 fun j u w' hj hs e1 e2 => by
    have hl := (hm.2 u (List.mem_of_getElem? hj)).1
    obtain ⟨l, v⟩ := u
    match l, hl with
    | [p, q], _ => exact h1 j p q v w' hj hs e1 e2
theorem mEs_nodup (vE : τ → Value) : ∀ (m : List (List Int × τ)) (i : Nat), ((mEs vE i m).map (·.born)).Nodup ∧ ∀ u ∈ mEs vE i m, i ≤ u.born
  | [], i => ⟨List.Pairwise.nil, fun u hu => by cases hu⟩
  | a :: t, i => by
    obtain ⟨h1, h2⟩ := mEs_nodup vE t (i + 1)
    refine ⟨?_, fun u hu => ?_⟩
    · show (i :: (mEs vE (i + 1) t).map (·.born)).Nodup
      rw [List.nodup_cons]
      refine ⟨fun q => ?_, h1⟩
      obtain ⟨u, hu, e⟩ := List.mem_map.1 q
      have := h2 u hu
      omega
    · rcases List.mem_cons.1 (show u ∈ ⟨kE a.1, vE a.2, i⟩ :: mEs vE (i + 1) t from hu) with q | q
      · rw [q]; exact Nat.le_refl _
      · have := h2 u q; omega
theorem v_entry {m : List (List Int × τ)} {seen : List Nat} {j : Nat} {p q : Int} {v : τ} (hj : m[j]? = some ([p, q], v)) (hx : evE E x = .pointer (some ⟨r, 0, none⟩)) (hr : w.heap[r]? = some (mitO b m.length (seen ++ [j]))) (hb : w.heap[b]? = some (mapO vE m)) :
    (execOp (evE E) ⟨d, .entry x, ty, ps, af, g⟩).run P w = .ok (.value (.tuple #[.agg #[.int .i64 p, .int .i64 q], vE v])) w := by
  have hm : (mEs vE 0 m)[j]? = some ⟨kE [p, q], vE v, 0 + j⟩ := by rw [yc9, hj]; rfl
  have hr' : w.heap[r]? = some (.mapIter (some b) m.length (seen.toArray.push (⟨kE [p, q], vE v, 0 + j⟩ : MapEntry).born) m.length) := by
    rw [hr]; simp [mitO]
  have := run_entry_at (P := P) w r b m.length seen.toArray _ m.length _ hr' hb (by simpa using List.mem_of_getElem? hm) (by simpa using (mEs_nodup vE m 0).1)
  unfold execOp
  simp only [hx, this, Sem.run_bind, Sem.run_pure, Result.andThen]
  rfl
end
end Go.Proofs.Ytdbpajnjhgocoaa

/- A drawn region in which two operations, each with effects, stand in an order that is open: both orders are walked. -/
namespace Go.Proofs.Ytdbpajnjhgocoaa
open Go Go.Proofs.Try
set_option linter.unusedVariables false
set_option linter.unusedSimpArgs false
section
variable {P : Program} {ops : Array Oper} {Q : Act → World → Prop} {F : Fence} {n : Nat} {Q' : Exit → Act → World → Prop}
theorem ygg {st : Nat → List Nat} (hF : ∀ f, F.fn f) (hD : F.depth = none) (hC : ∀ f args w R, Calls P f args w R → CallsIn F (n - 1) P f args w R) (hRd : ∀ l f tmps assign body w R, RoundIn Fence.wide 0 P l f tmps assign body w R → RoundIn F (n - 1) P l f tmps assign body w R)
    {i : Nat} {R : List Nat} {pend : List (Nat × Sem Next × Value)} {a : Act} {w : World} {K : Act → World → Prop} (h1 : seqS P ops st Q (i :: R) pend a w) (hrec : ∀ pend a w, seqS P ops st Q R pend a w → K a w) : wpOpIn F n P ops Q' i K a w := by
  unfold wpOpIn
  cases hoi : ops[i]? with
  | none => simp only [seqS, hoi] at h1; exact hrec _ _ _ h1
  | some oi =>
    simp only [seqS, hoi] at h1 ⊢
    split
    · rename_i c
      rw [if_pos c] at h1
      split at h1
      · rename_i q
        obtain ⟨v, hv, h1⟩ := h1
        refine ⟨fun f _ => hF f, ?_⟩
        rw [Oper.semAt_eq _ _ _ (yaK.defer q), hv]
        exact hrec _ _ _ h1
      · obtain ⟨hn, h1⟩ := h1
        refine ⟨fun f _ => hF f, ?_⟩
        rw [Oper.semAt_eq _ _ _ (ybd.defer hn)]
        unfold ybc at h1
        split at h1
        · rename_i v w' hr
          rw [hr]
          exact hrec _ _ _ h1.2
        · rename_i w' hr
          rw [hr]
          exact hrec _ _ _ h1.2
        · rename_i f args w' hr
          rw [hr]
          refine ⟨fun hd => (by rw [hD] at hd; cases hd), (hC _ _ _ _ h1).mono ?_⟩
          rintro e w'' ⟨v, rfl, hh⟩
          exact hrec _ _ _ hh.2
        · rename_i l f tmps assign body w' hr
          rw [hr]
          refine ⟨fun hd => (by rw [hD] at hd; cases hd), (hRd _ _ _ _ _ _ _ h1).mono ?_⟩
          rintro e w'' ⟨v, rfl, hh⟩
          exact hrec _ _ _ hh.2
        · exact h1.elim
    · rename_i c
      rw [if_neg c] at h1
      exact ⟨fun f _ => hF f, hrec _ _ _ h1⟩
theorem yeI {R1 R2 : List Nat} {i : Nat} {listed : Array Bool} (hil : i < listed.size) (hl : ∀ k, k ∈ R1 ++ i :: R2 ↔ listed.getD k true = false) (hni : i ∉ R1 ++ R2) : ∀ k, k ∈ R1 ++ R2 ↔ (listed.setIfInBounds i true).getD k true = false := by
  intro k
  by_cases hki : i = k
  · subst hki
    constructor
    · intro h; exact absurd h hni
    · intro h; simp [hil] at h
  · rw [getD_set_ne true hki, ← hl k]
    simp only [List.mem_append, List.mem_cons]
    constructor
    · rintro (h | h)
      · exact .inl h
      · exact .inr (.inr h)
    · rintro (h | h | h)
      · exact .inl h
      · exact absurd h.symm hki
      · exact .inr h
theorem set_down {i : Nat} {oi : Oper} {listed : Array Bool} (hil : i < listed.size) (hoi : ops[i]? = some oi) (hall : ∀ e ∈ oi.after, Region.binds .any e = true → listed.getD e.on true = true) (hdw : ydc ops listed) : ydc ops (listed.setIfInBounds i true) := by
  intro j oj hj hlj e he hb
  have hmono : ∀ x : Nat, listed.getD x true = true → (listed.setIfInBounds i true).getD x true = true := by
    intro x hx
    by_cases hki : i = x
    · subst hki; simp [hil]
    · rw [getD_set_ne true hki]; exact hx
  by_cases hji : i = j
  · subst hji
    rw [hoi] at hj
    cases hj
    exact hmono _ (hall e he hb)
  · rw [getD_set_ne true hji] at hlj
    exact hmono _ (hdw j oj hj hlj e he hb)
theorem yeJ {st : Nat → List Nat} {i : Nat} {oi : Oper} {listed : Array Bool} {R1 R2 : List Nat} (hoi : ops[i]? = some oi) (hl : ∀ k, k ∈ R1 ++ i :: R2 ↔ listed.getD k true = false) (hs : listed.size = ops.size) (hdw : ydc ops listed) (hall : ∀ e ∈ oi.after, Region.binds .any e = true → listed.getD e.on true = true)
    (hlt1 : ∀ r ∈ R1, ybG ops st r i = true) {pend : List (Nat × Sem Next × Value)} {a : Act} {w : World} (h : seqS P ops st Q (R1 ++ i :: R2) pend a w) : seqS P ops st Q (i :: (R1 ++ R2)) pend a w :=
  yfi hoi R1 R2 (fun r hr => by
    have hr0 := (hl r).1 (by simp [hr])
    have hrs : r < ops.size := by
      rcases Nat.lt_or_ge r listed.size with h | h
      · omega
      · simp [Array.getD_eq_getD_getElem?, Array.getElem?_eq_none h] at hr0
    have hd0 : dep ops ops.size r i = false := by
      cases hq : dep ops ops.size r i with
      | false => rfl
      | true =>
        have := yb5 hdw ops.size r i oi hoi hall hq
        rw [this] at hr0; cases hr0
    obtain ⟨a1, a2, a3⟩ := ybG.two (hlt1 r hr) (by simp [hrs] : ops[r]? = some ops[r]) hoi hd0
    exact ⟨ops[r], by simp [hrs], a1, a2, a3⟩) pend a w h
theorem seqS_two {st1 st2 : Nat → List Nat} {p q : Nat} {S0 : Nat → Prop} (hF : ∀ f, F.fn f) (hD : F.depth = none) (hC : ∀ f args w R, Calls P f args w R → CallsIn F (n - 1) P f args w R) (hRd : ∀ l f tmps assign body w R, RoundIn Fence.wide 0 P l f tmps assign body w R → RoundIn F (n - 1) P l f tmps assign body w R) (hQ : ∀ a w, Q a w → Q' .normal a w)
    (hO : ∀ j oj, ops[j]? = some oj → ∀ e ∈ oj.after, Region.binds .any e = true → e.on < ops.size ∧ e.on ≠ j) (hpq : p ≠ q) (hWp : ∀ o, ops[p]? = some o → ∀ e ∈ o.after, Region.binds .any e = true → e.on ≠ q ∧ dep ops ops.size q e.on ≠ true) (hN : ∀ r o, ops[r]? = some o → r ≠ p → r ≠ q → yaK o.op = true ∨ dep ops ops.size p r = true ∨ dep ops ops.size q r = true ∨ S0 r) :
    ∀ (fuel : Nat) (R1 R2 : List Nat) (listed : Array Bool) (pend : List (Nat × Sem Next × Value)) (a : Act) (w : World), R1.length ≤ fuel → R2.length ≤ fuel →
    R1.Pairwise (fun i j => i ≠ j ∧ (ybG ops st1 i j = true ∨ (i = p ∧ (j = q ∨ dep ops ops.size q j = true)))) → R2.Pairwise (fun i j => i ≠ j ∧ (ybG ops st2 i j = true ∨ (i = q ∧ (j = p ∨ dep ops ops.size p j = true)))) →
    (∀ i, i ∈ R1 ↔ listed.getD i true = false) → (∀ i, i ∈ R2 ↔ listed.getD i true = false) → listed.size = ops.size → ydc ops listed → listed.getD p true = false → listed.getD q true = false → (∀ r, S0 r → listed.getD r true = true) →
    seqS P ops st1 Q R1 pend a w → seqS P ops st2 Q R2 pend a w → wpAnyIn F n P .any ops Q' fuel listed a w := by
  intro fuel
  induction fuel with
  | zero =>
    intro R1 R2 listed pend a w hf1 hf2 hp1 hp2 hl1 hl2 hs hdw hpl hql hS0 h1 h2
    have hR : R1 = [] := List.eq_nil_of_length_eq_zero (by omega)
    subst hR
    exact absurd ((hl1 p).2 hpl) (by simp)
  | succ fuel ih =>
    intro R1 R2 listed pend a w hf1 hf2 hp1 hp2 hl1 hl2 hs hdw hpl hql hS0 h1 h2
    have hb : ∀ x : Nat, listed.getD x true = false → x < ops.size := by
      intro x hx
      rcases Nat.lt_or_ge x listed.size with h | h
      · omega
      · simp [Array.getD_eq_getD_getElem?, Array.getElem?_eq_none h] at hx
    have hlb : ∀ x : Nat, listed.getD x false = true → listed.getD x true = true := by
      intro x hx
      rcases Nat.lt_or_ge x listed.size with h | h
      · simp [Array.getD_eq_getD_getElem?, h] at hx ⊢; exact hx
      · simp [Array.getD_eq_getD_getElem?, h]
    refine ⟨fun h0 => ?_, fun i hi => ?_⟩
    · -- something can always be carried out
      exfalso
      cases hR : R1 with
      | nil => rw [hR] at hl1; exact absurd ((hl1 p).2 hpl) (by simp)
      | cons r R =>
        rw [hR] at hl1 hp1
        have hr := (hl1 r).1 (by simp)
        have hlt := hb r hr
        have hmem : r ∈ Region.ready .any ops listed := by
          refine mem_ready.2 ⟨hr, ops[r], by simp [hlt], fun e he hbd => ?_⟩
          have h1' := hO r _ (by simp [hlt] : ops[r]? = some ops[r]) e he hbd
          have h2' : e.on ∉ r :: R := by
            intro h
            rcases List.mem_cons.1 h with h | h
            · exact h1'.2 h
            · rcases ((List.pairwise_cons.1 hp1).1 _ h).2 with hk | ⟨rfl, hk⟩
              · exact ybG.not hk (by simp [hlt] : ops[r]? = some ops[r]) he hbd rfl
              · have h9 := hWp _ (by simp [hlt] : ops[r]? = some ops[r]) e he hbd
                rcases hk with hk | hk
                · exact h9.1 hk
                · exact h9.2 hk
          have h3 := mt (hl1 e.on).2 h2'
          have h4 : e.on < listed.size := by omega
          simp [h4] at h3 ⊢
          exact h3
        rw [h0] at hmem
        cases hmem
    · obtain ⟨hun, oi, hoi, hall⟩ := mem_ready.1 hi
      have hil : i < listed.size := by have := (Array.getElem?_eq_some_iff.1 hoi).1; omega
      have hall' : ∀ e ∈ oi.after, Region.binds .any e = true → listed.getD e.on true = true := fun e he hbd => hlb _ (hall e he hbd)
      obtain ⟨A1, B1, rfl⟩ := List.append_of_mem ((hl1 i).2 hun)
      obtain ⟨A2, B2, rfl⟩ := List.append_of_mem ((hl2 i).2 hun)
      have lt1 : ∀ r ∈ A1, r ≠ i ∧ (ybG ops st1 r i = true ∨ (r = p ∧ (i = q ∨ dep ops ops.size q i = true))) := fun r hr => (List.pairwise_append.1 hp1).2.2 r hr i (by simp)
      have lt2 : ∀ r ∈ A2, r ≠ i ∧ (ybG ops st2 r i = true ∨ (r = q ∧ (i = p ∨ dep ops ops.size p i = true))) := fun r hr => (List.pairwise_append.1 hp2).2.2 r hr i (by simp)
      have ni1 : i ∉ A1 ++ B1 := by
        intro hm
        rcases List.mem_append.1 hm with hm | hm
        · exact (lt1 i hm).1 rfl
        · exact ((List.pairwise_cons.1 (List.pairwise_append.1 hp1).2.1).1 i hm).1 rfl
      have ni2 : i ∉ A2 ++ B2 := by
        intro hm
        rcases List.mem_append.1 hm with hm | hm
        · exact (lt2 i hm).1 rfl
        · exact ((List.pairwise_cons.1 (List.pairwise_append.1 hp2).2.1).1 i hm).1 rfl
      have s1 := hp1.sublist ((List.Sublist.refl A1).append (List.sublist_cons_self i B1))
      have s2 := hp2.sublist ((List.Sublist.refl A2).append (List.sublist_cons_self i B2))
      have l1 := yeI hil hl1 ni1
      have l2 := yeI hil hl2 ni2
      have dw := set_down hil hoi hall' hdw
      have n1 : (A1 ++ B1).length ≤ fuel := by simp at hf1 ⊢; omega
      have n2 : (A2 ++ B2).length ≤ fuel := by simp at hf2 ⊢; omega
      by_cases hip : i = p
      · -- the first order
        have h1' := yeJ hoi hl1 hs hdw hall' (fun r hr => by
          rcases (lt1 r hr).2 with hk | ⟨hk, _⟩
          · exact hk
          · exact absurd (hk.trans hip.symm) (lt1 r hr).1) h1
        refine ygg hF hD hC hRd h1' fun pend a w h => seqS_any (st := st1) hF hD hC hRd hQ hO fuel _ _ pend a w n1 (s1.imp_of_mem ?_) l1 (by simp [hs]) dw h
        rintro x y hx hy ⟨hxy, hk | ⟨rfl, _⟩⟩
        · exact ⟨hxy, hk⟩
        · exact absurd (hip ▸ hx) ni1
      · by_cases hiq : i = q
        · have h2' := yeJ hoi hl2 hs hdw hall' (fun r hr => by
            rcases (lt2 r hr).2 with hk | ⟨hk, _⟩
            · exact hk
            · exact absurd (hk.trans hiq.symm) (lt2 r hr).1) h2
          refine ygg hF hD hC hRd h2' fun pend a w h => seqS_any (st := st2) hF hD hC hRd hQ hO fuel _ _ pend a w n2 (s2.imp_of_mem ?_) l2 (by simp [hs]) dw h
          rintro x y hx hy ⟨hxy, hk | ⟨rfl, _⟩⟩
          · exact ⟨hxy, hk⟩
          · exact absurd (hiq ▸ hx) ni2
        · have h1' := yeJ hoi hl1 hs hdw hall' (fun r hr => by
            rcases (lt1 r hr).2 with hk | ⟨_, hk | hk⟩
            · exact hk
            · exact absurd hk hiq
            · have := yb5 hdw ops.size q i oi hoi hall' hk
              rw [this] at hql; cases hql) h1
          have h2' := yeJ hoi hl2 hs hdw hall' (fun r hr => by
            rcases (lt2 r hr).2 with hk | ⟨_, hk | hk⟩
            · exact hk
            · exact absurd hk hip
            · have := yb5 hdw ops.size p i oi hoi hall' hk
              rw [this] at hpl; cases hpl) h2
          have hqt : yaK oi.op = true := by
            rcases hN i oi hoi hip hiq with hk | hk | hk | hk
            · exact hk
            · have := yb5 hdw ops.size p i oi hoi hall' hk
              rw [this] at hpl; cases hpl
            · have := yb5 hdw ops.size q i oi hoi hall' hk
              rw [this] at hql; cases hql
            · rw [hS0 i hk] at hun; cases hun
          have pl : (listed.setIfInBounds i true).getD p true = false := by rw [getD_set_ne true hip]; exact hpl
          have ql : (listed.setIfInBounds i true).getD q true = false := by rw [getD_set_ne true hiq]; exact hql
          have go := fun pend a w => ih (A1 ++ B1) (A2 ++ B2) (listed.setIfInBounds i true) pend a w n1 n2 s1 s2 l1 l2 (by simp [hs]) dw pl ql (fun r hr => by
            by_cases hir : i = r
            · subst hir; simp [hil]
            · rw [getD_set_ne true hir]; exact hS0 r hr)
          unfold wpOpIn
          simp only [seqS, hoi] at h1' h2' ⊢
          split
          · rename_i c
            rw [if_pos c, if_pos hqt] at h1' h2'
            obtain ⟨v, hv, h1'⟩ := h1'
            obtain ⟨v2, hv2, h2'⟩ := h2'
            have e : v2 = v := by
              rw [hv] at hv2
              injection hv2 with e _
              injection e with e
              exact e.symm
            subst e
            refine ⟨fun f _ => hF f, ?_⟩
            rw [Oper.semAt_eq _ _ _ (yaK.defer hqt), hv]
            exact go _ _ _ h1' h2'
          · rename_i c
            rw [if_neg c] at h1' h2'
            exact ⟨fun f _ => hF f, go _ _ _ h1' h2'⟩
end
section
variable {F : Fence} {n : Nat} {P : Program} {N : Nat} {Q : Exit → Act → World → Prop} {E : Env} {ds : List Deferred} {w : World} {t : List Item}
theorem wt_cutD {c : Code} (J : Env → List Deferred → World → Prop) (hj : ∀ E ds w, J E ds w → WT F n P N t Q E ds w) (h : (∀ E ds w, J E ds w → WT F n P N t Q E ds w) → WT F n P N (.code c :: t) Q E ds w) : WT F n P N (.code c :: t) Q E ds w := h hj
end
section
variable {P : Program} {ops : Array Oper} {Q : Act → World → Prop} {F : Fence} {n : Nat} {Q' : Exit → Act → World → Prop}
def Fork (P : Program) (ops : Array Oper) (st1 st2 : Nat → List Nat) (Q : Act → World → Prop) (R1 R2 : List Nat) (a : Act) (w : World) : Prop := seqS P ops st1 Q R1 [] a w ∧ seqS P ops st2 Q R2 [] a w
theorem seqS_fork {st0 st1 st2 : Nat → List Nat} {p q : Nat} {S0 : Nat → Prop} {R1 R2 : List Nat} {k : Nat} (hF : ∀ f, F.fn f) (hD : F.depth = none) (hC : ∀ f args w R, Calls P f args w R → CallsIn F (n - 1) P f args w R) (hRd : ∀ l f tmps assign body w R, RoundIn Fence.wide 0 P l f tmps assign body w R → RoundIn F (n - 1) P l f tmps assign body w R) (hQ : ∀ a w, Q a w → Q' .normal a w)
    (hO : ∀ j oj, ops[j]? = some oj → ∀ e ∈ oj.after, Region.binds .any e = true → e.on < ops.size ∧ e.on ≠ j) (hpq : p ≠ q) (hWp : ∀ o, ops[p]? = some o → ∀ e ∈ o.after, Region.binds .any e = true → e.on ≠ q ∧ dep ops ops.size q e.on ≠ true) (hN : ∀ r o, ops[r]? = some o → r ≠ p → r ≠ q → yaK o.op = true ∨ dep ops ops.size p r = true ∨ dep ops ops.size q r = true ∨ S0 r)
    (hk1 : R1.length ≤ k) (hk2 : R2.length ≤ k) (hp1 : R1.Pairwise (fun i j => i ≠ j ∧ (ybG ops st1 i j = true ∨ (i = p ∧ (j = q ∨ dep ops ops.size q j = true))))) (hp2 : R2.Pairwise (fun i j => i ≠ j ∧ (ybG ops st2 i j = true ∨ (i = q ∧ (j = p ∨ dep ops ops.size p j = true)))))
    (hp : p ∈ R1) (hq : q ∈ R1) (hS1 : ∀ r ∈ R1, ¬ S0 r) :
    ∀ (m : Nat) (R0 : List Nat) (listed : Array Bool) (pend : List (Nat × Sem Next × Value)) (a : Act) (w : World), R0.length = m → R0.Pairwise (fun i j => i ≠ j ∧ ybG ops st0 i j = true) →
    (∀ r ∈ R0, ∀ i ∈ R1, dep ops ops.size r i = true) → (∀ r ∈ R0, ∀ o, ops[r]? = some o → ∀ e ∈ o.after, Region.binds .any e = true → e.on ∉ R1) → (∀ r ∈ R0, r ∉ R1 ∧ r ∉ R2) →
    (∀ i, i ∈ R0 ++ R1 ↔ listed.getD i true = false) → (∀ i, i ∈ R0 ++ R2 ↔ listed.getD i true = false) → (∀ i, S0 i → i ∉ R0 → listed.getD i true = true) → listed.size = ops.size → ydc ops listed →
    seqS P ops st0 (Fork P ops st1 st2 Q R1 R2) R0 pend a w → wpAnyIn F n P .any ops Q' (m + k) listed a w := by
  intro m
  induction m with
  | zero =>
    intro R0 listed pend a w hm hp0 hd0 he0 hn0 hl1 hl2 hS hs hdw h
    have hR : R0 = [] := List.eq_nil_of_length_eq_zero hm
    subst hR
    simp only [seqS] at h
    simp only [List.nil_append] at hl1 hl2
    rw [Nat.zero_add]
    exact seqS_two (st1 := st1) (st2 := st2) (p := p) (q := q) (S0 := S0) hF hD hC hRd hQ hO hpq hWp hN k R1 R2 listed [] a w hk1 hk2 hp1 hp2 hl1 hl2 hs hdw ((hl1 p).1 hp) ((hl1 q).1 hq) (fun r hr => hS r hr (by simp)) h.1 h.2
  | succ m ih =>
    intro R0 listed pend a w hm hp0 hd0 he0 hn0 hl1 hl2 hS hs hdw h
    have hb : ∀ x : Nat, listed.getD x true = false → x < ops.size := by
      intro x hx
      rcases Nat.lt_or_ge x listed.size with h | h
      · omega
      · simp [Array.getD_eq_getD_getElem?, Array.getElem?_eq_none h] at hx
    have hlb : ∀ x : Nat, listed.getD x false = true → listed.getD x true = true := by
      intro x hx
      rcases Nat.lt_or_ge x listed.size with h | h
      · simp [Array.getD_eq_getD_getElem?, h] at hx ⊢; exact hx
      · simp [Array.getD_eq_getD_getElem?, h]
    rw [Nat.succ_add]
    refine ⟨fun h0 => ?_, fun i hi => ?_⟩
    · exfalso
      cases hR : R0 with
      | nil => rw [hR] at hm; cases hm
      | cons r R =>
        rw [hR] at hl1 hp0 he0
        have hr := (hl1 r).1 (by simp)
        have hlt := hb r hr
        have hmem : r ∈ Region.ready .any ops listed := by
          refine mem_ready.2 ⟨hr, ops[r], by simp [hlt], fun e he hbd => ?_⟩
          have h1' := hO r _ (by simp [hlt] : ops[r]? = some ops[r]) e he hbd
          have h2' : e.on ∉ (r :: R) ++ R1 := by
            intro h
            rcases List.mem_append.1 h with h | h
            · rcases List.mem_cons.1 h with h | h
              · exact h1'.2 h
              · exact ybG.not ((List.pairwise_cons.1 hp0).1 _ h).2 (by simp [hlt] : ops[r]? = some ops[r]) he hbd rfl
            · exact he0 r (by simp) _ (by simp [hlt] : ops[r]? = some ops[r]) e he hbd h
          have h3 := mt (hl1 e.on).2 h2'
          have h4 : e.on < listed.size := by omega
          simp [h4] at h3 ⊢
          exact h3
        rw [h0] at hmem
        cases hmem
    · obtain ⟨hun, oi, hoi, hall⟩ := mem_ready.1 hi
      have hil : i < listed.size := by have := (Array.getElem?_eq_some_iff.1 hoi).1; omega
      have hall' : ∀ e ∈ oi.after, Region.binds .any e = true → listed.getD e.on true = true := fun e he hbd => hlb _ (hall e he hbd)
      have hi0 : i ∈ R0 := by
        rcases List.mem_append.1 ((hl1 i).2 hun) with h | h
        · exact h
        · cases hR : R0 with
          | nil => rw [hR] at hm; cases hm
          | cons r R =>
            have hr0 : r ∈ R0 := by rw [hR]; simp
            have := yb5 hdw ops.size r i oi hoi hall' (hd0 r hr0 i h)
            rw [(hl1 r).1 (by simp [hr0])] at this; cases this
      obtain ⟨A, B, rfl⟩ := List.append_of_mem hi0
      have lt : ∀ r ∈ A, r ≠ i ∧ ybG ops st0 r i = true := fun r hr => (List.pairwise_append.1 hp0).2.2 r hr i (by simp)
      have ni : i ∉ A ++ B := by
        intro hm
        rcases List.mem_append.1 hm with hm | hm
        · exact (lt i hm).1 rfl
        · exact ((List.pairwise_cons.1 (List.pairwise_append.1 hp0).2.1).1 i hm).1 rfl
      have nis := hn0 i (by simp)
      have sub : ∀ r ∈ A ++ B, r ∈ A ++ i :: B := fun r hr => by
        rcases List.mem_append.1 hr with h | h <;> simp [h]
      have h' := yfi hoi A B (fun r hr => by
        have hr0 := (hl1 r).1 (by simp [hr])
        have hrs := hb r hr0
        have hd' : dep ops ops.size r i = false := by
          cases hq : dep ops ops.size r i with
          | false => rfl
          | true =>
            have := yb5 hdw ops.size r i oi hoi hall' hq
            rw [this] at hr0; cases hr0
        obtain ⟨a1, a2, a3⟩ := ybG.two (lt r hr).2 (by simp [hrs] : ops[r]? = some ops[r]) hoi hd'
        exact ⟨ops[r], by simp [hrs], a1, a2, a3⟩) pend a w h
      refine ygg hF hD hC hRd h' fun pend a w h => ih (A ++ B) (listed.setIfInBounds i true) pend a w (by simp at hm ⊢; omega) (hp0.sublist ((List.Sublist.refl A).append (List.sublist_cons_self i B))) (fun r hr => hd0 r (sub r hr)) (fun r hr => he0 r (sub r hr)) (fun r hr => hn0 r (sub r hr)) ?_ ?_ (fun r hr hrn => ?_) (by simp [hs]) (set_down hil hoi hall' hdw) h
      · rw [List.append_assoc]
        exact yeI hil (by simpa [List.append_assoc] using hl1) (by simp at ni ⊢; exact ⟨ni.1, ni.2, nis.1⟩)
      · rw [List.append_assoc]
        exact yeI hil (by simpa [List.append_assoc] using hl2) (by simp at ni ⊢; exact ⟨ni.1, ni.2, nis.2⟩)
      · by_cases hir : i = r
        · subst hir; simp [hil]
        · rw [getD_set_ne true hir]
          refine hS r hr fun hm => hrn ?_
          simp at hm ⊢
          rcases hm with h | h | h
          · exact .inl h
          · exact absurd h.symm hir
          · exact .inr h
def yfY (ops : Array Oper) (sta st1 st2 : Nat → List Nat) (p q : Nat) (R0 R1 R2 : List Nat) : Bool :=
  ((R0 ++ R1 ++ R2).all fun j => match ops[j]? with
    | none => false
    | some oj => oj.after.all fun e => !Region.binds .any e || (decide (e.on < ops.size) && !(e.on == j))) && (List.range ops.size).all ((R0 ++ R1).contains ·) && (List.range ops.size).all ((R0 ++ R2).contains ·) && decide (R0.length + R1.length ≤ ops.size) && decide (R0.length + R2.length ≤ ops.size) &&
  ycQ (fun i j => !(i == j) && (ybG ops st1 i j || (i == p && (j == q || dep ops ops.size q j)))) R1 && ycQ (fun i j => !(i == j) && (ybG ops st2 i j || (i == q && (j == p || dep ops ops.size p j)))) R2 && !(p == q) && R1.contains p && R1.contains q &&
  (R1.all fun r => r == p || r == q || (match ops[r]? with | some o => yaK o.op | none => true) || dep ops ops.size p r || dep ops ops.size q r) &&
  (match ops[p]? with | some o => o.after.all fun e => !Region.binds .any e || (!(e.on == q) && !dep ops ops.size q e.on) | none => true) &&
  ycQ (fun i j => !(i == j) && ybG ops sta i j) R0 && (R0.all fun r => R1.all fun i => dep ops ops.size r i) && (R0.all fun r => match ops[r]? with | some o => o.after.all fun e => !Region.binds .any e || !(R1.contains e.on) | none => true) && (R0.all fun r => !(R1.contains r) && !(R2.contains r))
end
section
variable {F : Fence} {n : Nat} {P : Program} {N : Nat} {Q : Exit → Act → World → Prop} {E : Env} {ds : List Deferred} {w : World} {t : List Item}
theorem wt_draw3 {id : Nat} {ops : Array Oper} (p q : Nat) (R0 R1 R2 : List Nat) (sta st1 st2 : Nat → List Nat) (hw : Wd F) (hm : P.follows .mixedOrders = true) (hO : yfY ops sta st1 st2 p q R0 R1 R2 = true) (h : RJ P N ops sta (Fork P ops st1 st2 (WTa F n P t Q) R1 R2) R0 [] E ds w.drew) :
    WT F n P N (.code (.region id ops true) :: t) Q E ds w := by
  intro a r
  simp only [yfY, Bool.and_eq_true, decide_eq_true_eq] at hO
  obtain ⟨⟨⟨⟨⟨⟨⟨⟨⟨⟨⟨⟨⟨⟨⟨g1, g2⟩, g3⟩, g4⟩, g5⟩, g6⟩, g7⟩, g8⟩, g9⟩, g10⟩, g11⟩, g12⟩, g13⟩, g14⟩, g15⟩, g16⟩ := hO
  have k1 : ∀ i, i < ops.size → i ∈ R0 ++ R1 := fun i hi => by simpa using List.all_eq_true.1 g2 i (List.mem_range.2 hi)
  have k2 : ∀ i, i < ops.size → i ∈ R0 ++ R2 := fun i hi => by simpa using List.all_eq_true.1 g3 i (List.mem_range.2 hi)
  have lt : ∀ i, i ∈ R0 ++ R1 ++ R2 → i < ops.size := fun i hi => by
    have := List.all_eq_true.1 g1 i hi
    rcases Nat.lt_or_ge i ops.size with h | h
    · exact h
    · rw [Array.getElem?_eq_none h] at this; cases this
  have hl : ∀ R : List Nat, (∀ i, i < ops.size → i ∈ R) → (∀ i ∈ R, i < ops.size) → ∀ i, i ∈ R ↔ (Array.replicate ops.size false).getD i true = false := fun R a1 a2 i => by
    constructor
    · intro hi; simp [a2 i hi]
    · intro hi
      apply a1
      rcases Nat.lt_or_ge i ops.size with h | h
      · exact h
      · simp [Array.getD_eq_getD_getElem?, h] at hi
  have n0 : ∀ r ∈ R0, r ∉ R1 ∧ r ∉ R2 := fun r hr => by simpa using List.all_eq_true.1 g16 r hr
  refine WTa.of (wpIn_region_any hm ?_)
  have hfuel : R0.length + (ops.size - R0.length) = ops.size := by omega
  refine Eq.mp (congrArg (fun f => wpAnyIn F n P .any ops _ f _ a _) hfuel) ?_
  refine seqS_fork (st0 := sta) (st1 := st1) (st2 := st2) (p := p) (q := q) (S0 := fun r => r ∈ R0) (R1 := R1) (R2 := R2) hw.fn hw.depth (fun f args w R h => hw.calls _ _ _ _ _ _ h) (fun l f tmps assign body w R h => hw.rounds _ _ _ _ _ _ _ _ _ h) (fun a w h => ⟨rfl, h⟩) (fun j oj hj e he hb => ?_) (by simpa using g8) (fun o ho e he hb => ?_) (fun r o ho hrp hrq => ?_) (by omega) (by omega)
    ((ycQ.out g6).imp (fun h => by simpa using h)) ((ycQ.out g7).imp (fun h => by simpa using h)) (by simpa using g9) (by simpa using g10) (fun r hr h => (n0 r h).1 hr) R0.length R0 _ [] a _ rfl ((ycQ.out g13).imp (fun h => by simpa using h)) (fun r hr i hi => List.all_eq_true.1 (List.all_eq_true.1 g14 r hr) i hi) (fun r hr o ho e he hb => ?_) n0
    (hl _ k1 fun i hi => lt i (List.mem_append.2 (.inl hi))) (hl _ k2 fun i hi => lt i (by rcases List.mem_append.1 hi with h | h <;> simp [h])) (fun i h h' => absurd h h') (by simp) (fun j oj hj hl => ?_) (h a r)
  · have := List.all_eq_true.1 g1 j (List.mem_append.2 (.inl (k1 j (Array.getElem?_eq_some_iff.1 hj).1)))
    rw [hj] at this
    simp only at this
    rw [Array.all_eq_true] at this
    obtain ⟨k, hk, rfl⟩ := Array.getElem_of_mem he
    have h3 := this k hk
    simpa [hb] using h3
  · rw [ho] at g12
    simp only at g12
    rw [Array.all_eq_true] at g12
    obtain ⟨k, hk, rfl⟩ := Array.getElem_of_mem he
    have h3 := g12 k hk
    simpa [hb] using h3
  · rcases List.mem_append.1 (k1 r (Array.getElem?_eq_some_iff.1 ho).1) with h0 | h0
    · exact .inr (.inr (.inr h0))
    · have := List.all_eq_true.1 g11 r h0
      rw [ho] at this
      simp only [Bool.or_eq_true, beq_iff_eq] at this
      rcases this with (((h | h) | h) | h) | h
      · exact absurd h hrp
      · exact absurd h hrq
      · exact .inl h
      · exact .inr (.inl h)
      · exact .inr (.inr (.inl h))
  · have := List.all_eq_true.1 g15 r hr
    rw [ho] at this
    simp only at this
    rw [Array.all_eq_true] at this
    obtain ⟨k, hk, rfl⟩ := Array.getElem_of_mem he
    have h3 := this k hk
    simpa [hb] using h3
  · exfalso
    have := (Array.getElem?_eq_some_iff.1 hj).1
    simp [Array.getD_eq_getD_getElem?, this] at hl
theorem wp_draw3 {id : Nat} {ops : Array Oper} (p q : Nat) (R0 R1 R2 : List Nat) (sta st1 st2 : Nat → List Nat) (hw : Wd F) (hm : P.follows .mixedOrders = true) (hO : yfY ops sta st1 st2 p q R0 R1 R2 = true)
    (h : RP P N ops sta (Fork P ops st1 st2 (WTa F n P t Q) R1 R2) R0 (R0.map fun i => ops.getD i default) [] E ds w.drew) : WT F n P N (.code (.region id ops true) :: t) Q E ds w := by
  refine wt_draw3 p q R0 R1 R2 sta st1 st2 hw hm hO (h ?_)
  simp only [yfY, Bool.and_eq_true, decide_eq_true_eq] at hO
  rw [List.map_map]
  refine List.map_congr_left fun i hi => ?_
  have := List.all_eq_true.1 hO.1.1.1.1.1.1.1.1.1.1.1.1.1.1.1 i (by simp [hi])
  cases hq : ops[i]? with
  | none => rw [hq] at this; cases this
  | some o => simp [Array.getD_eq_getD_getElem?, hq]
theorem rp_fork {ops : Array Oper} {st st1 st2 : Nat → List Nat} {R1 R2 : List Nat} {Qa : Act → World → Prop} {pend : List (Nat × Sem Next × Value)} (hb1 : R1.all (fun i => Nat.blt i ops.size) = true) (hb2 : R2.all (fun i => Nat.blt i ops.size) = true)
    (h1 : RP P N ops st1 Qa R1 (R1.map fun i => ops.getD i default) [] E ds w) (h2 : RP P N ops st2 Qa R2 (R2.map fun i => ops.getD i default) [] E ds w) : RP P N ops st (Fork P ops st1 st2 Qa R1 R2) [] [] pend E ds w := by
  have key : ∀ R : List Nat, R.all (fun i => Nat.blt i ops.size) = true → R.map (fun i => ops[i]?) = (R.map fun i => ops.getD i default).map some := fun R hR => by
    rw [List.map_map]
    refine List.map_congr_left fun i hi => ?_
    have hlt : i < ops.size := by simpa using List.all_eq_true.1 hR i hi
    simp [Array.getD_eq_getD_getElem?, hlt]
  intro _ a r
  exact ⟨h1 (key R1 hb1) a r, h2 (key R2 hb2) a r⟩
end
end Go.Proofs.Ytdbpajnjhgocoaa

/- Drawn regions whose operations with effects stand in several open orders: a tree of orders is walked. -/
namespace Go.Proofs.Ytdbpajnjhgocoaa
open Go Go.Proofs.Try
set_option linter.unusedVariables false
set_option linter.unusedSimpArgs false
inductive OT where
  | nil : OT
  | one (i : Nat) (s : List Nat) (t : OT) : OT
  | both (a b : OT) : OT
namespace OT
def ids : OT → List Nat
  | nil => []
  | one i _ t => i :: t.ids
  | both a b => a.ids ++ b.ids
def nodes : OT → List (Nat × List Nat)
  | nil => []
  | one i s t => (i, s) :: t.nodes
  | both a b => a.nodes ++ b.nodes
def cands : OT → List Nat
  | nil => []
  | one i _ _ => [i]
  | both a b => a.cands ++ b.cands
def len : OT → Nat
  | nil => 0
  | one _ _ t => t.len + 1
  | both a b => max a.len b.len
theorem ids_nodes : ∀ (T : OT) (i : Nat), i ∈ T.ids ↔ ∃ s, (i, s) ∈ T.nodes
  | nil, i => by simp [ids, nodes]
  | one j s t, i => by
    simp only [ids, nodes, List.mem_cons, ids_nodes t i, Prod.mk.injEq]
    constructor
    · rintro (rfl | ⟨s', h⟩)
      · exact ⟨s, .inl ⟨rfl, rfl⟩⟩
      · exact ⟨s', .inr h⟩
    · rintro ⟨s', ⟨rfl, _⟩ | h⟩
      · exact .inl rfl
      · exact .inr ⟨s', h⟩
  | both a b, i => by
    simp only [ids, nodes, List.mem_append, ids_nodes a i, ids_nodes b i]
    constructor
    · rintro (⟨s, h⟩ | ⟨s, h⟩)
      · exact ⟨s, .inl h⟩
      · exact ⟨s, .inr h⟩
    · rintro ⟨s, h | h⟩
      · exact .inl ⟨s, h⟩
      · exact .inr ⟨s, h⟩
def same (a b : OT) : Bool := (a.ids.all fun i => b.ids.contains i) && (b.ids.all fun i => a.ids.contains i)
theorem same.iff {a b : OT} (h : same a b = true) (i : Nat) : i ∈ a.ids ↔ i ∈ b.ids := by
  simp only [same, Bool.and_eq_true, List.all_eq_true, List.contains_iff_mem] at h
  exact ⟨h.1 i, h.2 i⟩
end OT
def seqT (P : Program) (ops : Array Oper) (Q : Act → World → Prop) : OT → List (Nat × Sem Next × Value) → Act → World → Prop
  | .nil, _, a, w => Q a w
  | .one i s t, pend, a, w => match ops[i]? with
    | none => seqT P ops Q t pend a w
    | some o => if Region.wanted o (yielded ops a.tmps) = true then
        (if yaK o.op = true then ∃ v, (execOp a.eval o).run P w = .ok (.value v) w ∧ seqT P ops Q t ((i, execOp a.eval o, v) :: pend) (a.put o.dst v) w
         else ybd o.op = true ∧ ybc P o a.eval w fun v w' => (∀ p ∈ pend, p.1 ∈ s → p.2.1.run P w' = .ok (.value p.2.2) w') ∧ seqT P ops Q t pend (a.put o.dst v) w')
      else seqT P ops Q t pend (a.put o.dst undef) w
  | .both x y, pend, a, w => seqT P ops Q x pend a w ∧ seqT P ops Q y pend a w
def okN (ops : Array Oper) (j : Nat) (x : Nat × List Nat) : Bool :=
  match ops[j]?, ops[x.1]? with
  | some oj, some oi => !(x.1 == j) && (oj.after.all fun e => !Region.binds .any e || !(e.on == x.1)) && ((yaK oj.op && oj.apart ops oi && (yaK oi.op || (ybd oi.op && x.2.contains j))) || dep ops ops.size j x.1)
  | _, _ => false
def OT.ok (ops : Array Oper) : Option (List Nat) → OT → Bool
  | none, .nil => true
  | some _, .nil => false
  | none, .one j s t => OT.ok ops none t && t.nodes.all (okN ops j)
  | some c, .one p s t => OT.ok ops none t && (match ops[p]? with | some o => ybd o.op && !yaK o.op && t.nodes.all fun x => !(x.1 == p) && (o.after.all fun e => !Region.binds .any e || !(e.on == x.1)) && (c.contains x.1 || c.any fun q => dep ops ops.size q x.1) | none => false)
  | c, .both a b => let c' := c.getD (a.cands ++ b.cands); OT.ok ops (some c') a && OT.ok ops (some c') b && OT.same a b
section
variable {P : Program} {ops : Array Oper} {Q : Act → World → Prop} {i j : Nat}
theorem ydj : ∀ (T : OT) (pend pend' : List (Nat × Sem Next × Value)) (a : Act) (w : World), (∀ p, p ∈ pend' → p ∈ pend) → seqT P ops Q T pend a w → seqT P ops Q T pend' a w
  | .nil, _, _, _, _, _, h => h
  | .both x y, _, _, _, _, hp, h => ⟨ydj x _ _ _ _ hp h.1, ydj y _ _ _ _ hp h.2⟩
  | .one i s R, pend, pend', a, w, hp, h => by
    simp only [seqT] at h ⊢
    cases ho : ops[i]? with
    | none => simp only [ho] at h ⊢; exact ydj R _ _ _ _ hp h
    | some o =>
      simp only [ho] at h ⊢
      split
      · rename_i c
        rw [if_pos c] at h
        split
        · rename_i q
          rw [if_pos q] at h
          obtain ⟨v, hv, h⟩ := h
          refine ⟨v, hv, ydj R _ _ _ _ (fun p hm => ?_) h⟩
          rcases List.mem_cons.1 hm with rfl | hm
          · exact List.mem_cons_self
          · exact List.mem_cons_of_mem _ (hp p hm)
        · rename_i q
          rw [if_neg q] at h
          exact ⟨h.1, h.2.mono fun v w' h => ⟨fun p hm => h.1 p (hp p hm), ydj R _ _ _ _ hp h.2⟩⟩
      · rename_i c
        rw [if_neg c] at h
        exact ydj R _ _ _ _ hp h
theorem seqT_swap {i j : Nat} {si sj : List Nat} {oi oj : Oper} {R : OT} {pend : List (Nat × Sem Next × Value)} {a : Act} {w : World} (hi : ops[i]? = some oi) (hj : ops[j]? = some oj) (qi : yaK oi.op = true)
    (hap : oi.apart ops oj = true) (qj : yaK oj.op = true ∨ (ybd oj.op = true ∧ i ∈ sj)) (h : seqT P ops Q (.one i si (.one j sj R)) pend a w) : seqT P ops Q (.one j sj (.one i si R)) pend a w := by
  obtain ⟨h1, h2, h3⟩ := Oper.apart_spec hap
  have sj' : ∀ cs b, oj.op ≠ .select cs b := by rcases qj with q | q; exact yaK.select q; exact ybd.select q.1
  have wi : ∀ v, Region.wanted oi (yielded ops (a.put oj.dst v).tmps) = Region.wanted oi (yielded ops a.tmps) := fun v => wanted_put oi a oj.dst v h3
  have wj : ∀ v, Region.wanted oj (yielded ops (a.put oi.dst v).tmps) = Region.wanted oj (yielded ops a.tmps) := fun v => wanted_put oj a oi.dst v h1
  have ei : ∀ v, execOp (a.put oj.dst v).eval oi = execOp a.eval oi := fun v => execOp_put oi (yaK.select qi) a oj.dst v h3
  have ej : ∀ v, execOp (a.put oi.dst v).eval oj = execOp a.eval oj := fun v => execOp_put oj sj' a oi.dst v h1
  have pc : ∀ u v, (a.put oi.dst u).put oj.dst v = (a.put oj.dst v).put oi.dst u := fun u v => Act.put_comm a u v h2
  simp only [seqT, hi, hj, qi, if_true] at h ⊢
  by_cases ci : Region.wanted oi (yielded ops a.tmps) = true
  · by_cases cj : Region.wanted oj (yielded ops a.tmps) = true
    · simp only [ci, cj, wi, wj, ei, ej, if_true] at h ⊢
      by_cases q : yaK oj.op = true
      · simp only [q, if_true] at h ⊢
        obtain ⟨u, hu, v, hv, h⟩ := h
        refine ⟨v, hv, u, hu, ?_⟩
        rw [← pc]
        exact ydj R _ _ _ _ (fun p hm => by simp only [List.mem_cons] at hm ⊢; rcases hm with h | h | h; exact .inr (.inl h); exact .inl h; exact .inr (.inr h)) h
      · have q' : ybd oj.op = true ∧ i ∈ sj := by rcases qj with h | h; exact absurd h q; exact h
        simp only [q, Bool.false_eq_true, if_false] at h ⊢
        obtain ⟨u, hu, hn, h⟩ := h
        refine ⟨hn, ?_⟩
        unfold ybc at h ⊢
        rw [ej] at h
        split at h
        · obtain ⟨hs, h⟩ := h
          refine ⟨fun p hm hp => hs p (List.mem_cons_of_mem _ hm) hp, u, hs _ List.mem_cons_self q'.2, ?_⟩
          rw [← pc]; exact h
        · obtain ⟨hs, h⟩ := h
          refine ⟨fun p hm hp => hs p (List.mem_cons_of_mem _ hm) hp, u, hs _ List.mem_cons_self q'.2, ?_⟩
          rw [← pc]; exact h
        · intro cs
          obtain ⟨e, w', fr, ⟨v, rfl, hs, h⟩, r⟩ := h cs
          refine ⟨_, w', fr, ⟨v, rfl, fun p hm hp => hs p (List.mem_cons_of_mem _ hm) hp, u, hs _ List.mem_cons_self q'.2, ?_⟩, r⟩
          rw [← pc]; exact h
        · refine h.mono ?_
          rintro e w'' ⟨v, rfl, hs, h⟩
          exact ⟨v, rfl, fun p hm hp => hs p (List.mem_cons_of_mem _ hm) hp, u, hs _ List.mem_cons_self q'.2, by rw [← pc]; exact h⟩
        · exact h.elim
    · simp only [ci, cj, wi, wj, ei, ej, if_true, if_false, Bool.false_eq_true] at h ⊢
      obtain ⟨u, hu, h⟩ := h
      exact ⟨u, hu, by rw [← pc]; exact h⟩
  · by_cases cj : Region.wanted oj (yielded ops a.tmps) = true
    · simp only [ci, cj, wi, wj, ei, ej, if_true, if_false, Bool.false_eq_true] at h ⊢
      by_cases q : yaK oj.op = true
      · simp only [q, if_true] at h ⊢
        obtain ⟨v, hv, h⟩ := h
        exact ⟨v, hv, by rw [← pc]; exact h⟩
      · simp only [q, Bool.false_eq_true, if_false] at h ⊢
        refine ⟨h.1, ?_⟩
        have h := h.2
        unfold ybc at h ⊢
        rw [ej] at h
        split at h
        · exact ⟨h.1, by rw [← pc]; exact h.2⟩
        · exact ⟨h.1, by rw [← pc]; exact h.2⟩
        · intro cs
          obtain ⟨e, w', fr, ⟨v, rfl, hs, h⟩, r⟩ := h cs
          exact ⟨_, w', fr, ⟨v, rfl, hs, by rw [← pc]; exact h⟩, r⟩
        · refine h.mono ?_
          rintro e w'' ⟨v, rfl, hs, h⟩
          exact ⟨v, rfl, hs, by rw [← pc]; exact h⟩
        · exact h.elim
    · simp only [ci, cj, wi, wj, if_false, Bool.false_eq_true] at h ⊢
      rw [← pc]; exact h
theorem seqT_mono {i : Nat} {s : List Nat} {R R' : OT} {pend : List (Nat × Sem Next × Value)} (hm : ∀ pend a w, seqT P ops Q R pend a w → seqT P ops Q R' pend a w) {a : Act} {w : World}
    (h : seqT P ops Q (.one i s R) pend a w) : seqT P ops Q (.one i s R') pend a w := by
  simp only [seqT] at h ⊢
  cases ho : ops[i]? with
  | none => simp only [ho] at h ⊢; exact hm _ _ _ h
  | some o =>
    simp only [ho] at h ⊢
    split
    · rename_i c
      rw [if_pos c] at h
      split
      · rename_i q
        rw [if_pos q] at h
        obtain ⟨v, hv, h⟩ := h
        exact ⟨v, hv, hm _ _ _ h⟩
      · rename_i q
        rw [if_neg q] at h
        exact ⟨h.1, h.2.mono fun v w' h => ⟨h.1, hm _ _ _ h.2⟩⟩
    · rename_i c
      rw [if_neg c] at h
      exact hm _ _ _ h
theorem seqT_step {F : Fence} {n : Nat} {Q' : Exit → Act → World → Prop} (hF : ∀ f, F.fn f) (hD : F.depth = none) (hC : ∀ f args w R, Calls P f args w R → CallsIn F (n - 1) P f args w R) (hRd : ∀ l f tmps assign body w R, RoundIn Fence.wide 0 P l f tmps assign body w R → RoundIn F (n - 1) P l f tmps assign body w R)
    {i : Nat} {s : List Nat} {R : OT} {pend : List (Nat × Sem Next × Value)} {a : Act} {w : World} {K : Act → World → Prop} (h1 : seqT P ops Q (.one i s R) pend a w) (hrec : ∀ pend a w, seqT P ops Q R pend a w → K a w) : wpOpIn F n P ops Q' i K a w := by
  unfold wpOpIn
  cases hoi : ops[i]? with
  | none => simp only [seqT, hoi] at h1; exact hrec _ _ _ h1
  | some oi =>
    simp only [seqT, hoi] at h1 ⊢
    split
    · rename_i c
      rw [if_pos c] at h1
      split at h1
      · rename_i q
        obtain ⟨v, hv, h1⟩ := h1
        refine ⟨fun f _ => hF f, ?_⟩
        rw [Oper.semAt_eq _ _ _ (yaK.defer q), hv]
        exact hrec _ _ _ h1
      · obtain ⟨hn, h1⟩ := h1
        refine ⟨fun f _ => hF f, ?_⟩
        rw [Oper.semAt_eq _ _ _ (ybd.defer hn)]
        unfold ybc at h1
        split at h1
        · rename_i v w' hr
          rw [hr]
          exact hrec _ _ _ h1.2
        · rename_i w' hr
          rw [hr]
          exact hrec _ _ _ h1.2
        · rename_i f args w' hr
          rw [hr]
          refine ⟨fun hd => (by rw [hD] at hd; cases hd), (hC _ _ _ _ h1).mono ?_⟩
          rintro e w'' ⟨v, rfl, hh⟩
          exact hrec _ _ _ hh.2
        · rename_i l f tmps assign body w' hr
          rw [hr]
          refine ⟨fun hd => (by rw [hD] at hd; cases hd), (hRd _ _ _ _ _ _ _ h1).mono ?_⟩
          rintro e w'' ⟨v, rfl, hh⟩
          exact hrec _ _ _ hh.2
        · exact h1.elim
    · rename_i c
      rw [if_neg c] at h1
      exact ⟨fun f _ => hF f, hrec _ _ _ h1⟩
theorem okN.not {x : Nat × List Nat} (h : okN ops j x = true) {oj : Oper} (hj : ops[j]? = some oj) {e : Edge} (he : e ∈ oj.after) (hb : Region.binds .any e = true) : e.on ≠ x.1 := by
  unfold okN at h
  rw [hj] at h
  cases hi : ops[x.1]? with
  | none => rw [hi] at h; cases h
  | some oi =>
    rw [hi] at h
    simp only [Bool.and_eq_true] at h
    have h2 := h.1.2
    rw [Array.all_eq_true] at h2
    obtain ⟨k, hk, rfl⟩ := Array.getElem_of_mem he
    have := h2 k hk
    simpa [hb] using this
theorem okN.ne {x : Nat × List Nat} (h : okN ops j x = true) : x.1 ≠ j := by
  unfold okN at h
  split at h
  · simp only [Bool.and_eq_true, Bool.not_eq_true', beq_eq_false_iff_ne, ne_eq] at h
    exact h.1.1
  · cases h
theorem okN.two {x : Nat × List Nat} (h : okN ops j x = true) (hno : dep ops ops.size j x.1 = false) : ∃ oj oi, ops[j]? = some oj ∧ ops[x.1]? = some oi ∧ yaK oj.op = true ∧ oj.apart ops oi = true ∧ (yaK oi.op = true ∨ (ybd oi.op = true ∧ j ∈ x.2)) := by
  unfold okN at h
  split at h
  · rename_i oj oi hj hi
    simp only [hno, Bool.or_false, Bool.and_eq_true, Bool.or_eq_true, List.contains_iff_mem] at h
    exact ⟨oj, oi, hj, hi, h.2.1.1, h.2.1.2, h.2.2⟩
  · cases h
structure Pulled (P : Program) (ops : Array Oper) (Q : Act → World → Prop) (i : Nat) (T : OT) (s : List Nat) (T' : OT) : Prop where
  ok : T'.ok ops none = true
  ids : ∀ x, x ∈ T.ids ↔ x = i ∨ x ∈ T'.ids
  no : i ∉ T'.ids
  len : T'.len + 1 ≤ T.len
  nodes : ∀ x ∈ T'.nodes, x ∈ T.nodes
  node : (i, s) ∈ T.nodes
  run : ∀ pend a w, seqT P ops Q T pend a w → seqT P ops Q (.one i s T') pend a w
theorem ygw {c : List Nat} : ∀ T : OT, T.ok ops (some c) = true → i ∈ T.cands → ∃ s T', Pulled P ops Q i T s T'
  | .nil, h, _ => by simp [OT.ok] at h
  | .one p s t, h, hi => by
    simp only [OT.cands, List.mem_singleton] at hi
    subst hi
    simp only [OT.ok, Bool.and_eq_true] at h
    obtain ⟨h1, h2⟩ := h
    cases ho : ops[i]? with
    | none => rw [ho] at h2; cases h2
    | some o =>
      rw [ho] at h2
      simp only [Bool.and_eq_true, List.all_eq_true] at h2
      refine ⟨s, t, h1, fun x => by simp [OT.ids], fun hm => ?_, Nat.le_refl _, fun x hx => by simp [OT.nodes, hx], by simp [OT.nodes], fun _ _ _ h => h⟩
      obtain ⟨s', hs⟩ := (OT.ids_nodes t i).1 hm
      have := (h2.2 _ hs).1.1
      simp at this
  | .both a b, h, hi => by
    simp only [OT.ok, Option.getD_some, Bool.and_eq_true] at h
    obtain ⟨⟨h1, h2⟩, h3⟩ := h
    rcases List.mem_append.1 hi with hi | hi
    · obtain ⟨s, T', k⟩ := ygw a h1 hi
      refine ⟨s, T', k.ok, fun x => ?_, k.no, Nat.le_trans k.len (Nat.le_max_left _ _), fun x hx => List.mem_append_left _ (k.nodes x hx), List.mem_append_left _ k.node, fun pend a w h => k.run _ _ _ h.1⟩
      rw [← k.ids x]
      simp only [OT.ids, List.mem_append, ← OT.same.iff h3 x, or_self]
    · obtain ⟨s, T', k⟩ := ygw b h2 hi
      refine ⟨s, T', k.ok, fun x => ?_, k.no, Nat.le_trans k.len (Nat.le_max_right _ _), fun x hx => List.mem_append_right _ (k.nodes x hx), List.mem_append_right _ k.node, fun pend a w h => k.run _ _ _ h.2⟩
      rw [← k.ids x]
      simp only [OT.ids, List.mem_append, OT.same.iff h3 x, or_self]
theorem cand_or {c : List Nat} : ∀ T : OT, T.ok ops (some c) = true → (∀ x ∈ T.cands, x ∈ c) → ∀ i ∈ T.ids, i ∈ c ∨ ∃ q ∈ c, dep ops ops.size q i = true
  | .nil, h, _ => by simp [OT.ok] at h
  | .one p s t, h, hc => by
    intro i hi
    simp only [OT.ids, List.mem_cons] at hi
    rcases hi with rfl | hi
    · exact .inl (hc i (by simp [OT.cands]))
    · simp only [OT.ok, Bool.and_eq_true] at h
      obtain ⟨h1, h2⟩ := h
      cases ho : ops[p]? with
      | none => rw [ho] at h2; cases h2
      | some o =>
        rw [ho] at h2
        simp only [Bool.and_eq_true, List.all_eq_true] at h2
        obtain ⟨s', hs⟩ := (OT.ids_nodes t i).1 hi
        have := (h2.2 _ hs).2
        simpa [List.any_eq_true] using this
  | .both a b, h, hc => by
    intro i hi
    simp only [OT.ok, Option.getD_some, Bool.and_eq_true] at h
    rcases List.mem_append.1 hi with hi | hi
    · exact cand_or a h.1.1 (fun x hx => hc x (List.mem_append_left _ hx)) i hi
    · exact cand_or b h.1.2 (fun x hx => hc x (List.mem_append_right _ hx)) i hi
theorem ygA : ∀ (T : OT) (x : Nat), x ∈ T.cands → x ∈ T.ids
  | .nil, _, h => h
  | .one i _ t, x, h => by simp [OT.cands] at h; simp [OT.ids, h]
  | .both a b, x, h => by
    rcases List.mem_append.1 h with h | h
    · exact List.mem_append_left _ (ygA a x h)
    · exact List.mem_append_right _ (ygA b x h)
theorem pull {hole : Unit} : ∀ T : OT, T.ok ops none = true → i ∈ T.ids → (∀ r ∈ T.ids, dep ops ops.size r i = false) → ∃ s T', Pulled P ops Q i T s T'
  | .nil, _, hi, _ => by simp [OT.ids] at hi
  | .one j s t, h, hi, hd => by
    simp only [OT.ok, Bool.and_eq_true, List.all_eq_true] at h
    obtain ⟨h1, h2⟩ := h
    have hjt : j ∉ t.ids := fun hm => by
      obtain ⟨s', hs⟩ := (OT.ids_nodes t j).1 hm
      exact okN.ne (h2 _ hs) rfl
    by_cases hij : i = j
    · subst hij
      exact ⟨s, t, h1, fun x => by simp [OT.ids], hjt, Nat.le_refl _, fun x hx => by simp [OT.nodes, hx], by simp [OT.nodes], fun _ _ _ h => h⟩
    · have hit : i ∈ t.ids := by simpa [OT.ids, hij] using hi
      obtain ⟨si, t', k⟩ := pull (hole := hole) t h1 hit fun r hr => hd r (by simp [OT.ids, hr])
      obtain ⟨oj, oi, ej, ei, q1, q2, q3⟩ := okN.two (h2 _ k.node) (hd j (by simp [OT.ids]))
      refine ⟨si, .one j s t', ?_, fun x => ?_, ?_, ?_, fun x hx => ?_, by simp [OT.nodes, k.node], fun pend a w h => seqT_swap ej ei q1 q2 q3 (seqT_mono k.run h)⟩
      · simp only [OT.ok, Bool.and_eq_true, List.all_eq_true]
        exact ⟨k.ok, fun x hx => h2 x (k.nodes x hx)⟩
      · simp only [OT.ids, List.mem_cons, k.ids x]
        exact ⟨fun h => by rcases h with h | h | h; exact .inr (.inl h); exact .inl h; exact .inr (.inr h), fun h => by rcases h with h | h | h; exact .inr (.inl h); exact .inl h; exact .inr (.inr h)⟩
      · simp only [OT.ids, List.mem_cons, not_or]
        exact ⟨hij, k.no⟩
      · simp only [OT.len]; have := k.len; omega
      · simp only [OT.nodes, List.mem_cons] at hx ⊢
        rcases hx with h | h
        · exact .inl h
        · exact .inr (k.nodes x h)
  | .both a b, h, hi, hd => by
    simp only [OT.ok, Option.getD_none, Bool.and_eq_true] at h
    have hok : (OT.both a b).ok ops (some (a.cands ++ b.cands)) = true := by simp only [OT.ok, Option.getD_some, Bool.and_eq_true]; exact h
    rcases cand_or (.both a b) hok (fun x hx => hx) i hi with hc | ⟨q, hq, hdq⟩
    · exact ygw (.both a b) hok hc
    · rw [hd q (ygA (.both a b) q hq)] at hdq; cases hdq
theorem first_free (hO : ∀ j oj, ops[j]? = some oj → ∀ e ∈ oj.after, Region.binds .any e = true → e.on < ops.size ∧ e.on ≠ j) : ∀ (T : OT) (c : Option (List Nat)), T.ok ops c = true → T.ids ≠ [] → ∃ r ∈ T.ids, ∀ o, ops[r]? = some o → ∀ e ∈ o.after, Region.binds .any e = true → e.on ∉ T.ids
  | .nil, _, _, h => absurd rfl h
  | .one j s t, c, h, _ => by
    refine ⟨j, by simp [OT.ids], fun o ho e he hb hm => ?_⟩
    simp only [OT.ids, List.mem_cons] at hm
    rcases hm with hm | hm
    · exact (hO j o ho e he hb).2 hm
    · obtain ⟨s', hs⟩ := (OT.ids_nodes t e.on).1 hm
      cases c with
      | none =>
        simp only [OT.ok, Bool.and_eq_true, List.all_eq_true] at h
        exact okN.not (h.2 _ hs) ho he hb rfl
      | some c =>
        simp only [OT.ok, Bool.and_eq_true] at h
        have h2 := h.2
        rw [ho] at h2
        simp only [Bool.and_eq_true, List.all_eq_true] at h2
        have h3 := (h2.2 _ hs).1.2
        rw [Array.all_eq_true] at h3
        obtain ⟨k, hk, rfl⟩ := Array.getElem_of_mem he
        have := h3 k hk
        simp [hb] at this
  | .both a b, c, h, hn => by
    simp only [OT.ok, Bool.and_eq_true] at h
    have hne : a.ids ≠ [] := fun e => hn (by
      have hb : b.ids = [] := List.eq_nil_iff_forall_not_mem.2 fun x hx => by
        have := (OT.same.iff h.2 x).2 hx
        rw [e] at this; cases this
      simp [OT.ids, e, hb])
    obtain ⟨r, hr, k⟩ := first_free hO a _ h.1.1 hne
    refine ⟨r, List.mem_append_left _ hr, fun o ho e he hb hm => k o ho e he hb ?_⟩
    rcases List.mem_append.1 hm with hm | hm
    · exact hm
    · exact (OT.same.iff h.2 _).2 hm
theorem len_ids : ∀ (T : OT), T.len = 0 → T.ok ops none = true → T = .nil
  | .nil, _, _ => rfl
  | .one _ _ _, h, _ => by simp [OT.len] at h
  | .both a b, h, hk => by
    exfalso
    simp only [OT.ok, Option.getD_none, Bool.and_eq_true] at hk
    have key : ∀ (T : OT) (c : List Nat), T.ok ops (some c) = true → T.len ≠ 0 := by
      intro T
      induction T with
      | nil => intro c h; simp [OT.ok] at h
      | one i s t ih => intro c h; simp [OT.len]
      | both a b iha ihb =>
        intro c h
        simp only [OT.ok, Option.getD_some, Bool.and_eq_true] at h
        have := iha c h.1.1
        simp only [OT.len]; omega
    have := key a _ hk.1.1
    simp only [OT.len] at h; omega
theorem seqT_any {F : Fence} {n : Nat} {Q' : Exit → Act → World → Prop} (hF : ∀ f, F.fn f) (hD : F.depth = none) (hC : ∀ f args w R, Calls P f args w R → CallsIn F (n - 1) P f args w R) (hRd : ∀ l f tmps assign body w R, RoundIn Fence.wide 0 P l f tmps assign body w R → RoundIn F (n - 1) P l f tmps assign body w R) (hQ : ∀ a w, Q a w → Q' .normal a w) (hO : ∀ j oj, ops[j]? = some oj → ∀ e ∈ oj.after, Region.binds .any e = true → e.on < ops.size ∧ e.on ≠ j) :
    ∀ (fuel : Nat) (T : OT) (listed : Array Bool) (pend : List (Nat × Sem Next × Value)) (a : Act) (w : World), T.len ≤ fuel → T.ok ops none = true →
    (∀ i, i ∈ T.ids ↔ listed.getD i true = false) → listed.size = ops.size → ydc ops listed → seqT P ops Q T pend a w → wpAnyIn F n P .any ops Q' fuel listed a w := by
  have hnil : ∀ (T : OT) (listed : Array Bool), T.ok ops none = true → (∀ i, i ∈ T.ids ↔ listed.getD i true = false) → listed.size = ops.size → Region.ready .any ops listed = [] → T.ids = [] := by
    intro T listed hk hl hs h
    by_cases hn : T.ids = []
    · exact hn
    · exfalso
      obtain ⟨r, hr, hfree⟩ := first_free hO T none hk hn
      have hr0 := (hl r).1 hr
      have hlt : r < ops.size := by
        rcases Nat.lt_or_ge r listed.size with h | h
        · omega
        · simp [Array.getD_eq_getD_getElem?, Array.getElem?_eq_none h] at hr0
      have : r ∈ Region.ready .any ops listed := by
        refine mem_ready.2 ⟨hr0, ops[r], by simp [hlt], fun e he hb => ?_⟩
        have h1 := hO r _ (by simp [hlt] : ops[r]? = some ops[r]) e he hb
        have h3 := mt (hl e.on).2 (hfree _ (by simp [hlt]) e he hb)
        have h4 : e.on < listed.size := by omega
        simp [h4] at h3 ⊢
        exact h3
      rw [h] at this; cases this
  have hids : ∀ T : OT, T.ids = [] → T.ok ops none = true → T = .nil := by
    intro T h hk
    cases T with
    | nil => rfl
    | one i s t => simp [OT.ids] at h
    | both a b =>
      exfalso
      simp only [OT.ok, Option.getD_none, Bool.and_eq_true] at hk
      have key : ∀ (T : OT) (c : List Nat), T.ok ops (some c) = true → T.ids ≠ [] := by
        intro T
        induction T with
        | nil => intro c h; simp [OT.ok] at h
        | one i s t ih => intro c h; simp [OT.ids]
        | both a b iha ihb =>
          intro c h
          simp only [OT.ok, Option.getD_some, Bool.and_eq_true] at h
          have := iha c h.1.1
          simp [OT.ids, this]
      have := key a _ hk.1.1
      simp [OT.ids, this] at h
  intro fuel
  induction fuel with
  | zero =>
    intro T listed pend a w hf hk hl hs hdw h
    have hT := len_ids T (by omega) hk
    subst hT
    refine ⟨?_, hQ _ _ h⟩
    cases hrd : Region.ready .any ops listed with
    | nil => rfl
    | cons r rs =>
      have h1 : r ∈ Region.ready .any ops listed := by rw [hrd]; simp
      exact absurd ((hl r).2 (mem_ready.1 h1).1) (by simp [OT.ids])
  | succ fuel ih =>
    intro T listed pend a w hf hk hl hs hdw h
    refine ⟨fun h0 => by have := hids T (hnil T listed hk hl hs h0) hk; subst this; exact hQ _ _ h, fun i hi => ?_⟩
    obtain ⟨hun, oi, hoi, hall⟩ := mem_ready.1 hi
    have hlb : ∀ x : Nat, listed.getD x false = true → listed.getD x true = true := by
      intro x hx
      rcases Nat.lt_or_ge x listed.size with h | h
      · simp [Array.getD_eq_getD_getElem?, h] at hx ⊢; exact hx
      · simp [Array.getD_eq_getD_getElem?, h]
    have hall' : ∀ e ∈ oi.after, Region.binds .any e = true → listed.getD e.on true = true := fun e he hb => hlb _ (hall e he hb)
    have hil : i < listed.size := by have := (Array.getElem?_eq_some_iff.1 hoi).1; omega
    obtain ⟨s, T', k⟩ := pull (P := P) (Q := Q) (hole := ()) T hk ((hl i).2 hun) fun r hr => by
      cases hq : dep ops ops.size r i with
      | false => rfl
      | true =>
        have h1 := yb5 hdw ops.size r i oi hoi hall' hq
        rw [(hl r).1 hr] at h1; cases h1
    refine seqT_step hF hD hC hRd (k.run _ _ _ h) fun pend a w h => ih T' _ pend a w (by have := k.len; omega) k.ok (fun x => ?_) (by simp [hs]) (set_down hil hoi hall' hdw) h
    by_cases hix : i = x
    · subst hix
      constructor
      · intro h; exact absurd h k.no
      · intro h; simp [hil] at h
    · rw [getD_set_ne true hix, ← hl x, k.ids x]
      exact ⟨.inr, fun h => h.resolve_left fun e => hix e.symm⟩
end
def orderlyT (ops : Array Oper) (T : OT) : Bool :=
  (T.ids.all fun j => match ops[j]? with
    | none => false
    | some oj => oj.after.all fun e => !Region.binds .any e || (decide (e.on < ops.size) && !(e.on == j))) && (List.range ops.size).all (T.ids.contains ·) && decide (T.len ≤ ops.size) && T.ok ops none
def RT (P : Program) (N : Nat) (ops : Array Oper) (Qa : Act → World → Prop) (T : OT) (pend : List (Nat × Sem Next × Value)) (E : Env) (ds : List Deferred) (w : World) : Prop :=
  ∀ a, Rep N E ds a → seqT P ops Qa T pend a w
section
variable {F : Fence} {n : Nat} {P : Program} {N : Nat} {Q : Exit → Act → World → Prop} {E : Env} {ds : List Deferred} {w : World} {t : List Item}
theorem wt_drawT {id : Nat} {ops : Array Oper} (T : OT) (hw : Wd F) (hm : P.follows .mixedOrders = true) (hO : orderlyT ops T = true) (h : RT P N ops (WTa F n P t Q) T [] E ds w.drew) :
    WT F n P N (.code (.region id ops true) :: t) Q E ds w := by
  intro a r
  simp only [orderlyT, Bool.and_eq_true, decide_eq_true_eq] at hO
  obtain ⟨⟨⟨h1, h2⟩, h3⟩, h4⟩ := hO
  have h5 : ∀ i, i < ops.size → i ∈ T.ids := fun i hi => by simpa using List.all_eq_true.1 h2 i (List.mem_range.2 hi)
  have h6 : ∀ i, i ∈ T.ids → i < ops.size := fun i hi => by
    have := List.all_eq_true.1 h1 i hi
    rcases Nat.lt_or_ge i ops.size with h | h
    · exact h
    · rw [Array.getElem?_eq_none h] at this; cases this
  refine WTa.of (wpIn_region_any hm ?_)
  refine seqT_any hw.fn hw.depth (fun f args w R h => hw.calls _ _ _ _ _ _ h) (fun l f tmps assign body w R h => hw.rounds _ _ _ _ _ _ _ _ _ h) (fun a w h => ⟨rfl, h⟩) (fun j oj hj e he hb => ?_) ops.size T _ [] a _ h3 h4 (fun i => ?_) (by simp) (fun j oj hj hl => ?_) (h a r)
  · have := List.all_eq_true.1 h1 j (h5 j (Array.getElem?_eq_some_iff.1 hj).1)
    rw [hj] at this
    simp only at this
    rw [Array.all_eq_true] at this
    obtain ⟨k, hk, rfl⟩ := Array.getElem_of_mem he
    have h3 := this k hk
    simpa [hb] using h3
  · constructor
    · intro hi; simp [h6 i hi]
    · intro hi
      apply h5
      rcases Nat.lt_or_ge i ops.size with h | h
      · exact h
      · simp [Array.getD_eq_getD_getElem?, h] at hi
  · exfalso
    have := (Array.getElem?_eq_some_iff.1 hj).1
    simp [Array.getD_eq_getD_getElem?, this] at hl
end
section
variable {P : Program} {N : Nat} {ops : Array Oper} {Qa : Act → World → Prop} {pend : List (Nat × Sem Next × Value)} {E : Env} {ds : List Deferred} {w : World} {i : Nat} {s : List Nat} {T T1 T2 : OT}
theorem rt_end {F : Fence} {n : Nat} {t : List Item} {Q : Exit → Act → World → Prop} (h : WT F n P N t Q E ds w) : RT P N ops (WTa F n P t Q) .nil pend E ds w := fun a r => h a r
theorem rt_both (h1 : RT P N ops Qa T1 pend E ds w) (h2 : RT P N ops Qa T2 pend E ds w) : RT P N ops Qa (.both T1 T2) pend E ds w := fun a r => ⟨h1 a r, h2 a r⟩
variable {d : Nat} {op : Op} {ty : TypeId} {ps : String} {af : Array Edge} {g : Option (Nat × Bool)}
theorem rt_q {v : Value} (ho : ops[i]? = some ⟨some d, op, ty, ps, af, g⟩) (hw : Region.wanted ⟨some d, op, ty, ps, af, g⟩ (yE ops E) = true) (hq : yaK op = true) (hd : Nat.blt d N = true)
    (hv : (execOp (evE E) ⟨some d, op, ty, ps, af, g⟩).run P w = .ok (.value v) w) (h : RT P N ops Qa T ((i, execOp (evE E) ⟨some d, op, ty, ps, af, g⟩, v) :: pend) (upd E d v) ds w) : RT P N ops Qa (.one i s T) pend E ds w := by
  intro a r
  simp only [seqT, ho, r.yielded, hw, hq, if_true, r.eval]
  exact ⟨v, hv, h _ (r.put (yeC (d := some d) hd) v)⟩
theorem rt_n (ho : ops[i]? = some ⟨some d, op, ty, ps, af, g⟩) (hw : Region.wanted ⟨some d, op, ty, ps, af, g⟩ (yE ops E) = true) (hq : yaK op = false) (hn : ybd op = true) (hd : Nat.blt d N = true)
    (h : ybc P ⟨some d, op, ty, ps, af, g⟩ (evE E) w fun v w' => Stb P s w' pend ∧ RT P N ops Qa T pend (upd E d v) ds w') : RT P N ops Qa (.one i s T) pend E ds w := by
  intro a r
  simp only [seqT, ho, r.yielded, hw, hq, if_true, if_false, Bool.false_eq_true, r.eval]
  refine ⟨hn, h.mono fun v w' h => ⟨h.1.all, h.2 _ (r.put (yeC (d := some d) hd) v)⟩⟩
end
end Go.Proofs.Ytdbpajnjhgocoaa

/- Tables of structs, functions compared with nil. No program in sight. -/
namespace Go.Proofs.Ytdbpajnjhgocoaa
open Go Go.RowKit Go.Shelf Go.Proofs.Try
set_option linter.unusedVariables false
section
variable {P : Program} {E : Env} {w : World} {d : Option Tmp} {ty : TypeId} {ps : String} {af : Array Edge} {g : Option (Nat × Bool)} {x y : Operand} {xt yt : TypeId}
theorem yby {cs vs : Array Value} {l : Nat} {e : TypeId} {k : IntKind} {i : Int} {zo : Option Value} {u : TypeDesc} {sz b : Nat} (hx : evE E x = .agg cs) (hy : evE E y = .int k i) (hu : P.underlying xt = some (.array l e)) (he : P.underlying e = some u) (hn : aggD u = true)
    (hi : (P.info? e).map (fun i => (i.zero, i.size, i.bytes)) = some (zo, sz, b)) (h0 : 0 ≤ i ∧ i < (l : Int)) (hv : cs.extract (i.toNat * sz) (i.toNat * sz + sz) = vs) : (execOp (evE E) ⟨d, .index xt x y, ty, ps, af, g⟩).run P w = .ok (.value (.agg vs)) w := by
  unfold execOp
  have hc : (0 ≤ i ∧ i < (l : Int)) = True := by simp [h0]
  simp only [hx, hy, Instr.index, asIntOf, Sem.run_bind, Sem.run_pure, Result.andThen, run_underlying hu, hc, if_true, ybB hi, part, yde he hn, hv]
theorem yfD {f : Fn} {fs us : Array Value} {a b : Array TypeId} {v : Bool} (hx : evE E x = .func f fs us) (hy : evE E y = .nilFunc) (hu : P.underlying xt = some (.func a b v)) : (execOp (evE E) ⟨d, .binOp .eql xt x y yt, ty, ps, af, g⟩).run P w = .ok (.value (.bool false)) w := by
  have h2 : binOp .eql xt (.func f fs us) .nilFunc = (do pure (.bool (← Op.equal xt (.func f fs us) .nilFunc))) := rfl
  have h3 : eqGuard .eql xt x y (.func f fs us) .nilFunc = pure () := rfl
  have h4 : (Op.equal xt (.func f fs us) .nilFunc).run P w = .ok false w := by
    unfold Op.equal Op.maxDepth
    rw [show (10000 : Nat) = 9999 + 1 from rfl, Op.equalIn]
    simp only [Sem.run_bind, run_underlying hu, Result.andThen]
    rfl
  unfold execOp
  simp only [hx, hy, h2, h3, h4, Sem.run_bind, Sem.run_pure, Result.andThen]
theorem v_neql {a b : Array TypeId} {v : Bool} (hx : evE E x = .nilFunc) (hy : evE E y = .nilFunc) (hu : P.underlying xt = some (.func a b v)) : (execOp (evE E) ⟨d, .binOp .eql xt x y yt, ty, ps, af, g⟩).run P w = .ok (.value (.bool true)) w := by
  have h2 : binOp .eql xt .nilFunc .nilFunc = (do pure (.bool (← Op.equal xt .nilFunc .nilFunc))) := rfl
  have h3 : eqGuard .eql xt x y .nilFunc .nilFunc = pure () := rfl
  have h4 : (Op.equal xt .nilFunc .nilFunc).run P w = .ok true w := by
    unfold Op.equal Op.maxDepth
    rw [show (10000 : Nat) = 9999 + 1 from rfl, Op.equalIn]
    simp only [Sem.run_bind, run_underlying hu, Result.andThen]
    rfl
  unfold execOp
  simp only [hx, hy, h2, h3, h4, Sem.run_bind, Sem.run_pure, Result.andThen]
end
theorem asc_gone {L : Hold} : ∀ {l : List (Nat × Nat)}, (∀ p ∈ l, L p.1 = .gone) → ∀ j b, asc l j = some b → L j = .gone := fun h j b hj => h _ (asc_mem hj)
theorem all_nil {p : Nat × Nat → Prop} : ∀ q ∈ ([] : List (Nat × Nat)), p q := fun q h => by cases h
theorem ycX {p : Nat × Nat → Prop} {a : Nat × Nat} {l : List (Nat × Nat)} (h : p a) (ht : ∀ q ∈ l, p q) : ∀ q ∈ a :: l, p q := fun q hq => by
  rcases List.mem_cons.1 hq with e | e
  · rw [e]; exact h
  · exact ht q e
end Go.Proofs.Ytdbpajnjhgocoaa

/- The walks of package chips and of the small library functions that the checks use: what each returns, for all arguments. -/
namespace Go.Proofs.Ytdbpajnjhgocoaa
open Go.RowKit Go.Proofs.Try
set_option maxRecDepth 100000
set_option maxHeartbeats 400000
def inF (k : Int) : Bool := decide (-1048576 ≤ k ∧ k ≤ 1048576)
def vertsF (n : Int) : Int := if 1 ≤ n ∧ n ≤ 12 then 0 else 2
def checkF (d : List Int) (n : Int) : Int :=
  if vertsF n = 0 then (if (d.length : Int) = n then (if d.all inF then 0 else 2) else 8) else 2
def cmpF (a b : Int) : Int := if a < b then -1 else if b < a then 1 else 0
theorem isNaN_any (a : Int) (w : World) : Calls Try.prog 115 #[.int .i64 a] w fun e w' => e = .returned (.bool false) ∧ w = w' := by
  go_enter func115, ntmps115
  go_wp2
  go_ret
  exact ⟨by simp, rfl⟩
theorem compare_any (a b : Int) (w : World) : Calls Try.prog 104 #[.int .i64 a, .int .i64 b] w fun e w' => e = .returned (.int .i64 (cmpF a b)) ∧ w = w' := by
  go_enter func104, ntmps104
  go_wp2_with (first | (go_at_call 115; refine (isNaN_any _ _).mono ?_; rintro e w' ⟨rfl, rfl⟩))
  all_goals go_ret
  all_goals refine ⟨ret_eq (int_eq ?_), rfl⟩
  all_goals unfold cmpF
  all_goals (split <;> try split)
  all_goals omega
def orF (x y : Int) : Int := if x ≠ 0 then x else y
theorem or_two (b off : Nat) (x y : Int) (w : World) (h0 : w.cell? ⟨b, off, none⟩ = some (.int .i64 x)) (h1 : w.cell? ⟨b, off + 1, none⟩ = some (.int .i64 y)) :
    Calls Try.prog 103 #[.slice (some ⟨b, off, none⟩) 2 2] w fun e w' => e = .returned (.int .i64 (orF x y)) ∧ w = w' := by
  go_enter func103, ntmps103
  go_wp2
  refine wp_loop_rounds 3 ?_
  repeat any_goals (rw [rounds_succ]; go_wp2)
  all_goals go_ret
  all_goals refine ⟨ret_eq (int_eq ?_), rfl⟩
  all_goals (unfold orF; simp_all)
end Go.Proofs.Ytdbpajnjhgocoaa

/- The walk of graph.Check. -/
namespace Go.Proofs.Ytdbpajnjhgocoaa
open Go.RowKit Go.Proofs.Try
set_option maxRecDepth 100000
set_option maxHeartbeats 400000
def ydP (a b c d : Int) : Int := orF (cmpF a c) (cmpF b d)
def gchk (n : Int) : Int → Int → List E3 → Int
  | _, _, [] => 0
  | a, b, x :: t =>
    if (0 ≤ x.1 ∧ x.1 < n) ∧ (0 ≤ x.2.1 ∧ x.2.1 < n) ∧ 1 ≤ x.2.2 ∧ x.2.2 ≤ 50 then
      (if x.1 ≤ x.2.1 ∧ ydP a b x.1 x.2.1 < 0 then gchk n x.1 x.2.1 t else 9)
    else 2
def ycO (n : Int) (es : List E3) : Int := if 1 ≤ n ∧ n ≤ 12 then gchk n (-1) (-1) es else 2
end Go.Proofs.Ytdbpajnjhgocoaa

/- The walks of the functions of package slices that the program uses, at slices of ints. -/
namespace Go.Proofs.Ytdbpajnjhgocoaa
open Go.RowKit Go.Proofs.Try
set_option maxRecDepth 100000
set_option maxHeartbeats 400000
end Go.Proofs.Ytdbpajnjhgocoaa

/- Forests that join vertices, in plain Lean: each vertex has one of its part that is not greater. -/
namespace Go.Proofs.Ytdbpajnjhgocoaa
open Go.RowKit Go.Proofs.Try
def gn (l : List Nat) (k : Nat) : Nat := l.getD k 0
theorem ye8 {l : List Nat} {k : Nat} (h : k < l.length) : gn l k = l[k] := by simp [gn, h]
theorem gn_set {l : List Nat} {k j : Nat} {x : Nat} (h : k < l.length) : gn (l.set k x) j = if j = k then x else gn l j := by
  unfold gn
  simp only [List.getD_eq_getElem?_getD, List.getElem?_set]
  by_cases e : j = k
  · subst e; simp [h]
  · rw [if_neg (by omega), if_neg e]
section
variable {w : World} {g : Nat} {e : TypeId} {size : Nat}
end
def nvals (xs : List Nat) : List Value := xs.map fun (n : Nat) => Value.int .i64 (Int.ofNat n)
def ycK (F : List Nat) : Prop := F.length = 12 ∧ ∀ v, v < 12 → gn F v ≤ v
def ydi (F : List Nat) : Nat → Nat → Nat
  | 0, v => v
  | k + 1, v => if gn F v = v then v else ydi F k (gn F v)
def root (F : List Nat) (v : Nat) : Nat := ydi F v v
theorem rootFuel_more {F : List Nat} (h : ycK F) : ∀ (k v j : Nat), v < 12 → v ≤ k → v ≤ j → ydi F k v = ydi F j v := by
  intro k
  induction k using Nat.strongRecOn with
  | _ k ih =>
    intro v j hv hk hj
    have hle := h.2 v hv
    cases k with
    | zero =>
      obtain rfl : v = 0 := by omega
      have h0 : gn F 0 = 0 := by omega
      cases j with
      | zero => rfl
      | succ j => simp [ydi, h0]
    | succ k =>
      cases j with
      | zero =>
        obtain rfl : v = 0 := by omega
        have h0 : gn F 0 = 0 := by omega
        simp [ydi, h0]
      | succ j =>
        simp only [ydi]
        split
        · rfl
        · exact ih k (by omega) _ j (by omega) (by omega) (by omega)
theorem yct {F : List Nat} {v : Nat} (h : gn F v = v) : root F v = v := by
  unfold root
  cases v with
  | zero => rfl
  | succ v => simp [ydi, h]
theorem yeu {F : List Nat} (h : ycK F) {v : Nat} (hv : v < 12) (hne : gn F v ≠ v) : root F v = root F (gn F v) := by
  have hle := h.2 v hv
  unfold root
  cases v with
  | zero => omega
  | succ v =>
    simp only [ydi]
    rw [if_neg hne]
    exact rootFuel_more h _ _ _ (by omega) (by omega) (Nat.le_refl _)
theorem ydD {F : List Nat} (h : ycK F) : ∀ v, v < 12 → root F v ≤ v ∧ gn F (root F v) = root F v := by
  intro v
  induction v using Nat.strongRecOn with
  | _ v ih =>
    intro hv
    by_cases he : gn F v = v
    · rw [yct he]; exact ⟨Nat.le_refl _, he⟩
    · have hle := h.2 v hv
      rw [yeu h hv he]
      have := ih (gn F v) (by omega) (by omega)
      exact ⟨by omega, this.2⟩
theorem yge {F : List Nat} (h : ycK F) {v : Nat} (hv : v < 12) : root F (root F v) = root F v := yct (ydD h v hv).2
def yc3 (F : List Nat) (a b : Nat) : List Nat := F.set (max (root F a) (root F b)) (min (root F a) (root F b))
theorem ydx {F : List Nat} (h : ycK F) {a b : Nat} (ha : a < 12) (hb : b < 12) : ycK (yc3 F a b) := by
  have h1 := ydD h a ha
  have h2 := ydD h b hb
  refine ⟨by simp [yc3, h.1], fun v hv => ?_⟩
  unfold yc3
  rw [gn_set (by rw [h.1]; omega)]
  split
  · omega
  · exact h.2 v hv
theorem yeF {F : List Nat} (h : ycK F) {a b : Nat} (ha : a < 12) (hb : b < 12) : ∀ v, v < 12 →
    root (yc3 F a b) v = if root F v = max (root F a) (root F b) then min (root F a) (root F b) else root F v := by
  have h1 := ydD h a ha
  have h2 := ydD h b hb
  have hJ := ydx h ha hb
  have hg : ∀ j, gn (yc3 F a b) j = if j = max (root F a) (root F b) then min (root F a) (root F b) else gn F j := fun j => by
    unfold yc3; exact gn_set (by rw [h.1]; omega)
  have hmin : root (yc3 F a b) (min (root F a) (root F b)) = min (root F a) (root F b) := by
    apply yct
    rw [hg]
    split
    · rfl
    · rcases Nat.le_total (root F a) (root F b) with hl | hl
      · rw [Nat.min_eq_left hl]; exact h1.2
      · rw [Nat.min_eq_right hl]; exact h2.2
  intro v
  induction v using Nat.strongRecOn with
  | _ v ih =>
    intro hv
    by_cases hM : v = max (root F a) (root F b)
    · have hrv : root F v = v := by
        apply yct
        rw [hM]
        rcases Nat.le_total (root F a) (root F b) with hl | hl
        · rw [Nat.max_eq_right hl]; exact h2.2
        · rw [Nat.max_eq_left hl]; exact h1.2
      rw [hrv, if_pos hM]
      by_cases he : gn (yc3 F a b) v = v
      · rw [yct he]
        rw [hg, if_pos hM] at he
        exact he.symm
      · rw [yeu hJ hv he, hg, if_pos hM, hmin]
    · by_cases he : gn F v = v
      · have he' : gn (yc3 F a b) v = v := by rw [hg, if_neg hM]; exact he
        rw [yct he', yct he, if_neg hM]
      · have he' : gn (yc3 F a b) v ≠ v := by rw [hg, if_neg hM]; exact he
        have hle := h.2 v hv
        rw [yeu hJ hv he', yeu h hv he, hg, if_neg hM]
        exact ih _ (by omega) (by omega)
def ydp : List Nat := List.range 12
theorem ydZ : ycK ydp := ⟨rfl, fun v hv => by rw [ye8 (by simpa [ydp] using hv)]; simp [ydp]⟩
def ya1 (es : List E3) : List Nat := es.foldl (fun F x => yc3 F x.1.toNat x.2.1.toNat) ydp
def ybY (F : List Nat) : Nat → Nat
  | 0 => 0
  | n + 1 => ybY F n + if root F n = n then 1 else 0
def ye9 (es : List E3) : Prop := ∀ x, x ∈ es → 0 ≤ x.1 ∧ x.1 < 12 ∧ 0 ≤ x.2.1 ∧ x.2.1 < 12
theorem ydF (es : List E3) (h : ye9 es) : ycK (ya1 es) := by
  unfold ya1
  suffices H : ∀ (l : List E3) (F : List Nat), (∀ x, x ∈ l → 0 ≤ x.1 ∧ x.1 < 12 ∧ 0 ≤ x.2.1 ∧ x.2.1 < 12) → ycK F → ycK (l.foldl (fun F x => yc3 F x.1.toNat x.2.1.toNat) F) from H es _ h ydZ
  intro l
  induction l with
  | nil => exact fun F _ h => h
  | cons x l ih =>
    intro F hl hF
    have hx := hl x (by simp)
    exact ih _ (fun y hy => hl y (by simp [hy])) (ydx hF (by omega) (by omega))
theorem ye9.take {es : List E3} (h : ye9 es) (k : Nat) : ye9 (es.take k) := fun x hx => h x (List.mem_of_mem_take hx)
end Go.Proofs.Ytdbpajnjhgocoaa

/- The iterator over the single edges at a vertex, and the loop that adds up what a property picks. -/
namespace Go.Proofs.Ytdbpajnjhgocoaa
open Go.RowKit Go.Shelf Go.Proofs.Try
attribute [local go_sem] Oper.semAt_some
set_option maxRecDepth 100000
set_option maxHeartbeats 8000000
def link (v : Int) (x : E3) : Option (Int × Int) := if x.1 ≠ x.2.1 ∧ (x.1 = v ∨ x.2.1 = v) then some (x.1 + x.2.1 - v, x.2.2) else none
def ydI (es : List E3) (v : Int) : List (Int × Int) := es.filterMap (link v)
def KB (K : Nat → Prop) (W W' : World) : Prop := ∀ k, K k → W'.heap[k]? = W.heap[k]?
theorem KB.refl (K : Nat → Prop) (W : World) : KB K W W := fun _ _ => rfl
theorem KB.trans {K : Nat → Prop} {A B C : World} (h : KB K A B) (k : KB K B C) : KB K A C := fun i hi => (k i hi).trans (h i hi)
theorem KB.cell {K : Nat → Prop} {W W' : World} (h : KB K W W') {p : Addr} (hp : K p.block) {v : Value} (hc : W.cell? p = some v) : W'.cell? p = some v := by
  rw [World.cell?_of_block (w := W) (h p.block hp)]; exact hc
theorem KB.put {K : Nat → Prop} {w : World} (hK : ∀ k, K k → k < w.heap.size) (W : World) (l : Nat) (o o' : Obj) (hl : w.heap.size ≤ l) (_ : W.heap[l]? = some o) (_ : o.isCells = false) (_ : o.isWalk = false) : KB K W (W.putObj l o') :=
  fun k hk => by
    have h1 := hK k hk
    exact World.putObj_heap_other (by omega)
end Go.Proofs.Ytdbpajnjhgocoaa

/- The loop that adds up the single edges from a vertex to those with a property. -/
namespace Go.Proofs.Ytdbpajnjhgocoaa
open Go.RowKit Go.Shelf Go.Proofs.Try
attribute [local go_sem] Oper.semAt_some
set_option maxRecDepth 100000
set_option maxHeartbeats 8000000
def addF (p : Int → Bool) (l : List (Int × Int)) : Int := l.foldl (fun n x => if p x.1 then n + x.2 else n) 0
def ya0 (es : List E3) (v : Int) (p : Int → Bool) : Int := addF p (ydI es v)
end Go.Proofs.Ytdbpajnjhgocoaa

/- The walk of reduced.begin: the state of a divisor. -/
namespace Go.Proofs.Ytdbpajnjhgocoaa
open Go.RowKit Go.Proofs.Try
set_option maxRecDepth 100000
set_option maxHeartbeats 8000000
end Go.Proofs.Ytdbpajnjhgocoaa

/- The walk of the fire that starts at q: the unburnt vertices of a state. -/
namespace Go.Proofs.Ytdbpajnjhgocoaa
open Go.RowKit Go.Proofs.Try
set_option maxRecDepth 100000
set_option maxHeartbeats 4000000
def cf (b : List Bool) : Nat := (b.filter fun x => !x).length
theorem cf_set {b : List Bool} {v : Nat} (h : v < b.length) (hv : gb b v = false) : cf (b.set v true) + 1 = cf b := by
  unfold cf
  induction b generalizing v with
  | nil => simp at h
  | cons x b ih =>
    cases v with
    | zero =>
      simp [gb] at hv
      subst hv
      simp
    | succ v =>
      have := ih (v := v) (by simpa using h) (by simpa [gb] using hv)
      simp only [List.set_cons_succ, List.filter_cons]
      split
      · simp only [List.length_cons]; omega
      · omega
def Closed (n : Nat) (es : List E3) (d : List Int) (b : List Bool) : Prop := ∀ v, v < n → gb b v = false → ya0 es (v : Int) (fun u => gb b u.toNat) ≤ gi d v
def Forced (n : Nat) (es : List E3) (q : Nat) (d : List Int) (b : List Bool) : Prop :=
  ∀ S : Nat → Bool, S q = false → (∀ v, v < n → S v = true → ya0 es (v : Int) (fun u => !S u.toNat) ≤ gi d v) → ∀ v, v < n → S v = true → gb b v = false
theorem addF_mono {p p' : Int → Bool} (l : List (Int × Int)) (h : ∀ q ∈ l, 0 ≤ q.2) (hpp : ∀ q ∈ l, p q.1 = true → p' q.1 = true) : addF p l ≤ addF p' l := by
  suffices H : ∀ (l : List (Int × Int)) (a a' : Int), (∀ q ∈ l, 0 ≤ q.2) → (∀ q ∈ l, p q.1 = true → p' q.1 = true) → a ≤ a' → l.foldl (fun n x => if p x.1 then n + x.2 else n) a ≤ l.foldl (fun n x => if p' x.1 then n + x.2 else n) a' from H l 0 0 h hpp (Int.le_refl _)
  intro l
  induction l with
  | nil => intro a a' _ _ h; exact h
  | cons x l ih =>
    intro a a' h hpp hle
    rw [List.foldl_cons, List.foldl_cons]
    refine ih _ _ (fun q hq => h q (by simp [hq])) (fun q hq => hpp q (by simp [hq])) ?_
    have h0 := h x (by simp)
    have h1 := hpp x (by simp)
    by_cases hp : p x.1 = true
    · rw [if_pos hp, if_pos (h1 hp)]; omega
    · rw [if_neg hp]; split <;> omega
theorem ydA {es : List E3} {n : Nat} (hE : ∀ x ∈ es, 0 ≤ x.1 ∧ x.1 < n ∧ 0 ≤ x.2.1 ∧ x.2.1 < n ∧ 0 ≤ x.2.2 ∧ x.2.2 ≤ 50) {v u m : Int} (h : (u, m) ∈ ydI es v) : 0 ≤ u ∧ u < n ∧ 0 ≤ m ∧ m ≤ 50 := by
  obtain ⟨x, hx, hl⟩ := List.mem_filterMap.1 h
  have h1 := hE x hx
  unfold link at hl
  split at hl
  · simp only [Option.some.injEq, Prod.mk.injEq] at hl
    omega
  · cases hl
theorem Forced.step {n : Nat} {es : List E3} {q : Nat} {d : List Int} {b : List Bool} (h : Forced n es q d b) (hE : ∀ x ∈ es, 0 ≤ x.1 ∧ x.1 < n ∧ 0 ≤ x.2.1 ∧ x.2.1 < n ∧ 0 ≤ x.2.2 ∧ x.2.2 ≤ 50) {v : Nat} (hv : v < b.length) (hc : gi d v < ya0 es (v : Int) (fun u => gb b u.toNat)) : Forced n es q d (b.set v true) := by
  intro S hq hS u hu hSu
  rw [yhh hv]
  by_cases e : u = v
  · subst e
    exfalso
    have h1 := hS u hu hSu
    have h2 : ya0 es (u : Int) (fun x => gb b x.toNat) ≤ ya0 es (u : Int) (fun x => !S x.toNat) := by
      unfold ya0
      refine addF_mono _ (fun q hq => (ydA hE (v := (u : Int)) (u := q.1) (m := q.2) hq).2.2.1) (fun y hy hb => ?_)
      have hr := ydA hE (v := (u : Int)) (u := y.1) (m := y.2) hy
      cases hs : S y.1.toNat with
      | false => rfl
      | true =>
        have := h S hq hS y.1.toNat (by omega) hs
        simp only [this] at hb
        cases hb
    omega
  · rw [if_neg e]
    exact h S hq hS u hu hSu
end Go.Proofs.Ytdbpajnjhgocoaa

/- Words for contracts that are proved from shallow forms: rows of numbers and bools read and written by index, states, the links' iterator. -/
namespace Go.Proofs.Ytdbpajnjhgocoaa
open Go Go.RowKit Go.Shelf Go.Proofs.Try
set_option linter.unusedVariables false
set_option maxRecDepth 100000
theorem ix_some {p : Addr} {l : Nat} {i : Int} (h0 : 0 ≤ i) (h1 : i < (l : Int)) : Ix (some p) l i := ⟨rfl, h0, h1⟩
theorem ixA_zero (g : Nat) (i : Int) (sz : Nat) : ixA (some ⟨g, 0, none⟩) i sz = ⟨g, i.toNat * sz, none⟩ := by simp [ixA, Addr.add_mid]
theorem ixA_one (g : Nat) (i : Int) : ixA (some ⟨g, 0, none⟩) i 1 = ⟨g, i.toNat, none⟩ := by simp [ixA_zero]
theorem ixA_off (g o : Nat) (i : Int) (sz : Nat) : ixA (some ⟨g, o, none⟩) i sz = ⟨g, o + i.toNat * sz, none⟩ := by simp [ixA, Addr.add_mid]
theorem add_zero_ (g k : Nat) : (⟨g, 0, none⟩ : Addr).add k = ⟨g, k, none⟩ := by simp [Addr.add_mid]
section
variable {w w' : World} {g : Nat} {e : TypeId} {size : Nat}
theorem Row.at_ {xs : List Value} (h : Row w g e size xs) (k : Nat) {v : Value} (hv : xs[k]? = some v) : w.cell? ((⟨g, 0, none⟩ : Addr).add k) = some v := by rw [add_zero_]; exact h.cell hv
theorem bwr {xs : List Bool} (h : BRow w g e size xs) {i : Int} (h0 : 0 ≤ i) (h1 : i < (xs.length : Int)) : Wr w (ixA (some ⟨g, 0, none⟩) i 1) := by
  rw [ixA_one]; exact ⟨by rw [bcell h (by omega)]; rfl, Row.frozen h _⟩
theorem bst {xs : List Bool} (h : BRow w g e size xs) (i : Int) (v : Bool) : BRow (w.setCell (ixA (some ⟨g, 0, none⟩) i 1) (.bool v)) g e size (xs.set i.toNat v) := by
  rw [ixA_one]; exact bset h _ _
end
end Go.Proofs.Ytdbpajnjhgocoaa

/- Shallow forms of functions, made by program (sh.py), each with the proof that the code does so. -/
namespace Go.Proofs.Ytdbpajnjhgocoaa
open Go Go.RowKit Go.Shelf Go.Proofs.Try
set_option linter.unusedVariables false
set_option maxRecDepth 100000
set_option maxHeartbeats 8000000
end Go.Proofs.Ytdbpajnjhgocoaa

/- Shallow forms of functions, made by program (sh.py), each with the proof that the code does so. -/
namespace Go.Proofs.Ytdbpajnjhgocoaa
open Go Go.RowKit Go.Shelf Go.Proofs.Try
set_option linter.unusedVariables false
set_option maxRecDepth 100000
set_option maxHeartbeats 8000000
end Go.Proofs.Ytdbpajnjhgocoaa

/- The contracts of slices.Repeat at one number, of bits.Mul at small numbers, of slices.Max. -/
namespace Go.Proofs.Ytdbpajnjhgocoaa
open Go Go.RowKit Go.Shelf Go.Proofs.Try
set_option linter.unusedVariables false
set_option linter.unusedSimpArgs false
set_option linter.unusedSectionVars false
set_option maxRecDepth 100000
set_option maxHeartbeats 8000000
end Go.Proofs.Ytdbpajnjhgocoaa

/- Distances by a search in breadth: what its two lists say at each step. No program in sight. -/
namespace Go.Proofs.Ytdbpajnjhgocoaa
open Go Go.Proofs.Try
set_option linter.unusedVariables false
set_option linter.unusedSimpArgs false
set_option linter.unusedSectionVars false
def Adj (es : List E3) (v u : Nat) : Prop := ∃ m, ((u : Int), m) ∈ ydI es (v : Int)
theorem ybC {es : List E3} {v u m : Int} : (u, m) ∈ ydI es v ↔ ∃ x ∈ es, x.1 ≠ x.2.1 ∧ (x.1 = v ∨ x.2.1 = v) ∧ u = x.1 + x.2.1 - v ∧ m = x.2.2 := by
  unfold ydI
  rw [List.mem_filterMap]
  constructor
  · rintro ⟨x, hx, hl⟩
    unfold link at hl
    split at hl
    · rename_i h
      simp only [Option.some.injEq, Prod.mk.injEq] at hl
      exact ⟨x, hx, h.1, h.2, hl.1.symm, hl.2.symm⟩
    · cases hl
  · rintro ⟨x, hx, h1, h2, rfl, rfl⟩
    exact ⟨x, hx, by unfold link; rw [if_pos ⟨h1, h2⟩]⟩
theorem Adj.symm {es : List E3} {v u : Nat} (h : Adj es v u) : Adj es u v := by
  obtain ⟨m, h⟩ := h
  obtain ⟨x, hx, h1, h2, h3, h4⟩ := ybC.1 h
  exact ⟨m, ybC.2 ⟨x, hx, h1, by omega, by omega, h4⟩⟩
def cu (o : List Int) : Nat := (o.filter fun x => decide (x < 0)).length
theorem cu_set {o : List Int} {v : Nat} {x : Int} (h : v < o.length) (hv : gi o v < 0) (hx : 0 ≤ x) : cu (o.set v x) + 1 = cu o := by
  unfold cu
  induction o generalizing v with
  | nil => simp at h
  | cons y o ih =>
    cases v with
    | zero =>
      simp [gi] at hv
      simp [List.filter_cons, hv, Int.not_lt.2 hx]
    | succ v =>
      have := ih (v := v) (by simpa using h) (by simpa [gi] using hv)
      simp only [List.set_cons_succ, List.filter_cons]
      split
      · simp only [List.length_cons]; omega
      · omega
structure BIn (n : Nat) (es : List E3) (q v : Nat) (pre : List (Int × Int)) (o : List Int) (Q : List Nat) : Prop where
  len : o.length = n
  vn : v < n
  v0 : 0 ≤ gi o v
  rng : ∀ a ∈ Q, a < n ∧ 0 ≤ gi o a
  q0 : gi o q = 0
  low : ∀ b, -1 ≤ gi o b
  val : ∀ b, gi o b + cu o ≤ (n : Int) - 1
  par : ∀ b, b < n → 0 < gi o b → ∃ u, u < n ∧ Adj es b u ∧ gi o u = gi o b - 1
  top : ∀ b, b < n → gi o b ≤ gi o v + 1
  bot : ∀ a ∈ Q, gi o v ≤ gi o a
  mono : Q.Pairwise fun a b => gi o a ≤ gi o b
  done : ∀ x, x < n → 0 ≤ gi o x → x ∉ Q → x ≠ v → gi o x ≤ gi o v ∧ ∀ u, Adj es x u → 0 ≤ gi o u ∧ gi o u ≤ gi o x + 1
  now : ∀ p ∈ pre, 0 ≤ gi o p.1.toNat ∧ gi o p.1.toNat ≤ gi o v + 1
  zero : ∀ b, b < n → gi o b = 0 → b = q
structure BInv (n : Nat) (es : List E3) (q : Nat) (o : List Int) (Q : List Nat) : Prop where
  len : o.length = n
  rng : ∀ a ∈ Q, a < n ∧ 0 ≤ gi o a
  q0 : gi o q = 0
  low : ∀ b, -1 ≤ gi o b
  val : ∀ b, gi o b + cu o ≤ (n : Int) - 1
  par : ∀ b, b < n → 0 < gi o b → ∃ u, u < n ∧ Adj es b u ∧ gi o u = gi o b - 1
  top : ∀ a ∈ Q, ∀ b, b < n → gi o b ≤ gi o a + 1
  mono : Q.Pairwise fun a b => gi o a ≤ gi o b
  done : ∀ x, x < n → 0 ≤ gi o x → x ∉ Q → (∀ a ∈ Q, gi o x ≤ gi o a) ∧ ∀ u, Adj es x u → 0 ≤ gi o u ∧ gi o u ≤ gi o x + 1
  zero : ∀ b, b < n → gi o b = 0 → b = q
theorem BInv.start {n : Nat} {es : List E3} {q : Nat} (hq : q < n) : BInv n es q ((List.replicate n (-1)).set q 0) [q] := by
  have hl : q < (List.replicate n (-1 : Int)).length := by simpa using hq
  have hs : ∀ b, gi ((List.replicate n (-1)).set q 0) b = if b = q then 0 else gi (List.replicate n (-1)) b := fun b => yic hl
  have hr : ∀ b, b < n → gi (List.replicate n (-1)) b = -1 := fun b hb => by rw [ybz (by simpa using hb)]; simp
  have hr2 : ∀ b, gi (List.replicate n (-1)) b = -1 ∨ gi (List.replicate n (-1)) b = 0 := fun b => by
    rcases Nat.lt_or_ge b n with h | h
    · exact .inl (hr b h)
    · exact .inr (gi_ge (by simpa using h))
  have hc0 : ∀ n : Nat, cu (List.replicate n (-1)) = n := by
    intro n
    unfold cu
    rw [List.filter_eq_self.2 (fun x hx => by rw [(List.mem_replicate.1 hx).2]; rfl)]
    simp
  have hc := cu_set hl (by rw [hr q hq]; omega) (x := 0) (by omega)
  rw [hc0] at hc
  refine ⟨by simp, fun a ha => ?_, by rw [hs, if_pos rfl], fun b => ?_, fun b => ?_, fun b hb h0 => ?_, fun a ha b hb => ?_, by simp, fun x hx h0 hn => ?_, fun b hb h0 => by
    rw [hs, hr b hb] at h0
    split at h0
    · assumption
    · omega⟩
  · simp only [List.mem_singleton] at ha; subst ha; exact ⟨hq, by rw [hs, if_pos rfl]; omega⟩
  · rw [hs]; rcases hr2 b with h | h <;> split <;> omega
  · rw [hs]
    rcases hr2 b with h | h
    · split <;> omega
    · split <;> omega
  · rw [hs] at h0; rw [hr b hb] at h0; split at h0 <;> omega
  · simp only [List.mem_singleton] at ha; subst ha; rw [hs, hs a, if_pos rfl, hr b hb]; split <;> omega
  · exfalso
    rw [hs, hr x hx] at h0
    split at h0
    · rename_i e; exact hn (by simp [e])
    · omega
structure Dist (n : Nat) (es : List E3) (q : Nat) (o : List Int) : Prop where
  len : o.length = n
  q0 : gi o q = 0
  low : ∀ b, -1 ≤ gi o b
  high : ∀ b, gi o b ≤ (n : Int) - 1
  par : ∀ b, b < n → 0 < gi o b → ∃ u, u < n ∧ Adj es b u ∧ gi o u = gi o b - 1
  step : ∀ x, x < n → 0 ≤ gi o x → ∀ u, Adj es x u → 0 ≤ gi o u ∧ gi o u ≤ gi o x + 1
  zero : ∀ b, b < n → gi o b = 0 → b = q
end Go.Proofs.Ytdbpajnjhgocoaa

/- The contract of distances: a search in breadth from q. -/
namespace Go.Proofs.Ytdbpajnjhgocoaa
open Go Go.RowKit Go.Shelf Go.Proofs.Try
set_option linter.unusedVariables false
set_option maxRecDepth 100000
set_option maxHeartbeats 8000000
theorem OwnS.cell {w : World} {B : Nat} {e : TypeId} {A : Option Addr} {l c : Nat} {xs : List Value} (h : OwnS w B e 1 A l c xs) {i : Int} (h0 : 0 ≤ i) {v : Value} (hv : xs[i.toNat]? = some v) : Ix A l i ∧ w.cell? (ixA A i 1) = some v := by
  have hl : xs.length = l := by simpa using h.1
  have hlt : i.toNat < xs.length := (List.getElem?_eq_some_iff.1 hv).1
  rcases h.2 with ⟨rfl, h1, _⟩ | ⟨g, o, cur, rfl, hB, hg, hlc, hcm, hcs, ht⟩
  · omega
  · refine ⟨ix_some h0 (by omega), ?_⟩
    rw [ixA_off, cell_of_row w g _ cur e (0, 0) hg]
    rw [← ht, List.getElem?_take, if_pos (by omega), List.getElem?_drop] at hv
    simpa using hv
theorem OwnS.lt {w : World} {B : Nat} {e : TypeId} {sz : Nat} {A : Option Addr} {l c : Nat} {xs : List Value} (h : OwnS w B e sz A l c xs) {a : Addr} (ha : A = some a) : B ≤ a.block ∧ a.block < w.heap.size := by
  rcases h.2 with ⟨h1, _⟩ | ⟨g, o, cur, h1, hB, hg, rest⟩
  · rw [h1] at ha; cases ha
  · rw [h1] at ha; cases ha; exact ⟨hB, (Array.getElem?_eq_some_iff.1 hg).1⟩
structure QI (w0 : World) (B gO gQ n : Nat) (es : List E3) (q : Nat) (m : Nat) (w : World) (o : List Int) (Q : List Nat) (A : Option Addr) (l c : Nat) : Prop where
  len : l = Q.length
  mes : 2 * cu o + Q.length ≤ m
  out : IRow w gO 3 n o
  box : Row w gQ 22 1 [.slice A l c]
  own : OwnS w B 3 1 A l c (Q.map fun (x : Nat) => Value.int .i64 (x : Int))
  pure : Pure w0 w
end Go.Proofs.Ytdbpajnjhgocoaa

/- The contract of fire: a set of vertices fires some times. -/
namespace Go.Proofs.Ytdbpajnjhgocoaa
open Go Go.RowKit Go.Shelf Go.Proofs.Try
set_option linter.unusedVariables false
set_option maxRecDepth 100000
set_option maxHeartbeats 8000000
def pay (t : Int) (v : Nat) (d : List Int) (x : Int × Int) : List Int := (d.set v (gi d v - x.2 * t)).set x.1.toNat (gi (d.set v (gi d v - x.2 * t)) x.1.toNat + x.2 * t)
def ygc (t : Int) (v : Nat) (l : List (Int × Int)) (d : List Int) : List Int := l.foldl (pay t v) d
def yep (es : List E3) (inn : List Bool) (t : Int) (d : List Int) : Nat → List Int
  | 0 => d
  | k + 1 => if gb inn k then ygc t k (ydI es k) (yep es inn t d k) else yep es inn t d k
def ydn (inn : List Bool) (t : Int) (s : List Int) : Nat → List Int
  | 0 => s
  | k + 1 => if gb inn k then (ydn inn t s k).set k (gi (ydn inn t s k) k + t) else ydn inn t s k
theorem payAll_length (t : Int) (v : Nat) (l : List (Int × Int)) : ∀ d, (ygc t v l d).length = d.length := by
  unfold ygc
  induction l with
  | nil => intro d; rfl
  | cons x l ih => intro d; rw [List.foldl_cons, ih]; simp [pay]
theorem yc2 (es : List E3) (inn : List Bool) (t : Int) (d : List Int) : ∀ k, (yep es inn t d k).length = d.length
  | 0 => rfl
  | k + 1 => by
    rw [yep]; split
    · rw [payAll_length, yc2 es inn t d k]
    · exact yc2 es inn t d k
theorem yc6 (inn : List Bool) (t : Int) (s : List Int) : ∀ k, (ydn inn t s k).length = s.length
  | 0 => rfl
  | k + 1 => by
    rw [ydn]; split
    · rw [List.length_set, yc6 inn t s k]
    · exact yc6 inn t s k
theorem fireS_gi (inn : List Bool) (t : Int) (s : List Int) : ∀ k i, k ≤ s.length → gi (ydn inn t s k) i = if i < k ∧ gb inn i = true then gi s i + t else gi s i
  | 0, i, _ => by simp [ydn]
  | k + 1, i, hk => by
    have ih := fireS_gi inn t s k
    rw [ydn]
    by_cases hb : gb inn k = true
    · rw [if_pos hb, yic (by rw [yc6]; omega)]
      by_cases e : i = k
      · subst e; rw [if_pos rfl, if_pos ⟨by omega, hb⟩, ih i (by omega), if_neg (by omega)]
      · rw [if_neg e, ih i (by omega)]
        by_cases h2 : i < k ∧ gb inn i = true
        · rw [if_pos h2, if_pos ⟨by omega, h2.2⟩]
        · rw [if_neg h2, if_neg (fun h => h2 ⟨by omega, h.2⟩)]
    · rw [if_neg hb, ih i (by omega)]
      by_cases h2 : i < k ∧ gb inn i = true
      · rw [if_pos h2, if_pos ⟨by omega, h2.2⟩]
      · rw [if_neg h2, if_neg (fun h => by
          by_cases e : i = k
          · subst e; exact hb h.2
          · exact h2 ⟨by omega, h.2⟩)]
def Bnd (M : Int) (d : List Int) : Prop := ∀ i, -M ≤ gi d i ∧ gi d i ≤ M
def bigAt (d s : List Int) (j : Nat) : Bool := decide (2097152 < gi d j ∨ 2097152 < -gi d j ∨ 2097152 < gi s j ∨ 2097152 < -gi s j)
def fireE (d s : List Int) (e : Int) : Nat → Int
  | 0 => e
  | j + 1 => if bigAt d s j = true ∧ fireE d s e j = 0 then 11 else fireE d s e j
end Go.Proofs.Ytdbpajnjhgocoaa

/- The contract of settle: unburnt sets fire until there are none. What fires well is a premise (Good), so that the numbers are plain Lean elsewhere. -/
namespace Go.Proofs.Ytdbpajnjhgocoaa
open Go Go.RowKit Go.Shelf Go.Proofs.Try
set_option linter.unusedVariables false
set_option maxRecDepth 100000
set_option maxHeartbeats 8000000
def ycs (es : List E3) (left : List Bool) (d : List Int) : Nat → Int
  | 0 => 0
  | k + 1 => if gb left k = true ∧ 0 < ya0 es (k : Int) (fun u => !gb left u.toNat) then
      (if ycs es left d k = 0 ∨ (gi d k).tdiv (ya0 es (k : Int) (fun u => !gb left u.toNat)) < ycs es left d k then (gi d k).tdiv (ya0 es (k : Int) (fun u => !gb left u.toNat)) else ycs es left d k)
    else ycs es left d k
structure Burns (n : Nat) (es : List E3) (q : Nat) (d : List Int) (burnt : List Bool) : Prop where
  len : burnt.length = n
  at_q : gb burnt q = true
  closed : Closed n es d burnt
  forced : Forced n es q d burnt
def leftOf (burnt : List Bool) : List Bool := burnt.map (!·)
end Go.Proofs.Ytdbpajnjhgocoaa

/- The contracts of slices.Max and of lend: from the farthest vertices on, the nearer ones fire. What fires well is a premise (Good). -/
namespace Go.Proofs.Ytdbpajnjhgocoaa
open Go Go.RowKit Go.Shelf Go.Proofs.Try
set_option linter.unusedVariables false
set_option maxRecDepth 100000
set_option maxHeartbeats 8000000
def yfL (l : List Int) : Nat → Int
  | 0 => gi l 0
  | k + 1 => mxF (yfL l k) (gi l k)
theorem maxTo_ge (l : List Int) : ∀ (k j : Nat), j < k → gi l j ≤ yfL l k
  | k + 1, j, h => by
    rw [yfL, mxF_eq]
    by_cases e : j = k
    · subst e; exact Int.le_max_right _ _
    · exact Int.le_trans (maxTo_ge l k j (by omega)) (Int.le_max_left _ _)
theorem maxTo_mem (l : List Int) : ∀ k, k ≤ l.length → 0 < l.length → ∃ j, j < l.length ∧ yfL l k = gi l j
  | 0, _, h => ⟨0, h, rfl⟩
  | k + 1, h, h0 => by
    obtain ⟨j, hj, e⟩ := maxTo_mem l k (by omega) h0
    rw [yfL]
    unfold mxF
    split
    · exact ⟨k, by omega, rfl⟩
    · exact ⟨j, hj, e⟩
def ya4 (o : List Int) (k : Int) : List Bool := o.map fun x => decide (x < k)
theorem yeo {o : List Int} {k : Int} {j : Nat} (h : j < o.length) : gb (ya4 o k) j = decide (gi o j < k) := by
  rw [ydw (by simpa [ya4] using h), ybz h]
  simp [ya4]
def ycw (es : List E3) (o : List Int) (k : Int) (d : List Int) : Nat → Int
  | 0 => 0
  | j + 1 => if gi o j = k ∧ gi d j < 0 then mxF (ycw es o k d j) ((-gi d j + ya0 es (j : Int) (fun u => gb (ya4 o k) u.toNat) - 1).tdiv (ya0 es (j : Int) (fun u => gb (ya4 o k) u.toNat))) else ycw es o k d j
theorem addF_pos {p : Int → Bool} {l : List (Int × Int)} (h : ∀ q ∈ l, 0 ≤ q.2) {x : Int × Int} (hx : x ∈ l) (hp : p x.1 = true) (hx1 : 1 ≤ x.2) : 1 ≤ addF p l := by
  suffices H : ∀ (l : List (Int × Int)) (a : Int), (∀ q ∈ l, 0 ≤ q.2) → a ≤ l.foldl (fun n x => if p x.1 then n + x.2 else n) a ∧ (x ∈ l → a + 1 ≤ l.foldl (fun n x => if p x.1 then n + x.2 else n) a) by
    have := (H l 0 h).2 hx
    unfold addF; omega
  intro l
  induction l with
  | nil => intro a _; simp
  | cons y l ih =>
    intro a h
    have h1 := ih (if p y.1 then a + y.2 else a) (fun q hq => h q (by simp [hq]))
    have hy := h y (by simp)
    rw [List.foldl_cons]
    refine ⟨?_, fun hm => ?_⟩
    · split at h1 <;> rename_i hpy <;> simp only [hpy] at h1 ⊢ <;> simp at h1 ⊢ <;> omega
    · rcases List.mem_cons.1 hm with rfl | hm
      · rw [if_pos hp] at h1 ⊢; omega
      · have h2 := h1.2 hm
        split at h2 <;> rename_i hpy <;> simp only [hpy] at h2 ⊢ <;> simp at h2 ⊢ <;> omega
theorem near_pos {n : Nat} {es : List E3} {q : Nat} {o : List Int} (hD : Dist n es q o) (hE1 : ∀ x ∈ es, 1 ≤ x.2.2) {v k : Nat} (hv : v < n) (hk : gi o v = (k : Int) + 1) : 1 ≤ ya0 es (v : Int) (fun u => gb (ya4 o ((k : Int) + 1)) u.toNat) := by
  obtain ⟨u, hu, ⟨m, hm⟩, ho⟩ := hD.par v hv (by omega)
  have hpos : ∀ p ∈ ydI es (v : Int), 1 ≤ p.2 := fun p hp => by
    obtain ⟨x, hx, _, _, _, h4⟩ := (ybC (u := p.1) (m := p.2)).1 hp
    rw [h4]; exact hE1 x hx
  refine addF_pos (fun p hp => by have := hpos p hp; omega) hm ?_ (hpos _ hm)
  simp only [Int.toNat_natCast]
  rw [yeo (by rw [hD.len]; exact hu)]
  simp; omega
end Go.Proofs.Ytdbpajnjhgocoaa

/- Sums, weights, the Laplacian, and what firing does to the chips. No program in sight. -/
namespace Go.Proofs.Ytdbpajnjhgocoaa
open Go Go.Proofs.Try
set_option linter.unusedVariables false
def sm : Nat → (Nat → Int) → Int
  | 0, _ => 0
  | n + 1, f => sm n f + f n
theorem yaR {f g : Nat → Int} : ∀ {n : Nat}, (∀ i, i < n → f i = g i) → sm n f = sm n g
  | 0, _ => rfl
  | n + 1, h => by rw [sm, sm, yaR (fun i hi => h i (by omega)), h n (by omega)]
theorem ycP : ∀ n, sm n (fun _ => 0) = 0
  | 0 => rfl
  | n + 1 => by rw [sm, ycP n]; rfl
theorem ydB (f g : Nat → Int) : ∀ n, sm n (fun i => f i + g i) = sm n f + sm n g
  | 0 => rfl
  | n + 1 => by simp only [sm, ydB f g n]; omega
theorem sm_sub (f g : Nat → Int) : ∀ n, sm n (fun i => f i - g i) = sm n f - sm n g
  | 0 => rfl
  | n + 1 => by simp only [sm, sm_sub f g n]; omega
theorem sm_mul (c : Int) (f : Nat → Int) : ∀ n, sm n (fun i => c * f i) = c * sm n f
  | 0 => by simp [sm]
  | n + 1 => by simp only [sm, sm_mul c f n, Int.mul_add]
theorem ygp {f g : Nat → Int} : ∀ {n : Nat}, (∀ i, i < n → f i ≤ g i) → sm n f ≤ sm n g
  | 0, _ => Int.le_refl _
  | n + 1, h => by
    have h1 := ygp (fun i hi => h i (by omega) : ∀ i, i < n → f i ≤ g i)
    have h2 := h n (by omega)
    rw [sm, sm]; omega
theorem ybL {f : Nat → Int} {n : Nat} (h : ∀ i, i < n → 0 ≤ f i) : 0 ≤ sm n f := by
  have := ygp h
  rwa [ycP] at this
theorem sm_ge {f : Nat → Int} : ∀ {n : Nat}, (∀ i, i < n → 0 ≤ f i) → ∀ j, j < n → f j ≤ sm n f
  | n + 1, h, j, hj => by
    have h1 := ybL (fun i hi => h i (by omega) : ∀ i, i < n → 0 ≤ f i)
    have h2 := h n (by omega)
    rw [sm]
    by_cases e : j = n
    · subst e; omega
    · have := sm_ge (fun i hi => h i (by omega) : ∀ i, i < n → 0 ≤ f i) j (by omega); omega
theorem sm_swap (f : Nat → Nat → Int) (m : Nat) : ∀ n, sm n (fun i => sm m (fun j => f i j)) = sm m (fun j => sm n (fun i => f i j))
  | 0 => by simp only [sm]; rw [ycP]
  | n + 1 => by
    simp only [sm]
    rw [sm_swap f m n, ← ydB]
theorem ygl (c : Int) : ∀ {n j : Nat}, j < n → sm n (fun i => if i = j then c else 0) = c
  | n + 1, j, h => by
    rw [sm]
    by_cases e : j = n
    · subst e
      rw [if_pos rfl, yaR (g := fun _ => 0) (fun i hi => if_neg (by omega)), ycP]; omega
    · rw [ygl c (by omega : j < n), if_neg (by omega)]; omega
def addG (p : Int → Bool) : List (Int × Int) → Int
  | [] => 0
  | x :: l => (if p x.1 then x.2 else 0) + addG p l
theorem yfz (p : Int → Bool) (l : List (Int × Int)) : addF p l = addG p l := by
  suffices H : ∀ (l : List (Int × Int)) (a : Int), l.foldl (fun n x => if p x.1 then n + x.2 else n) a = a + addG p l by
    unfold addF; rw [H]; omega
  intro l
  induction l with
  | nil => intro a; simp [addG]
  | cons x l ih => intro a; rw [List.foldl_cons, ih, addG]; split <;> omega
theorem addG_sum {n : Nat} (p : Int → Bool) : ∀ (l : List (Int × Int)), (∀ x ∈ l, 0 ≤ x.1 ∧ x.1 < n) → addG p l = sm n (fun u => if p (u : Int) then addG (fun x => x == (u : Int)) l else 0)
  | [], _ => by
    rw [addG, yaR (g := fun _ => 0) (fun i _ => by simp [addG]), ycP]
  | x :: l, h => by
    have hx := h x (by simp)
    have ih := addG_sum p l (fun y hy => h y (by simp [hy]))
    have h1 : sm n (fun u => if p (u : Int) then addG (fun y => y == (u : Int)) (x :: l) else 0) = sm n (fun u => (if u = x.1.toNat then (if p x.1 then x.2 else 0) else 0) + (if p (u : Int) then addG (fun y => y == (u : Int)) l else 0)) := by
      refine yaR (fun u hu => ?_)
      simp only [addG]
      by_cases e : u = x.1.toNat
      · have e2 : x.1 = (u : Int) := by omega
        rw [if_pos e, e2]
        simp only [beq_self_eq_true, if_true]
        split <;> omega
      · have e2 : (x.1 == (u : Int)) = false := by simp; omega
        rw [if_neg e]
        simp only [e2, Bool.false_eq_true, if_false]
        split <;> omega
    rw [h1, ydB, ygl _ (by omega), addG, ih]
def W (es : List E3) (v u : Nat) : Int := ya0 es (v : Int) (fun x => x == (u : Int))
def EOk (n : Nat) (es : List E3) : Prop := ∀ x ∈ es, 0 ≤ x.1 ∧ x.1 < n ∧ 0 ≤ x.2.1 ∧ x.2.1 < n ∧ 1 ≤ x.2.2 ∧ x.2.2 ≤ 50
theorem EOk.range {n : Nat} {es : List E3} (h : EOk n es) : ∀ x ∈ es, 0 ≤ x.1 ∧ x.1 < n ∧ 0 ≤ x.2.1 ∧ x.2.1 < n ∧ 0 ≤ x.2.2 ∧ x.2.2 ≤ 50 := fun x hx => by have := h x hx; omega
theorem yeD {n : Nat} {es : List E3} (h : EOk n es) (v : Nat) (p : Int → Bool) : ya0 es (v : Int) p = sm n (fun u => if p (u : Int) then W es v u else 0) := by
  have h1 : ∀ x ∈ ydI es (v : Int), 0 ≤ x.1 ∧ x.1 < n := fun x hx => by
    have := ydA h.range (v := (v : Int)) (u := x.1) (m := x.2) hx; omega
  unfold ya0
  rw [yfz, addG_sum p _ h1]
  refine yaR fun u _ => ?_
  unfold W ya0
  rw [yfz]
def w1 (x : E3) (v u : Nat) : Int := if x.1 ≠ x.2.1 ∧ ((x.1 = v ∧ x.2.1 = u) ∨ (x.1 = u ∧ x.2.1 = v)) then x.2.2 else 0
theorem yfA (x : E3) (es : List E3) (v u : Nat) : W (x :: es) v u = w1 x v u + W es v u := by
  unfold W ya0 ydI w1
  rw [yfz, yfz, List.filterMap_cons]
  unfold link
  by_cases c : x.1 ≠ x.2.1 ∧ (x.1 = v ∨ x.2.1 = v)
  · rw [if_pos c]
    simp only [addG]
    by_cases e : x.1 + x.2.1 - v = u
    · rw [if_pos (by simpa using e), if_pos ⟨c.1, by omega⟩]
    · rw [if_neg (by simpa using e), if_neg (fun h => by omega)]
  · simp only [if_neg c]
    rw [if_neg (fun h => c ⟨h.1, by omega⟩)]
    omega
theorem W_nil (v u : Nat) : W [] v u = 0 := rfl
theorem w1_symm (x : E3) (v u : Nat) : w1 x v u = w1 x u v := by
  unfold w1
  by_cases c : x.1 ≠ x.2.1 ∧ ((x.1 = v ∧ x.2.1 = u) ∨ (x.1 = u ∧ x.2.1 = v))
  · rw [if_pos c, if_pos ⟨c.1, by omega⟩]
  · rw [if_neg c, if_neg (fun h => c ⟨h.1, by omega⟩)]
theorem yfB : ∀ (es : List E3) (v u : Nat), W es v u = W es u v
  | [], v, u => rfl
  | x :: es, v, u => by rw [yfA, yfA, w1_symm, yfB es v u]
theorem W_self : ∀ (es : List E3) (v : Nat), W es v v = 0
  | [], v => rfl
  | x :: es, v => by
    rw [yfA, W_self es v]
    unfold w1
    rw [if_neg (fun h => h.1 (by omega))]; rfl
theorem ycm {n : Nat} {es : List E3} (h : EOk n es) : ∀ v u, 0 ≤ W es v u := by
  induction es with
  | nil => intro v u; rw [W_nil]; omega
  | cons x es ih =>
    intro v u
    have h1 := ih (fun y hy => h y (by simp [hy])) v u
    have h2 := h x (by simp)
    rw [yfA]
    unfold w1
    split <;> omega
theorem W_adj {n : Nat} {es : List E3} (h : EOk n es) {v u : Nat} : 0 < W es v u ↔ Adj es v u := by
  induction es with
  | nil => rw [W_nil]; constructor; (intro h; omega); rintro ⟨m, hm⟩; exact absurd hm (by simp [ydI])
  | cons x es ih =>
    have h1 := ih (fun y hy => h y (by simp [hy]))
    have h2 := h x (by simp)
    have h3 := ycm (fun y hy => h y (by simp [hy]) : EOk n es) v u
    rw [yfA]
    have h4 : Adj (x :: es) v u ↔ (x.1 ≠ x.2.1 ∧ ((x.1 = v ∧ x.2.1 = u) ∨ (x.1 = u ∧ x.2.1 = v))) ∨ Adj es v u := by
      constructor
      · rintro ⟨m, hm⟩
        obtain ⟨y, hy, q1, q2, q3, q4⟩ := ybC.1 hm
        rcases List.mem_cons.1 hy with rfl | hy
        · exact .inl ⟨q1, by omega⟩
        · exact .inr ⟨m, ybC.2 ⟨y, hy, q1, q2, q3, q4⟩⟩
      · rintro (q | ⟨m, hm⟩)
        · exact ⟨x.2.2, ybC.2 ⟨x, by simp, q.1, by omega, by omega, rfl⟩⟩
        · obtain ⟨y, hy, q1, q2, q3, q4⟩ := ybC.1 hm
          exact ⟨m, ybC.2 ⟨y, by simp [hy], q1, q2, q3, q4⟩⟩
    rw [h4, ← h1]
    unfold w1
    constructor
    · intro hh
      split at hh
      · rename_i c; exact .inl c
      · exact .inr (by omega)
    · rintro (c | c)
      · rw [if_pos c]; omega
      · split <;> omega
def Lp (n : Nat) (es : List E3) (s : Nat → Int) (v : Nat) : Int := sm n (fun u => W es v u * (s v - s u))
def deg (n : Nat) (es : List E3) (v : Nat) : Int := sm n (fun u => W es v u)
theorem gi_pay {t : Int} {v : Nat} {x : Int × Int} {d : List Int} (hv : v < d.length) (hu : x.1.toNat < d.length) (hne : x.1.toNat ≠ v) (i : Nat) :
    gi (pay t v d x) i = gi d i - (if i = v then x.2 * t else 0) + (if i = x.1.toNat then x.2 * t else 0) := by
  unfold pay
  rw [yic (by simpa using hu), yic hv]
  by_cases e : i = x.1.toNat
  · subst e; rw [if_pos rfl, if_pos rfl, if_neg hne]; rw [if_neg hne]; omega
  · rw [if_neg e, if_neg e, yic hv]; split <;> (try subst_vars) <;> omega
theorem gi_payAll {t : Int} {v n : Nat} : ∀ (l : List (Int × Int)) (d : List Int), d.length = n → v < n → (∀ x ∈ l, 0 ≤ x.1 ∧ x.1 < n ∧ x.1.toNat ≠ v) → ∀ i,
    gi (ygc t v l d) i = gi d i - (if i = v then t * addG (fun _ => true) l else 0) + t * addG (fun y => y == (i : Int)) l
  | [], d, _, _, _, i => by simp [ygc, addG]
  | x :: l, d, hd, hv, h, i => by
    have hx := h x (by simp)
    have h1 := gi_payAll (t := t) (v := v) l (pay t v d x) (by simp [pay, hd]) hv (fun y hy => h y (by simp [hy])) i
    have h2 : ygc t v (x :: l) d = ygc t v l (pay t v d x) := rfl
    rw [h2, h1, gi_pay (by omega) (by omega) hx.2.2]
    simp only [addG, if_true]
    have hb : (x.1 == (i : Int)) = decide (i = x.1.toNat) := by
      rw [Bool.eq_iff_iff]; simp; omega
    simp only [hb, decide_eq_true_eq]
    have e1 : t * (x.2 + addG (fun _ => true) l) = x.2 * t + t * addG (fun _ => true) l := by rw [Int.mul_add, Int.mul_comm t x.2]
    have e2 : ∀ a : Int, t * (x.2 + a) = x.2 * t + t * a := fun a => by rw [Int.mul_add, Int.mul_comm t x.2]
    by_cases c1 : i = v <;> by_cases c2 : i = x.1.toNat <;> simp only [c1, c2, if_true, if_false, e2, Int.zero_add] <;> (try split) <;> (try split) <;> (try simp only [e2, Int.zero_add]) <;> omega
def ind (inn : List Bool) (v : Nat) : Int := if gb inn v then 1 else 0
theorem links_ok {n : Nat} {es : List E3} (h : EOk n es) (v : Nat) : ∀ x ∈ ydI es (v : Int), 0 ≤ x.1 ∧ x.1 < n ∧ x.1.toNat ≠ v := fun x hx => by
  have h1 := ydA h.range (v := (v : Int)) (u := x.1) (m := x.2) hx
  obtain ⟨y, hy, q1, q2, q3, q4⟩ := (ybC (u := x.1) (m := x.2)).1 hx
  omega
theorem addG_true {n : Nat} {es : List E3} (h : EOk n es) (v : Nat) : addG (fun _ => true) (ydI es (v : Int)) = deg n es v := by
  have := yeD h v (fun _ => true)
  unfold ya0 at this
  rw [yfz] at this
  rw [this]
  exact yaR fun u _ => by simp
theorem gi_fireD {n : Nat} {es : List E3} (h : EOk n es) (inn : List Bool) (t : Int) (d : List Int) (hd : d.length = n) : ∀ k, k ≤ n → ∀ i, i < n →
    gi (yep es inn t d k) i = gi d i - t * (if i < k then ind inn i * deg n es i else 0) + t * sm k (fun j => ind inn j * W es j i)
  | 0, _, i, _ => by simp [yep, sm]
  | k + 1, hk, i, hi => by
    have ih := gi_fireD h inn t d hd k (by omega) i hi
    rw [yep, sm]
    by_cases hb : gb inn k = true
    · rw [if_pos hb, gi_payAll (n := n) _ _ (by rw [yc2]; exact hd) (by omega) (links_ok h k), ih, addG_true h]
      have hW : addG (fun y => y == (i : Int)) (ydI es (k : Int)) = W es k i := by unfold W ya0; rw [yfz]
      rw [hW]
      have hind : ind inn k = 1 := by simp [ind, hb]
      rw [hind]
      by_cases c1 : i = k
      · subst c1
        rw [if_neg (by omega), if_pos rfl, if_pos (by omega), hind]
        simp only [Int.mul_add, Int.one_mul, Int.mul_zero]; omega
      · rw [if_neg c1]
        by_cases c2 : i < k
        · rw [if_pos c2, if_pos (by omega)]; simp only [Int.mul_add, Int.one_mul]; omega
        · rw [if_neg c2, if_neg (by omega)]; simp only [Int.mul_add, Int.one_mul]; omega
    · rw [if_neg hb, ih]
      have hind : ind inn k = 0 := by simp [ind, hb]
      rw [hind]
      by_cases c1 : i = k
      · subst c1
        rw [if_neg (by omega), if_pos (by omega), hind]
        simp
      · by_cases c2 : i < k
        · rw [if_pos c2, if_pos (by omega)]; simp
        · rw [if_neg c2, if_neg (by omega)]; simp
theorem Lp_ind {n : Nat} {es : List E3} (s : Nat → Int) (v : Nat) : Lp n es s v = s v * deg n es v - sm n (fun u => s u * W es u v) := by
  unfold Lp deg
  rw [← sm_mul, ← sm_sub]
  refine yaR fun u _ => ?_
  rw [Int.mul_sub, Int.mul_comm (W es v u) (s v), yfB es v u, Int.mul_comm (W es u v) (s u)]
theorem fire_lp {n : Nat} {es : List E3} (h : EOk n es) (inn : List Bool) (t : Int) (d : List Int) (hd : d.length = n) {i : Nat} (hi : i < n) : gi (yep es inn t d n) i = gi d i - t * Lp n es (ind inn) i := by
  rw [gi_fireD h inn t d hd n (Nat.le_refl _) i hi, if_pos hi, Lp_ind, Int.mul_sub]; omega
theorem Lp_add {n : Nat} {es : List E3} (a b : Nat → Int) (v : Nat) : Lp n es (fun i => a i + b i) v = Lp n es a v + Lp n es b v := by
  unfold Lp
  rw [← ydB]
  exact yaR fun u _ => by rw [← Int.mul_add]; congr 1; show a v + b v - (a u + b u) = _; omega
theorem Lp_mul {n : Nat} {es : List E3} (c : Int) (a : Nat → Int) (v : Nat) : Lp n es (fun i => c * a i) v = c * Lp n es a v := by
  unfold Lp
  rw [← sm_mul]
  exact yaR fun u _ => by rw [← Int.mul_sub, Int.mul_left_comm]
theorem Lp_const {n : Nat} {es : List E3} (c : Int) (v : Nat) : Lp n es (fun _ => c) v = 0 := by
  unfold Lp
  rw [yaR (g := fun _ => 0) (fun u _ => by simp), ycP]
theorem Lp_congr {n : Nat} {es : List E3} {a b : Nat → Int} (h : ∀ i, i < n → a i = b i) {v : Nat} (hv : v < n) : Lp n es a v = Lp n es b v := by
  unfold Lp
  exact yaR fun u hu => by rw [h v hv, h u hu]
theorem Lp_cut {n : Nat} {es : List E3} (S : Nat → Bool) (s : Nat → Int) : sm n (fun v => if S v then Lp n es s v else 0) = sm n (fun v => sm n (fun u => if S v && !S u then W es v u * (s v - s u) else 0)) := by
  have h1 : sm n (fun v => if S v then Lp n es s v else 0) = sm n (fun v => sm n (fun u => (if S v && !S u then W es v u * (s v - s u) else 0))) + sm n (fun v => sm n (fun u => (if S v && S u then W es v u * (s v - s u) else 0))) := by
    rw [← ydB]
    refine yaR fun v _ => ?_
    rw [← ydB]
    cases hv : S v with
    | false => simp [ycP]
    | true =>
      simp only [if_true, Bool.true_and]
      unfold Lp
      refine yaR fun u _ => ?_
      cases S u <;> simp
  have h2 : sm n (fun v => sm n (fun u => (if S v && S u then W es v u * (s v - s u) else 0))) = 0 := by
    have h3 : sm n (fun v => sm n (fun u => (if S v && S u then W es v u * (s v - s u) else 0))) = - sm n (fun v => sm n (fun u => (if S v && S u then W es v u * (s v - s u) else 0))) := by
      conv => lhs; rw [sm_swap]
      have : ∀ m (f : Nat → Int), - sm m f = sm m (fun i => - f i) := fun m f => by
        have := sm_mul (-1) f m
        simp only [Int.neg_mul, Int.one_mul] at this
        exact this.symm
      rw [this]
      refine yaR fun v _ => ?_
      rw [this]
      refine yaR fun u _ => ?_
      cases S u <;> cases S v <;> simp
      rw [yfB es u v, ← Int.mul_neg]; congr 1; omega
    omega
  rw [h1, h2]; omega
theorem Lp_total {n : Nat} {es : List E3} (s : Nat → Int) : sm n (fun v => Lp n es s v) = 0 := by
  have := Lp_cut (n := n) (es := es) (fun _ => true) s
  simp only [if_true, Bool.not_true, Bool.and_false, Bool.false_eq_true, if_false] at this
  rw [this, yaR (g := fun _ => 0) (fun v _ => ycP n), ycP]
end Go.Proofs.Ytdbpajnjhgocoaa

/- The contract of result: the script is laid so that q does not fire; numbers out of range are an error. -/
namespace Go.Proofs.Ytdbpajnjhgocoaa
open Go Go.RowKit Go.Shelf Go.Proofs.Try
set_option linter.unusedVariables false
set_option maxRecDepth 100000
set_option maxHeartbeats 8000000
structure ResNil (A1 : Option Addr) (l1 c1 : Nat) (A2 : Option Addr) (l2 c2 : Nat) : Prop where
  a1 : A1 = none
  l1 : l1 = 0
  c1 : c1 = 0
  a2 : A2 = none
  l2 : l2 = 0
  c2 : c2 = 0
structure ResOk (gd gs n cd cs : Nat) (d s : List Int) (A1 : Option Addr) (l1 c1 : Nat) (A2 : Option Addr) (l2 c2 : Nat) (w' : World) : Prop where
  a1 : A1 = some ⟨gd, 0, none⟩
  l1 : l1 = n
  c1 : c1 = cd
  a2 : A2 = some ⟨gs, 0, none⟩
  l2 : l2 = n
  c2 : c2 = cs
  row1 : IRow w' gd 3 cd d
  row2 : IRow w' gs 3 cs s
end Go.Proofs.Ytdbpajnjhgocoaa

/- The plain laws behind lending: levels, cuts, bounds. No program in sight. -/
namespace Go.Proofs.Ytdbpajnjhgocoaa
open Go Go.Proofs.Try
set_option linter.unusedVariables false
set_option linter.unusedSimpArgs false
set_option linter.unusedSectionVars false
theorem fireE_ok {d s : List Int} (hd : ∀ j, -2097152 ≤ gi d j ∧ gi d j ≤ 2097152) (hs : ∀ j, -2097152 ≤ gi s j ∧ gi s j ≤ 2097152) (e : Int) : ∀ j, fireE d s e j = e
  | 0 => rfl
  | j + 1 => by
    rw [fireE, fireE_ok hd hs e j, if_neg]
    rintro ⟨h, -⟩
    have h1 := hd j
    have h2 := hs j
    unfold bigAt at h
    rw [decide_eq_true_eq] at h
    omega
theorem yfG {d : List Int} {n : Nat} (h : d.length = n) {i : Nat} (hi : ¬ i < n) : gi d i = 0 := gi_ge (by omega)
theorem ygn {inn : List Bool} {t : Int} {s : List Int} {n : Nat} (hs : s.length = n) {v : Nat} (hv : v < n) : gi (ydn inn t s n) v = gi s v + t * ind inn v := by
  rw [fireS_gi inn t s n v (by omega)]
  unfold ind
  by_cases h : gb inn v = true
  · rw [if_pos ⟨hv, h⟩, if_pos h]; omega
  · rw [if_neg (fun x => h x.2), if_neg h]; omega
theorem Lp_fireS {n : Nat} {es : List E3} {inn : List Bool} {t : Int} {s : List Int} (hs : s.length = n) {v : Nat} (hv : v < n) : Lp n es (gi (ydn inn t s n)) v = Lp n es (gi s) v + t * Lp n es (ind inn) v := by
  rw [Lp_congr (b := fun i => gi s i + t * ind inn i) (fun i hi => ygn hs hi) hv, Lp_add, Lp_mul]
theorem Lp_ind_in {n : Nat} {es : List E3} {inn : List Bool} {v : Nat} (hb : gb inn v = true) : Lp n es (ind inn) v = sm n (fun u => if gb inn u = true then 0 else W es v u) := by
  unfold Lp
  refine yaR fun u _ => ?_
  have : ind inn v = 1 := by simp [ind, hb]
  rw [this]
  unfold ind
  split <;> simp
theorem yfs {n : Nat} {es : List E3} {inn : List Bool} {v : Nat} (hb : ¬ gb inn v = true) : Lp n es (ind inn) v = - sm n (fun u => if gb inn u = true then W es v u else 0) := by
  have e : ∀ (f : Nat → Int), - sm n f = sm n (fun i => - f i) := fun f => by
    have := sm_mul (-1) f n
    simp only [Int.neg_mul, Int.one_mul] at this
    exact this.symm
  rw [e]
  unfold Lp
  refine yaR fun u _ => ?_
  have : ind inn v = 0 := by simp [ind, hb]
  rw [this]
  unfold ind
  split <;> simp
def FF (n : Nat) (es : List E3) (o : List Int) (k : Int) : Int := sm n (fun v => if k < gi o v then sm n (fun u => if gi o u < gi o v then W es v u else 0) else 0)
def CC (n : Nat) (es : List E3) (o : List Int) (k : Int) : Int := sm n (fun v => if gi o v = k then sm n (fun u => if gi o u < k then W es v u else 0) else 0)
def tot (n : Nat) (es : List E3) : Int := sm n (fun v => sm n (fun u => W es v u))
theorem FF_step (n : Nat) (es : List E3) (o : List Int) (k : Int) : FF n es o k = FF n es o (k + 1) + CC n es o (k + 1) := by
  unfold FF CC
  rw [← ydB]
  refine yaR fun v _ => ?_
  by_cases h : gi o v = k + 1
  · rw [if_pos (by omega), if_neg (by omega), if_pos h, h]; omega
  · by_cases h2 : k < gi o v
    · rw [if_pos h2, if_pos (by omega), if_neg h]; omega
    · rw [if_neg h2, if_neg (by omega), if_neg h]; omega
section
variable {n : Nat} {es : List E3} (hE : EOk n es)
include hE
theorem CC_nonneg (o : List Int) (k : Int) : 0 ≤ CC n es o k := ybL fun v _ => by
  split
  · exact ybL fun u _ => by have := ycm hE v u; split <;> omega
  · omega
theorem FF_nonneg (o : List Int) (k : Int) : 0 ≤ FF n es o k := ybL fun v _ => by
  split
  · exact ybL fun u _ => by have := ycm hE v u; split <;> omega
  · omega
theorem FF_half (o : List Int) (k : Int) : 2 * FF n es o k ≤ tot n es := by
  have h1 : FF n es o k ≤ sm n (fun v => sm n (fun u => if gi o u < gi o v then W es v u else 0)) := ygp fun v _ => by
    split
    · exact Int.le_refl _
    · exact ybL fun u _ => by have := ycm hE v u; split <;> omega
  have h2 : sm n (fun v => sm n (fun u => if gi o u < gi o v then W es v u else 0)) = sm n (fun v => sm n (fun u => if gi o v < gi o u then W es v u else 0)) := by
    rw [sm_swap]
    exact yaR fun v _ => yaR fun u _ => by rw [yfB es u v]
  have h3 : sm n (fun v => sm n (fun u => if gi o u < gi o v then W es v u else 0)) + sm n (fun v => sm n (fun u => if gi o v < gi o u then W es v u else 0)) ≤ tot n es := by
    unfold tot
    rw [← ydB]
    refine ygp fun v _ => ?_
    rw [← ydB]
    refine ygp fun u _ => ?_
    have := ycm hE v u
    split <;> split <;> omega
  omega
variable {q : Nat} {o : List Int} (hD : Dist n es q o) (hc : ∀ v, v < n → 0 ≤ gi o v)
include hD hc
theorem Dist.lip {v u : Nat} (hv : v < n) (hu : u < n) (h : W es v u ≠ 0) : gi o u ≤ gi o v + 1 := by
  have h1 : 0 < W es v u := by have := ycm hE v u; omega
  exact (hD.step v hv (hc v hv) u ((W_adj hE).1 h1)).2
theorem near_in {k : Int} {v : Nat} (hv : v < n) (hk : gi o v < k) : 0 ≤ Lp n es (ind (ya4 o k)) v ∧ Lp n es (ind (ya4 o k)) v ≤ CC n es o k := by
  have hol := hD.len
  rw [Lp_ind_in (by rw [yeo (by omega)]; simpa using hk)]
  constructor
  · exact ybL fun u _ => by have := ycm hE v u; split <;> omega
  · refine ygp fun u hu => ?_
    rw [yeo (by omega)]
    by_cases h : gi o u = k
    · rw [if_neg (by simp; omega), if_pos h]
      have h2 := sm_ge (f := fun i => if gi o i < k then W es u i else 0) (n := n) (fun i _ => by have := ycm hE u i; show 0 ≤ ite _ _ _; split <;> omega) v hv
      simp only [if_pos hk] at h2
      rw [yfB es v u]; exact h2
    · rw [if_neg h]
      split
      · omega
      · rename_i h2
        simp only [decide_eq_true_eq] at h2
        by_cases h3 : W es v u = 0
        · omega
        · have := hD.lip hE hc hv hu h3; omega
theorem near_at {k : Int} {v : Nat} (hv : v < n) (hk : gi o v = k) : Lp n es (ind (ya4 o k)) v = - ya0 es (v : Int) (fun u => gb (ya4 o k) u.toNat) ∧ - CC n es o k ≤ Lp n es (ind (ya4 o k)) v := by
  have hol := hD.len
  have h1 := yfs (n := n) (es := es) (inn := ya4 o k) (v := v) (by rw [yeo (by omega)]; simp; omega)
  rw [yeD hE, h1]
  simp only [Int.toNat_natCast]
  refine ⟨trivial, ?_⟩
  have h2 := sm_ge (f := fun v => if gi o v = k then sm n (fun u => if gi o u < k then W es v u else 0) else 0) (n := n) (fun i _ => by
    show 0 ≤ ite _ _ _
    split
    · exact ybL fun u _ => by have := ycm hE i u; split <;> omega
    · omega) v hv
  simp only [if_pos hk] at h2
  have h3 : sm n (fun u => if gb (ya4 o k) u = true then W es v u else 0) = sm n (fun u => if gi o u < k then W es v u else 0) := yaR fun u hu => by
    rw [yeo (by omega)]
    simp only [decide_eq_true_eq]
  rw [h3]
  unfold CC
  omega
theorem near_out {k : Int} {v : Nat} (hv : v < n) (hk : k < gi o v) : Lp n es (ind (ya4 o k)) v = 0 := by
  have hol := hD.len
  rw [yfs (by rw [yeo (by omega)]; simp; omega)]
  have : sm n (fun u => if gb (ya4 o k) u = true then W es v u else 0) = sm n (fun _ => 0) := yaR fun u hu => by
    rw [yeo (by omega)]
    by_cases h : gi o u < k
    · rw [if_pos (by simpa using h)]
      by_cases h3 : W es v u = 0
      · exact h3
      · have := hD.lip hE hc hu hv (by rw [yfB]; exact h3); omega
    · rw [if_neg (by simpa using h)]
  rw [this, ycP]; rfl
end
section
variable {es : List E3} {o : List Int} {k : Int} {d : List Int}
theorem ceil_ge {a b : Int} (hb : 1 ≤ b) : a ≤ (a + b - 1).tdiv b * b ∨ a + b - 1 < 0 := by
  by_cases h : a + b - 1 < 0
  · exact .inr h
  · left
    rw [Int.tdiv_eq_ediv_of_nonneg (by omega)]
    have h1 := Int.emod_add_mul_ediv (a + b - 1) b
    have h2 := Int.emod_lt_of_pos (a + b - 1) (show 0 < b by omega)
    rw [Int.mul_comm b] at h1
    omega
theorem ceil_le {a b M : Int} (hb : 1 ≤ b) (ha : 1 ≤ a) (hM : a ≤ M) : (a + b - 1).tdiv b ≤ M ∧ 1 ≤ (a + b - 1).tdiv b := by
  rw [Int.tdiv_eq_ediv_of_nonneg (by omega)]
  constructor
  · apply Int.le_of_lt_add_one
    apply Int.ediv_lt_of_lt_mul (by omega)
    have : a ≤ M * b := by
      have := Int.mul_le_mul_of_nonneg_left hb (show 0 ≤ M by omega)
      omega
    rw [Int.add_mul]; omega
  · apply Int.le_ediv_of_mul_le (by omega); omega
theorem timesL_le {M : Int} (h0 : 0 ≤ M) : ∀ n, (∀ v, v < n → -gi d v ≤ M) → (∀ v, v < n → gi o v = k → 1 ≤ ya0 es (v : Int) (fun u => gb (ya4 o k) u.toNat)) → 0 ≤ ycw es o k d n ∧ ycw es o k d n ≤ M
  | 0, _, _ => by simp [ycw]; exact h0
  | n + 1, hd, hj => by
    have ih := timesL_le h0 n (fun v hv => hd v (by omega)) (fun v hv => hj v (by omega))
    rw [ycw]
    split
    · rename_i h
      have := ceil_le (hj n (by omega) h.1) (show 1 ≤ -gi d n by omega) (hd n (by omega))
      unfold mxF
      split <;> omega
    · exact ih
theorem timesL_ge : ∀ n, (∀ v, v < n → gi o v = k → 1 ≤ ya0 es (v : Int) (fun u => gb (ya4 o k) u.toNat)) → ∀ v, v < n → gi o v = k → gi d v < 0 →
    1 ≤ ycw es o k d n ∧ -gi d v ≤ ycw es o k d n * ya0 es (v : Int) (fun u => gb (ya4 o k) u.toNat)
  | n + 1, hj, v, hv, hk, hd => by
    rw [ycw]
    have mx : ∀ a b : Int, a ≤ mxF a b ∧ b ≤ mxF a b := fun a b => by unfold mxF; split <;> omega
    have hjv := hj v hv hk
    have up : ∀ {a b : Int}, a ≤ b → -gi d v ≤ a * ya0 es (v : Int) (fun u => gb (ya4 o k) u.toNat) → -gi d v ≤ b * ya0 es (v : Int) (fun u => gb (ya4 o k) u.toNat) := fun {a b} h h2 =>
      Int.le_trans h2 (Int.mul_le_mul_of_nonneg_right h (by omega))
    by_cases e : v = n
    · subst e
      rw [if_pos ⟨hk, hd⟩]
      have h1 := ceil_le (M := -gi d v) hjv (show 1 ≤ -gi d v by omega) (Int.le_refl _)
      have h2 := mx (ycw es o k d v) ((-gi d v + ya0 es (v : Int) (fun u => gb (ya4 o k) u.toNat) - 1).tdiv (ya0 es (v : Int) (fun u => gb (ya4 o k) u.toNat)))
      refine ⟨by omega, up h2.2 ?_⟩
      rcases ceil_ge (a := -gi d v) hjv with h | h
      · exact h
      · omega
    · have ih := timesL_ge n (fun v hv => hj v (by omega)) v (by omega) hk hd
      split
      · have h2 := mx (ycw es o k d n) ((-gi d n + ya0 es (n : Int) (fun u => gb (ya4 o k) u.toNat) - 1).tdiv (ya0 es (n : Int) (fun u => gb (ya4 o k) u.toNat)))
        exact ⟨by omega, up h2.1 ih.2⟩
      · exact ih
theorem yf7 : ∀ n, (∀ v, v < n → gi o v = k → 0 ≤ gi d v) → ycw es o k d n = 0
  | 0, _ => rfl
  | n + 1, h => by
    rw [ycw, if_neg (fun x => by have := h n (by omega) x.1; omega)]
    exact yf7 n fun v hv => h v (by omega)
end
end Go.Proofs.Ytdbpajnjhgocoaa

/- Lending: what holds before and behind each level. No program in sight. -/
namespace Go.Proofs.Ytdbpajnjhgocoaa
open Go Go.Proofs.Try
set_option linter.unusedVariables false
set_option linter.unusedSimpArgs false
set_option linter.unusedSectionVars false
structure GL (n : Nat) (es : List E3) (q : Nat) (D : Int) (d0 : List Int) (o : List Int) (k : Nat) (d s : List Int) (e : Int) : Prop where
  e0 : e = 0
  dl : d.length = n
  sl : s.length = n
  kn : k + 1 ≤ n
  lp : ∀ v, v < n → gi d v = gi d0 v - Lp n es (gi s) v
  bd : ∀ v, v < n → - (D * 2 ^ (FF n es o k).toNat) ≤ gi d v ∧ gi d v ≤ D * 2 ^ (FF n es o k).toNat
  pos : ∀ v, v < n → (k : Int) < gi o v → 0 ≤ gi d v
  s0 : ∀ v, v < n → 0 ≤ gi s v ∧ gi s v ≤ ((n : Int) - 1 - k) * (D * 512)
  sq : ∀ v, v < n → gi s v ≤ gi s q
  same : (∀ v, v < n → v ≠ q → 0 ≤ gi d0 v) → d = d0 ∧ ∀ v, v < n → gi s v = 0
theorem pow_bnd {D x : Int} (hD : 0 ≤ D) (hx : x ≤ 9) : D * 2 ^ x.toNat ≤ D * 512 := by
  refine Int.mul_le_mul_of_nonneg_left ?_ hD
  have : (2 : Nat) ^ x.toNat ≤ 2 ^ 9 := Nat.pow_le_pow_right (by omega) (by omega)
  have h2 : ((2 ^ x.toNat : Nat) : Int) ≤ ((2 ^ 9 : Nat) : Int) := by exact_mod_cast this
  have h3 : ((2 ^ x.toNat : Nat) : Int) = (2 : Int) ^ x.toNat := by push_cast; rfl
  rw [← h3]; exact h2
theorem pow_step {D x c T : Int} (hD : 0 ≤ D) (hx : 0 ≤ x) (hc : 0 ≤ c) (h0 : 0 ≤ T) (hT : T ≤ D * 2 ^ x.toNat) : D * 2 ^ x.toNat + T * c ≤ D * 2 ^ (x + c).toNat := by
  have e : (x + c).toNat = x.toNat + c.toNat := by omega
  rw [e, Int.pow_add, ← Int.mul_assoc]
  generalize hB : D * 2 ^ x.toNat = B at *
  have h1 : T * c ≤ B * c := Int.mul_le_mul_of_nonneg_right hT hc
  have h2 : (c : Int) + 1 ≤ 2 ^ c.toNat := by
    have : c.toNat < 2 ^ c.toNat := Nat.lt_two_pow_self
    have h3 : ((c.toNat : Nat) : Int) < ((2 ^ c.toNat : Nat) : Int) := by exact_mod_cast this
    have h4 : ((2 ^ c.toNat : Nat) : Int) = (2 : Int) ^ c.toNat := by push_cast; rfl
    rw [h4] at h3; omega
  have h5 : B * (c + 1) ≤ B * 2 ^ c.toNat := Int.mul_le_mul_of_nonneg_left h2 (by omega)
  rw [Int.mul_add] at h5
  omega
theorem mul_bnd {n k : Nat} {D : Int} (hD : 0 ≤ D) (hn : n ≤ 6) : ((n : Int) - 1 - k) * (D * 512) ≤ D * 2560 := by
  have : ((n : Int) - 1 - k) * (D * 512) ≤ 5 * (D * 512) := Int.mul_le_mul_of_nonneg_right (by omega) (by omega)
  omega
section
variable {n : Nat} {es : List E3} {q : Nat} {D : Int} {d0 : List Int} (hE : EOk n es) (hn : n ≤ 6) (hq : q < n) (ht : tot n es ≤ 18) (hD0 : 0 ≤ D) (hD1 : D ≤ 200) (hc : ∀ o, Dist n es q o → ∀ v, v < n → 0 ≤ gi o v)
  (hd0 : ∀ v, v < n → -D ≤ gi d0 v ∧ gi d0 v ≤ D) (hdl : d0.length = n)
include hE hn hq ht hD0 hD1 hc hd0 hdl
theorem GL.start (o : List Int) (hD : Dist n es q o) : GL n es q D d0 o (yfL o n).toNat d0 (List.replicate n 0) 0 := by
  have hm : ∃ j, j < o.length ∧ yfL o n = gi o j := maxTo_mem o n (by rw [hD.len]; omega) (by rw [hD.len]; omega)
  obtain ⟨j, hj, hmj⟩ := hm
  have hhi := hD.high j
  have h0 : 0 ≤ yfL o n := by
    have := maxTo_ge o n q hq
    rw [hD.q0] at this; omega
  have hs : ∀ v, gi (List.replicate n 0) v = 0 := fun v => by
    rcases Nat.lt_or_ge v n with h | h
    · rw [ybz (by simpa using h)]; simp
    · exact gi_ge (by simpa using h)
  have hF : 0 ≤ FF n es o (yfL o n).toNat := FF_nonneg hE o _
  have h1 : D * 1 ≤ D * 2 ^ (FF n es o (yfL o n).toNat).toNat := Int.mul_le_mul_of_nonneg_left (by
    have : (0 : Int) < 2 ^ (FF n es o (yfL o n).toNat).toNat := Int.pow_pos (by omega)
    omega) hD0
  refine ⟨rfl, hdl, by simp, by omega, fun v hv => ?_, fun v hv => ?_, fun v hv h => ?_, fun v hv => ?_, fun v hv => ?_, fun _ => ⟨rfl, fun v hv => hs v⟩⟩
  · rw [Lp_congr (b := fun _ => 0) (fun i _ => hs i) hv, Lp_const]; omega
  · have := hd0 v hv; omega
  · have := maxTo_ge o n v hv; omega
  · rw [hs]
    have : 0 ≤ ((n : Int) - 1 - (yfL o n).toNat) * (D * 512) := Int.mul_nonneg (by omega) (by omega)
    omega
  · rw [hs, hs]; exact Int.le_refl _
theorem GL.bnd {o : List Int} {k : Nat} {d s : List Int} {e : Int} (h : GL n es q D d0 o k d s e) : Bnd 102400 d ∧ Bnd 512000 s := by
  constructor
  · intro i
    by_cases hi : i < n
    · have h1 := h.bd i hi
      have h2 := FF_half hE o k
      have h3 := pow_bnd hD0 (show FF n es o k ≤ 9 by omega)
      omega
    · rw [yfG h.dl hi]; omega
  · intro i
    by_cases hi : i < n
    · have h1 := h.s0 i hi
      have h2 := mul_bnd (k := k) hD0 hn
      omega
    · rw [yfG h.sl hi]; omega
theorem GL.step {o : List Int} {k : Nat} {d s : List Int} (hD : Dist n es q o) (h : GL n es q D d0 o (k + 1) d s 0) :
    ycw es o ((k : Int) + 1) d n ≤ 2147483648 ∧
      (0 < ycw es o ((k : Int) + 1) d n → GL n es q D d0 o k (yep es (ya4 o ((k : Int) + 1)) (ycw es o ((k : Int) + 1) d n) d n) (ydn (ya4 o ((k : Int) + 1)) (ycw es o ((k : Int) + 1) d n) s n)
        (fireE (yep es (ya4 o ((k : Int) + 1)) (ycw es o ((k : Int) + 1) d n) d n) (ydn (ya4 o ((k : Int) + 1)) (ycw es o ((k : Int) + 1) d n) s n) 0 n)) ∧
      (¬ 0 < ycw es o ((k : Int) + 1) d n → GL n es q D d0 o k d s 0) := by
  have hb := h.bnd hE hn hq ht hD0 hD1 hc hd0 hdl
  obtain ⟨-, dl, sl, kn, lp, bd, pos, s0, sq, same⟩ := h
  have hcast : ((k + 1 : Nat) : Int) = (k : Int) + 1 := by omega
  rw [hcast] at bd pos s0
  have hF0 := FF_nonneg hE o ((k : Int) + 1)
  have hF1 := FF_half hE o ((k : Int) + 1)
  have hFk1 := FF_half hE o (k : Int)
  have hCC := CC_nonneg hE o ((k : Int) + 1)
  have hFk : FF n es o k = FF n es o ((k : Int) + 1) + CC n es o ((k : Int) + 1) := FF_step n es o k
  have hj : ∀ v, v < n → gi o v = (k : Int) + 1 → 1 ≤ ya0 es (v : Int) (fun u => gb (ya4 o ((k : Int) + 1)) u.toNat) := fun v hv hk => near_pos hD (fun x hx => (hE x hx).2.2.2.2.1) hv hk
  have hcc := hc o hD
  have hol := hD.len
  have hB0 : 0 ≤ D * 2 ^ (FF n es o ((k : Int) + 1)).toNat := Int.mul_nonneg hD0 (Int.le_of_lt (Int.pow_pos (by omega)))
  have hT := timesL_le (es := es) (o := o) (k := (k : Int) + 1) (d := d) hB0 n (fun v hv => by have := bd v hv; omega) hj
  have hBk := pow_bnd hD0 (show FF n es o ((k : Int) + 1) ≤ 9 by omega)
  have hTg := timesL_ge (es := es) (o := o) (k := (k : Int) + 1) (d := d) n hj
  have hTz := yf7 (es := es) (o := o) (k := (k : Int) + 1) (d := d) n
  have hst := pow_step hD0 hF0 hCC hT.1 hT.2
  rw [← hFk] at hst
  generalize ycw es o ((k : Int) + 1) d n = T at *
  generalize hC : CC n es o ((k : Int) + 1) = C at *
  generalize D * 2 ^ (FF n es o ((k : Int) + 1)).toNat = B at *
  have hBk' : D * 2 ^ (FF n es o (k : Int)).toNat ≤ D * 512 := pow_bnd hD0 (by omega)
  generalize hBB : D * 2 ^ (FF n es o (k : Int)).toNat = B' at *
  have hTC : 0 ≤ T * C := Int.mul_nonneg hT.1 hCC
  have hsm : ((n : Int) - 1 - ((k : Int) + 1)) * (D * 512) + D * 512 = ((n : Int) - 1 - k) * (D * 512) := by
    have : (n : Int) - 1 - k = ((n : Int) - 1 - ((k : Int) + 1)) + 1 := by omega
    rw [this, Int.add_mul, Int.one_mul]
  refine ⟨by omega, fun hpos => ?_, fun hz => ?_⟩
  · have hfd : ∀ v, v < n → gi (yep es (ya4 o ((k : Int) + 1)) T d n) v = gi d v - T * Lp n es (ind (ya4 o ((k : Int) + 1))) v := fun v hv => fire_lp hE _ T d dl hv
    have hfs : ∀ v, v < n → gi (ydn (ya4 o ((k : Int) + 1)) T s n) v = gi s v + T * ind (ya4 o ((k : Int) + 1)) v := fun v hv => ygn sl hv
    have hdl' : (yep es (ya4 o ((k : Int) + 1)) T d n).length = n := by rw [yc2, dl]
    have hsl' : (ydn (ya4 o ((k : Int) + 1)) T s n).length = n := by rw [yc6, sl]
    have hind : ∀ v, 0 ≤ T * ind (ya4 o ((k : Int) + 1)) v ∧ T * ind (ya4 o ((k : Int) + 1)) v ≤ T := fun v => by unfold ind; split <;> omega
    have hbd : ∀ v, v < n → -B' ≤ gi d v - T * Lp n es (ind (ya4 o ((k : Int) + 1))) v ∧ gi d v - T * Lp n es (ind (ya4 o ((k : Int) + 1))) v ≤ B' := fun v hv => by
      have b := bd v hv
      have mulb : ∀ x : Int, x ≤ C → T * x ≤ T * C := fun x hx => Int.mul_le_mul_of_nonneg_left hx hT.1
      rcases Int.lt_trichotomy (gi o v) ((k : Int) + 1) with h | h | h
      · have h1 := near_in hE hD hcc hv h
        rw [hC] at h1
        have h2 := mulb _ h1.2
        have h3 := Int.mul_nonneg hT.1 h1.1
        omega
      · have h1 := near_at hE hD hcc hv h
        have h4 := yeD hE v (fun u => gb (ya4 o ((k : Int) + 1)) u.toNat)
        have h5 : 1 ≤ ya0 es (v : Int) (fun u => gb (ya4 o ((k : Int) + 1)) u.toNat) := hj v hv h
        rw [hC] at h1
        have h2 := mulb (- Lp n es (ind (ya4 o ((k : Int) + 1))) v) (by omega)
        have h3 := Int.mul_nonneg hT.1 (show 0 ≤ - Lp n es (ind (ya4 o ((k : Int) + 1))) v by omega)
        rw [Int.mul_neg] at h2 h3
        omega
      · have h1 := near_out hE hD hcc hv h
        rw [h1]; omega
    have hsb : ∀ v, v < n → 0 ≤ gi s v + T * ind (ya4 o ((k : Int) + 1)) v ∧ gi s v + T * ind (ya4 o ((k : Int) + 1)) v ≤ ((n : Int) - 1 - k) * (D * 512) := fun v hv => by
      have h1 := s0 v hv
      have h2 := hind v
      omega
    have hbig : ((n : Int) - 1 - k) * (D * 512) ≤ D * 2560 := mul_bnd hD0 hn
    refine ⟨fireE_ok (fun j => ?_) (fun j => ?_) 0 n, hdl', hsl', by omega, fun v hv => ?_, fun v hv => ?_, fun v hv hk => ?_, fun v hv => ?_, fun v hv => ?_, fun hs => ?_⟩
    · by_cases hjn : j < n
      · rw [hfd j hjn]
        have h1 := bd j hjn
        have h2 : -1 * (T * C) ≤ 0 := by omega
        have h3 : T * C ≤ B' := by omega
        have h4 := hbd j hjn
        omega
      · rw [yfG hdl' hjn]; omega
    · by_cases hjn : j < n
      · rw [hfs j hjn]
        have := hsb j hjn
        omega
      · rw [yfG hsl' hjn]; omega
    · rw [hfd v hv, Lp_fireS sl hv, lp v hv]; omega
    · rw [hfd v hv, hBB]
      exact hbd v hv
    · rw [hfd v hv]
      by_cases h : gi o v = (k : Int) + 1
      · have h1 := near_at hE hD hcc hv h
        rw [h1.1, Int.mul_neg]
        have h2 := hj v hv h
        by_cases hneg : gi d v < 0
        · have := (hTg v hv h hneg).2; omega
        · have := Int.mul_nonneg hT.1 (show 0 ≤ ya0 es (v : Int) (fun u => gb (ya4 o ((k : Int) + 1)) u.toNat) by omega)
          omega
      · rw [near_out hE hD hcc hv (by omega)]
        have := pos v hv (by omega)
        omega
    · rw [hfs v hv]; exact hsb v hv
    · rw [hfs v hv, hfs q hq]
      have h1 : ind (ya4 o ((k : Int) + 1)) q = 1 := by
        unfold ind
        rw [if_pos]
        rw [yeo (by omega), hD.q0]; simp <;> omega
      have h2 := hind v
      have h3 := sq v hv
      rw [h1]; omega
    · exfalso
      obtain ⟨rfl, hs2⟩ := same hs
      have := hTz (fun v hv hk => hs v hv (fun e => by subst e; rw [hD.q0] at hk; omega))
      omega
  · have hT0 : T = 0 := by omega
    subst hT0
    refine ⟨rfl, dl, sl, by omega, lp, fun v hv => by have := bd v hv; rw [hBB]; omega, fun v hv hk => ?_, fun v hv => ?_, sq, same⟩
    · by_cases h : gi o v = (k : Int) + 1
      · apply Int.not_lt.1
        intro hneg
        have := (hTg v hv h hneg).1
        omega
      · exact pos v hv (by omega)
    · have := s0 v hv; omega
end
end Go.Proofs.Ytdbpajnjhgocoaa

/- Settling: what holds before and behind each firing; reduced divisors and that they are alone. No program in sight. -/
namespace Go.Proofs.Ytdbpajnjhgocoaa
open Go Go.Proofs.Try
set_option linter.unusedVariables false
set_option linter.unusedSectionVars false
def Conn (n : Nat) (es : List E3) (q : Nat) : Prop := ∀ S : Nat → Bool, S q = false → (∃ v, v < n ∧ S v = true) → ∃ v u, v < n ∧ u < n ∧ S v = true ∧ S u = false ∧ 0 < W es v u
structure Red (n : Nat) (es : List E3) (q : Nat) (d : List Int) : Prop where
  pos : ∀ v, v < n → v ≠ q → 0 ≤ gi d v
  no : ∀ S : Nat → Bool, S q = false → (∃ v, v < n ∧ S v = true) → ∃ v, v < n ∧ S v = true ∧ gi d v < sm n (fun u => if S u then 0 else W es v u)
theorem yfa (c : Int) : ∀ n : Nat, sm n (fun _ => c) = n * c
  | 0 => by simp [sm]
  | n + 1 => by
    rw [sm, yfa c n]
    have : ((n + 1 : Nat) : Int) = (n : Int) + 1 := by omega
    rw [this, Int.add_mul]; omega
theorem sm_split {f : Nat → Int} {n q : Nat} (hq : q < n) : sm n f = f q + sm n (fun v => if v = q then 0 else f v) := by
  have h1 := ygl (f q) hq
  rw [← h1, ← ydB]
  exact yaR fun i _ => by
    show f i = ite _ _ _ + ite _ _ _
    split
    · subst_vars; omega
    · omega
def low (n : Nat) (f : Nat → Int) (c : Int) : Int := sm n (fun x => if f x < c then 1 else 0)
theorem climb {n : Nat} {es : List E3} {q : Nat} (hE : EOk n es) (hC : Conn n es q) (hq : q < n) {f : Nat → Int} {G : Int} (hG0 : 0 ≤ G) (hG : ∀ S : Nat → Bool, S q = false → sm n (fun v => if S v then Lp n es f v else 0) ≤ G) :
    ∀ v, v < n → f v - f q ≤ low n f (f v) * G := by
  suffices H : ∀ (k : Nat) v, v < n → low n f (f v) ≤ k → f v - f q ≤ low n f (f v) * G from fun v hv => H (low n f (f v)).toNat v hv (by omega)
  have lown : ∀ c, 0 ≤ low n f c := fun c => ybL fun x _ => by show 0 ≤ ite _ _ _; split <;> omega
  have step : ∀ v, v < n → f q < f v → ∃ u, u < n ∧ f u < f v ∧ f v - f u ≤ G ∧ low n f (f u) + 1 ≤ low n f (f v) := by
    intro v hv hlt
    have hS0 : (fun x => decide (f v ≤ f x)) q = false := by simp; omega
    obtain ⟨x, u, hx, hu, hSx, hSu, hW⟩ := hC (fun x => decide (f v ≤ f x)) hS0 ⟨v, hv, by simp⟩
    simp only [decide_eq_true_eq, decide_eq_false_iff_not] at hSx hSu
    have h1 := hG (fun x => decide (f v ≤ f x)) hS0
    rw [Lp_cut] at h1
    have nn : ∀ a b, 0 ≤ (if (decide (f v ≤ f a) && !decide (f v ≤ f b)) = true then W es a b * (f a - f b) else 0) := fun a b => by
      split
      · rename_i h
        simp only [Bool.and_eq_true, decide_eq_true_eq, Bool.not_eq_true', decide_eq_false_iff_not] at h
        exact Int.mul_nonneg (ycm hE a b) (by omega)
      · omega
    have h2 := sm_ge (n := n) (f := fun a => sm n (fun b => if (decide (f v ≤ f a) && !decide (f v ≤ f b)) = true then W es a b * (f a - f b) else 0)) (fun a _ => ybL fun b _ => nn a b) x hx
    have h3 := sm_ge (n := n) (f := fun b => if (decide (f v ≤ f x) && !decide (f v ≤ f b)) = true then W es x b * (f x - f b) else 0) (fun b _ => nn x b) u hu
    have h4 : (decide (f v ≤ f x) && !decide (f v ≤ f u)) = true := by
      simp only [Bool.and_eq_true, decide_eq_true_eq, Bool.not_eq_true', decide_eq_false_iff_not]; omega
    simp only [h4, if_true] at h3
    have h5 : 1 * (f x - f u) ≤ W es x u * (f x - f u) := Int.mul_le_mul_of_nonneg_right (by omega) (by omega)
    have h6 : f x - f u ≤ G := by
      have h2' : sm n (fun b => if (decide (f v ≤ f x) && !decide (f v ≤ f b)) = true then W es x b * (f x - f b) else 0) ≤ sm n (fun a => sm n (fun b => if (decide (f v ≤ f a) && !decide (f v ≤ f b)) = true then W es a b * (f a - f b) else 0)) := h2
      omega
    refine ⟨u, hu, by omega, by omega, ?_⟩
    unfold low
    have h7 := ygl 1 hu
    rw [← h7, ← ydB]
    refine ygp fun i _ => ?_
    show ite _ _ _ + ite _ _ _ ≤ ite _ _ _
    by_cases e : i = u
    · subst e; rw [if_neg (by omega), if_pos rfl, if_pos (by omega)]; omega
    · rw [if_neg e]; split <;> split <;> omega
  intro k
  induction k with
  | zero =>
    intro v hv hk
    by_cases h : f q < f v
    · obtain ⟨u, hu, h1, h2, h3⟩ := step v hv h
      have := lown (f u); omega
    · have := Int.mul_nonneg (lown (f v)) hG0; omega
  | succ k ih =>
    intro v hv hk
    by_cases h : f q < f v
    · obtain ⟨u, hu, h1, h2, h3⟩ := step v hv h
      have h4 := ih u hu (by omega)
      have h5 : (low n f (f u) + 1) * G ≤ low n f (f v) * G := Int.mul_le_mul_of_nonneg_right h3 hG0
      rw [Int.add_mul] at h5; omega
    · have := Int.mul_nonneg (lown (f v)) hG0; omega
theorem low_le {n : Nat} {f : Nat → Int} {v : Nat} (hv : v < n) : low n f (f v) ≤ (n : Int) - 1 := by
  have h7 := ygl 1 hv
  have h1 : low n f (f v) + sm n (fun i => if i = v then 1 else 0) ≤ sm n (fun _ => 1) := by
    unfold low
    rw [← ydB]
    refine ygp fun i _ => ?_
    show (if f i < f v then (1 : Int) else 0) + (if i = v then (1 : Int) else 0) ≤ 1
    by_cases e : i = v
    · subst e; rw [if_neg (by omega), if_pos rfl]; omega
    · rw [if_neg e]; split <;> omega
  rw [h7] at h1
  rw [yfa] at h1; omega
end Go.Proofs.Ytdbpajnjhgocoaa

/- Settling: each firing keeps the bounds and comes nearer to the end. No program in sight. -/
namespace Go.Proofs.Ytdbpajnjhgocoaa
open Go Go.Proofs.Try
set_option linter.unusedVariables false
set_option linter.unusedSectionVars false
structure GS0 (n : Nat) (es : List E3) (q : Nat) (D : Int) (d0 d s : List Int) : Prop where
  dl : d.length = n
  sl : s.length = n
  lp : ∀ v, v < n → gi d v = gi d0 v - Lp n es (gi s) v
  pos : ∀ v, v < n → v ≠ q → 0 ≤ gi d v
  off : sm n (fun v => if v = q then 0 else gi d v) ≤ D * 2560
  s0 : ∀ v, v < n → 0 ≤ gi s v
  sq : gi s q ≤ D * 2560
def left' (D : Int) (n : Nat) (s : List Int) : Int := sm n (fun v => D * 2600 - gi s v)
def GS (n : Nat) (es : List E3) (q : Nat) (D : Int) (d0 : List Int) (m : Nat) (d s : List Int) (e : Int) : Prop := e = 0 ∧ GS0 n es q D d0 d s ∧ m = (left' D n s).toNat
theorem timesS_all {es : List E3} {left : List Bool} {d : List Int} {M : Int} (hM : 0 ≤ M) : ∀ n, (∀ v, v < n → gi d v ≤ M ∨ gb left v = false) → (∀ v, v < n → gb left v = true → ya0 es (v : Int) (fun u => !gb left u.toNat) ≤ gi d v ∧ 0 ≤ ya0 es (v : Int) (fun u => !gb left u.toNat)) →
    0 ≤ ycs es left d n ∧ ycs es left d n ≤ M ∧ ∀ v, v < n → gb left v = true → 0 < ya0 es (v : Int) (fun u => !gb left u.toNat) → 1 ≤ ycs es left d n ∧ ycs es left d n * ya0 es (v : Int) (fun u => !gb left u.toNat) ≤ gi d v
  | 0, _, _ => by simp [ycs]; exact hM
  | n + 1, hd, hj => by
    obtain ⟨i1, i2, i3⟩ := timesS_all hM n (fun v hv => hd v (by omega)) (fun v hv => hj v (by omega))
    rw [ycs]
    by_cases hc : gb left n = true ∧ 0 < ya0 es (n : Int) (fun u => !gb left u.toNat)
    · rw [if_pos hc]
      have h1 := hj n (by omega) hc.1
      have hdM : gi d n ≤ M := by
        rcases hd n (by omega) with h | h
        · exact h
        · rw [hc.1] at h; cases h
      have hJ := hc.2
      have hq1 : (gi d n).tdiv (ya0 es (n : Int) (fun u => !gb left u.toNat)) * ya0 es (n : Int) (fun u => !gb left u.toNat) ≤ gi d n := by
        rw [Int.tdiv_eq_ediv_of_nonneg (by omega)]
        exact Int.ediv_mul_le _ (by omega)
      have hq2 : 1 ≤ (gi d n).tdiv (ya0 es (n : Int) (fun u => !gb left u.toNat)) := by
        rw [Int.tdiv_eq_ediv_of_nonneg (by omega)]
        exact Int.le_ediv_of_mul_le hJ (by omega)
      have hq3 : (gi d n).tdiv (ya0 es (n : Int) (fun u => !gb left u.toNat)) ≤ M := by
        have := Int.mul_le_mul_of_nonneg_left (show 1 ≤ ya0 es (n : Int) (fun u => !gb left u.toNat) by omega) (show 0 ≤ (gi d n).tdiv (ya0 es (n : Int) (fun u => !gb left u.toNat)) by omega)
        omega
      generalize hX : (gi d n).tdiv (ya0 es (n : Int) (fun u => !gb left u.toNat)) = X at *
      by_cases hc2 : ycs es left d n = 0 ∨ X < ycs es left d n
      · rw [if_pos hc2]
        refine ⟨by omega, hq3, fun v hv hl hp => ?_⟩
        by_cases e : v = n
        · subst e; exact ⟨hq2, hq1⟩
        · obtain ⟨j1, j2⟩ := i3 v (by omega) hl hp
          refine ⟨hq2, ?_⟩
          have := Int.mul_le_mul_of_nonneg_right (show X ≤ ycs es left d n by omega) (Int.le_of_lt hp)
          omega
      · rw [if_neg hc2]
        refine ⟨i1, i2, fun v hv hl hp => ?_⟩
        by_cases e : v = n
        · subst e
          refine ⟨by omega, ?_⟩
          have := Int.mul_le_mul_of_nonneg_right (show ycs es left d v ≤ X by omega) (Int.le_of_lt hp)
          omega
        · exact i3 v (by omega) hl hp
    · rw [if_neg hc]
      refine ⟨i1, i2, fun v hv hl hp => ?_⟩
      by_cases e : v = n
      · subst e; exact absurd ⟨hl, hp⟩ hc
      · exact i3 v (by omega) hl hp
theorem gb_left {burnt : List Bool} {n v : Nat} (hl : burnt.length = n) (hv : v < n) : gb (leftOf burnt) v = !gb burnt v := by
  rw [ydw (by simpa [leftOf] using (by omega : v < burnt.length)), ydw (by omega)]
  simp [leftOf]
section
variable {n : Nat} {es : List E3} {q : Nat} {D : Int} {d0 : List Int} (hE : EOk n es) (hn : n ≤ 6) (hq : q < n) (hD0 : 0 ≤ D) (hD1 : D ≤ 200) (hC : Conn n es q)
  (hd0 : ∀ v, v < n → -D ≤ gi d0 v ∧ gi d0 v ≤ D)
include hE hn hq hD0 hD1 hC hd0
theorem GS0.bnd {d s : List Int} (h : GS0 n es q D d0 d s) : (∀ v, v < n → gi s v ≤ gi s q + D * 30) ∧ (∀ v, v < n → -(D * 2566) ≤ gi d v ∧ gi d v ≤ D * 2566) ∧ 0 ≤ gi s q := by
  refine ⟨fun v hv => ?_, ?_, h.s0 q hq⟩
  · have hnD : sm n (fun _ => D) ≤ 6 * D := by
      rw [yfa]
      exact Int.mul_le_mul_of_nonneg_right (by omega) hD0
    have h1 := climb hE hC hq (f := gi s) (G := 6 * D) (by omega) (fun S hS => by
      refine Int.le_trans (ygp fun v hv => ?_) hnD
      show ite _ _ _ ≤ D
      split
      · rename_i hSv
        have h1 := h.lp v hv
        have h2 := h.pos v hv (fun e => by subst e; rw [hS] at hSv; cases hSv)
        have h3 := hd0 v hv
        omega
      · exact hD0) v hv
    have h2 := low_le (f := gi s) hv
    have h3 := Int.mul_le_mul_of_nonneg_right (show low n (gi s) (gi s v) ≤ 5 by omega) (show 0 ≤ 6 * D by omega)
    omega
  · have hoff0 : ∀ v, v < n → 0 ≤ (if v = q then 0 else gi d v) := fun v hv => by
      split
      · omega
      · rename_i e; exact h.pos v hv e
    have hoffn := ybL hoff0
    have hoffs := h.off
    have htot : sm n (gi d) = sm n (gi d0) := by
      have h1 := Lp_total (n := n) (es := es) (gi s)
      have h2 : sm n (gi d) = sm n (gi d0) - sm n (fun v => Lp n es (gi s) v) := by
        rw [← sm_sub]
        exact yaR fun i hi => h.lp i hi
      omega
    have h6 : sm n (gi d0) ≤ 6 * D ∧ -(6 * D) ≤ sm n (gi d0) := by
      constructor
      · refine Int.le_trans (ygp fun v hv => (hd0 v hv).2) ?_
        rw [yfa]; exact Int.mul_le_mul_of_nonneg_right (by omega) hD0
      · have h7 : sm n (fun _ => -D) ≤ sm n (gi d0) := ygp fun v hv => (hd0 v hv).1
        rw [yfa] at h7
        have h8 : (n : Int) * D ≤ 6 * D := Int.mul_le_mul_of_nonneg_right (by omega) hD0
        rw [Int.mul_neg] at h7
        omega
    have hsp := sm_split (f := gi d) hq
    intro v hv
    by_cases e : v = q
    · subst e; omega
    · have h8 := sm_ge hoff0 v hv
      rw [if_neg e] at h8
      have h9 := h.pos v hv e
      omega
theorem GS.bnd {m : Nat} {d s : List Int} {e : Int} (h : GS n es q D d0 m d s e) : Bnd 600000 d ∧ Bnd 600000 s := by
  obtain ⟨-, h0, -⟩ := h
  obtain ⟨b1, b2, b3⟩ := h0.bnd hE hn hq hD0 hD1 hC hd0
  have hsq := h0.sq
  constructor
  · intro i
    by_cases hi : i < n
    · have := b2 i hi; omega
    · rw [yfG h0.dl hi]; omega
  · intro i
    by_cases hi : i < n
    · have := b1 i hi; have := h0.s0 i hi; omega
    · rw [yfG h0.sl hi]; omega
theorem GS.step {m : Nat} {d s : List Int} {burnt : List Bool} (h : GS n es q D d0 m d s 0) (hB : Burns n es q d burnt) (hany : (leftOf burnt).any id = true) :
    0 ≤ ycs es (leftOf burnt) d n ∧ ycs es (leftOf burnt) d n ≤ 2147483648 ∧ (∀ v, v < n → gb (leftOf burnt) v = true → 0 ≤ gi d v) ∧
      ∃ m', m' < m ∧ GS n es q D d0 m' (yep es (leftOf burnt) (ycs es (leftOf burnt) d n) d n) (ydn (leftOf burnt) (ycs es (leftOf burnt) d n) s n)
        (fireE (yep es (leftOf burnt) (ycs es (leftOf burnt) d n) d n) (ydn (leftOf burnt) (ycs es (leftOf burnt) d n) s n) 0 n) := by
  have hb := h.bnd hE hn hq hD0 hD1 hC hd0
  obtain ⟨-, h0, hm⟩ := h
  have hLq : gb (leftOf burnt) q = false := by rw [gb_left hB.len hq, hB.at_q]; rfl
  have hnq : ∀ v, gb (leftOf burnt) v = true → v ≠ q := fun v hv e => by subst e; rw [hLq] at hv; cases hv
  have hjl : ∀ v : Nat, ya0 es (v : Int) (fun u => !gb (leftOf burnt) u.toNat) = sm n (fun u => if gb (leftOf burnt) u = true then 0 else W es v u) := fun v => by
    rw [yeD hE]
    exact yaR fun u hu => by
      simp only [Int.toNat_natCast]
      by_cases hs : gb (leftOf burnt) u = true
      · simp [hs]
      · simp [hs]
  have hj0 : ∀ v : Nat, 0 ≤ ya0 es (v : Int) (fun u => !gb (leftOf burnt) u.toNat) := fun v => by
    rw [hjl]
    exact ybL fun u _ => by have := ycm hE v u; split <;> omega
  have hjd : ∀ v, v < n → gb (leftOf burnt) v = true → ya0 es (v : Int) (fun u => !gb (leftOf burnt) u.toNat) ≤ gi d v := fun v hv hl => by
    have h1 := hB.closed v hv (by rw [gb_left hB.len hv] at hl; simpa using hl)
    rw [yeD hE] at h1 ⊢
    refine Int.le_trans (Int.le_of_eq (yaR fun u hu => ?_)) h1
    simp only [Int.toNat_natCast, gb_left hB.len hu, Bool.not_not]
  obtain ⟨t0, t1, t2⟩ := timesS_all (es := es) (left := leftOf burnt) (d := d) (M := 600000) (by omega) n (fun v hv => .inl (hb.1 v).2) (fun v hv hl => ⟨hjd v hv hl, hj0 v⟩)
  -- a way out
  have hex : ∃ v, v < n ∧ gb (leftOf burnt) v = true := by
    obtain ⟨x, hx, hxt⟩ := List.any_eq_true.1 hany
    obtain ⟨i, hi, hxi⟩ := List.mem_iff_getElem.1 hx
    refine ⟨i, by simpa [leftOf, hB.len] using hi, ?_⟩
    rw [ydw hi, hxi]; simpa using hxt
  obtain ⟨v, u, hv, hu, hSv, hSu, hW⟩ := hC (gb (leftOf burnt)) hLq hex
  have hjv : 0 < ya0 es (v : Int) (fun u => !gb (leftOf burnt) u.toNat) := by
    rw [hjl]
    have := sm_ge (n := n) (f := fun u => if gb (leftOf burnt) u = true then 0 else W es v u) (fun u _ => by have := ycm hE v u; show 0 ≤ ite _ _ _; split <;> omega) u hu
    simp only [hSu, Bool.false_eq_true, if_false] at this
    omega
  have hT1 := (t2 v hv hSv hjv).1
  clear hex
  refine ⟨t0, by omega, fun v hv hl => h0.pos v hv (hnq v hl), ?_⟩
  generalize ycs es (leftOf burnt) d n = T at *
  have hfd : ∀ v, v < n → gi (yep es (leftOf burnt) T d n) v = gi d v - T * Lp n es (ind (leftOf burnt)) v := fun v hv => fire_lp hE _ T d h0.dl hv
  have hfs : ∀ v, v < n → gi (ydn (leftOf burnt) T s n) v = gi s v + T * ind (leftOf burnt) v := fun v hv => ygn h0.sl hv
  have hind : ∀ v, 0 ≤ T * ind (leftOf burnt) v := fun v => by unfold ind; split <;> omega
  have hq0 : ind (leftOf burnt) q = 0 := by unfold ind; rw [hLq]; rfl
  have hout : ∀ v, ¬ gb (leftOf burnt) v = true → Lp n es (ind (leftOf burnt)) v ≤ 0 := fun v hl => by
    rw [yfs hl]
    have := ybL (n := n) (f := fun u => if gb (leftOf burnt) u = true then W es v u else 0) (fun u _ => by have := ycm hE v u; show 0 ≤ ite _ _ _; split <;> omega)
    omega
  have hG : GS0 n es q D d0 (yep es (leftOf burnt) T d n) (ydn (leftOf burnt) T s n) := by
    refine ⟨by rw [yc2, h0.dl], by rw [yc6, h0.sl], fun v hv => ?_, fun v hv hvq => ?_, ?_, fun v hv => ?_, ?_⟩
    · rw [hfd v hv, Lp_fireS h0.sl hv, h0.lp v hv]; omega
    · rw [hfd v hv]
      have hp := h0.pos v hv hvq
      by_cases hl : gb (leftOf burnt) v = true
      · rw [Lp_ind_in hl, ← hjl]
        by_cases hz : 0 < ya0 es (v : Int) (fun u => !gb (leftOf burnt) u.toNat)
        · have := (t2 v hv hl hz).2; omega
        · have h1 := hj0 v
          rw [show ya0 es (v : Int) (fun u => !gb (leftOf burnt) u.toNat) = 0 by omega]; omega
      · have h1 := hout v hl
        have h2 := Int.mul_nonneg t0 (show 0 ≤ - Lp n es (ind (leftOf burnt)) v by omega)
        rw [Int.mul_neg] at h2; omega
    · have h1 : sm n (fun v => if v = q then 0 else gi (yep es (leftOf burnt) T d n) v) = sm n (fun v => if v = q then 0 else gi d v) - T * sm n (fun v => if v = q then 0 else Lp n es (ind (leftOf burnt)) v) := by
        rw [← sm_mul, ← sm_sub]
        refine yaR fun v hv => ?_
        show ite _ _ _ = ite _ _ _ - T * ite _ _ _
        split
        · omega
        · exact hfd v hv
      have h2 := sm_split (f := Lp n es (ind (leftOf burnt))) hq
      have h3 : sm n (Lp n es (ind (leftOf burnt))) = 0 := Lp_total (n := n) (es := es) (ind (leftOf burnt))
      have h4 := hout q (by rw [hLq]; simp)
      have h5 := Int.mul_nonneg t0 (show 0 ≤ sm n (fun v => if v = q then 0 else Lp n es (ind (leftOf burnt)) v) by omega)
      have := h0.off
      omega
    · rw [hfs v hv]; have := h0.s0 v hv; have := hind v; omega
    · rw [hfs q hq, hq0]; have := h0.sq; omega
  obtain ⟨b1, b2, b3⟩ := hG.bnd hE hn hq hD0 hD1 hC hd0
  have hsq := hG.sq
  refine ⟨_, ?_, fireE_ok (fun j => ?_) (fun j => ?_) 0 n, hG, rfl⟩
  · rw [hm]
    have h1 : 0 ≤ left' D n (ydn (leftOf burnt) T s n) := ybL fun v hv => by
      show 0 ≤ D * 2600 - gi (ydn (leftOf burnt) T s n) v
      have := b1 v hv; omega
    have h2 : left' D n (ydn (leftOf burnt) T s n) + 1 ≤ left' D n s := by
      unfold left'
      have h3 : sm n (fun v => D * 2600 - gi (ydn (leftOf burnt) T s n) v) = sm n (fun v => D * 2600 - gi s v) - sm n (fun v => T * ind (leftOf burnt) v) := by
        rw [← sm_sub]
        refine yaR fun v hv => ?_
        show D * 2600 - gi (ydn (leftOf burnt) T s n) v = _ - _
        rw [hfs v hv]; omega
      have h4 := sm_ge (n := n) (f := fun v => T * ind (leftOf burnt) v) (fun v _ => hind v) v hv
      have h5 : ind (leftOf burnt) v = 1 := by unfold ind; rw [if_pos hSv]
      simp only [h5] at h4
      omega
    omega
  · by_cases hj : j < n
    · have := b2 j hj; omega
    · rw [yfG hG.dl hj]; omega
  · by_cases hj : j < n
    · have := b1 j hj; have := hG.s0 j hj; omega
    · rw [yfG hG.sl hj]; omega
end
end Go.Proofs.Ytdbpajnjhgocoaa

/- The walks of package connect's forests, up to Connected. -/
namespace Go.Proofs.Ytdbpajnjhgocoaa
open Go.RowKit Go.Maps Go.Proofs.Try
set_option maxRecDepth 100000
set_option maxHeartbeats 400000
end Go.Proofs.Ytdbpajnjhgocoaa

/- The walk of the parts of a forest: slices of slices that grow. -/
namespace Go.Proofs.Ytdbpajnjhgocoaa
open Go.RowKit Go.Maps Go.Proofs.Try
set_option maxRecDepth 100000
set_option maxHeartbeats 400000
theorem nroots_mono (F : List Nat) {a b : Nat} (h : a ≤ b) : ybY F a ≤ ybY F b := by
  induction b with
  | zero => obtain rfl : a = 0 := by omega
            exact Nat.le_refl _
  | succ b ih =>
    rcases Nat.lt_or_ge a (b + 1) with h1 | h1
    · rw [ybY]; have := ih (by omega); omega
    · obtain rfl : a = b + 1 := by omega
      exact Nat.le_refl _
theorem nroots_lt (F : List Nat) {r k : Nat} (h : r < k) (hr : root F r = r) : ybY F r < ybY F k := by
  have := nroots_mono F (show r + 1 ≤ k from h)
  rw [ybY, if_pos hr] at this
  omega
def Slots (w : World) (B : Nat) (vals : List Value) (rows : List (List Nat)) : Prop :=
  vals.length = rows.length ∧ (∀ (i : Nat) (v : Value) (r : List Nat), vals[i]? = some v → rows[i]? = some r → w.ownsRow B 3 1 v r.length (nvals r)) ∧
    ∀ (i j : Nat) (v u : Value), i ≠ j → vals[i]? = some v → vals[j]? = some u → v.ownBlock = none ∨ v.ownBlock ≠ u.ownBlock
theorem Slots.nil (w : World) (B : Nat) : Slots w B [] [] := ⟨rfl, by simp, by simp⟩
end Go.Proofs.Ytdbpajnjhgocoaa

/- The walks of connect.Components and connect.Connected. -/
namespace Go.Proofs.Ytdbpajnjhgocoaa
open Go.RowKit Go.Maps Go.Proofs.Try
set_option maxRecDepth 100000
set_option maxHeartbeats 400000
def yhE (n : Int) (es : List E3) : Bool := ybY (ya1 es) n.toNat == 1
end Go.Proofs.Ytdbpajnjhgocoaa

/- A right graph's edges; its forest of parts against ways out of sets. No program in sight. -/
namespace Go.Proofs.Ytdbpajnjhgocoaa
open Go Go.Proofs.Try
set_option linter.unusedVariables false
set_option linter.unusedSectionVars false
theorem gchk_ok {n : Int} : ∀ (es : List E3) (a b : Int), gchk n a b es = 0 → ∀ x ∈ es, 0 ≤ x.1 ∧ x.1 < n ∧ 0 ≤ x.2.1 ∧ x.2.1 < n ∧ 1 ≤ x.2.2 ∧ x.2.2 ≤ 50
  | [], _, _, _ => by simp
  | x :: t, a, b, h => by
    rw [gchk] at h
    split at h
    · rename_i c
      split at h
      · intro y hy
        rcases List.mem_cons.1 hy with rfl | hy
        · omega
        · exact gchk_ok t _ _ h y hy
      · omega
    · omega
theorem ygo {n : Nat} {es : List E3} (h : ycO n es = 0) : EOk n es ∧ 1 ≤ n ∧ n ≤ 12 := by
  unfold ycO at h
  split at h
  · rename_i c
    exact ⟨gchk_ok es _ _ h, by omega, by omega⟩
  · omega
theorem root_side {n : Nat} {S : Nat → Bool} : ∀ (es : List E3), ye9 es → (∀ x ∈ es, S x.1.toNat = S x.2.1.toNat) → ∀ v, v < 12 → S (root (ya1 es) v) = S v := by
  suffices H : ∀ (l : List E3) (F : List Nat), ye9 l → (∀ x ∈ l, S x.1.toNat = S x.2.1.toNat) → ycK F → (∀ v, v < 12 → S (root F v) = S v) → ∀ v, v < 12 → S (root (l.foldl (fun F x => yc3 F x.1.toNat x.2.1.toNat) F) v) = S v by
    intro es hE hS
    refine H es ydp hE hS ydZ fun v hv => ?_
    rw [yct (by rw [ye8 (by simpa [ydp] using hv)]; simp [ydp])]
  intro l
  induction l with
  | nil => exact fun F _ _ _ h => h
  | cons x l ih =>
    intro F hE hS hF h
    have hx := hE x (by simp)
    have hSx := hS x (by simp)
    refine ih _ (fun y hy => hE y (by simp [hy])) (fun y hy => hS y (by simp [hy])) (ydx hF (by omega) (by omega)) fun v hv => ?_
    rw [yeF hF (by omega) (by omega) v hv]
    have ha := h x.1.toNat (by omega)
    have hb := h x.2.1.toNat (by omega)
    split
    · rename_i e
      rw [← h v hv, e]
      rcases Nat.le_total (root F x.1.toNat) (root F x.2.1.toNat) with q | q
      · rw [Nat.max_eq_right q, Nat.min_eq_left q, ha, hb, hSx]
      · rw [Nat.max_eq_left q, Nat.min_eq_right q, ha, hb, hSx]
    · exact h v hv
theorem root_edge : ∀ (es : List E3), ye9 es → ∀ x ∈ es, root (ya1 es) x.1.toNat = root (ya1 es) x.2.1.toNat := by
  suffices H : ∀ (l : List E3) (F : List Nat), ye9 l → ycK F → (∀ a b, a < 12 → b < 12 → root F a = root F b → root (l.foldl (fun F x => yc3 F x.1.toNat x.2.1.toNat) F) a = root (l.foldl (fun F x => yc3 F x.1.toNat x.2.1.toNat) F) b) ∧
      ∀ x ∈ l, root (l.foldl (fun F x => yc3 F x.1.toNat x.2.1.toNat) F) x.1.toNat = root (l.foldl (fun F x => yc3 F x.1.toNat x.2.1.toNat) F) x.2.1.toNat from
    fun es hE => (H es ydp hE ydZ).2
  intro l
  induction l with
  | nil => exact fun F _ _ => ⟨fun a b _ _ h => h, by simp⟩
  | cons x l ih =>
    intro F hE hF
    have hx := hE x (by simp)
    have hJ := ydx hF (a := x.1.toNat) (b := x.2.1.toNat) (by omega) (by omega)
    obtain ⟨i1, i2⟩ := ih (yc3 F x.1.toNat x.2.1.toNat) (fun y hy => hE y (by simp [hy])) hJ
    have hr := yeF hF (a := x.1.toNat) (b := x.2.1.toNat) (by omega) (by omega)
    refine ⟨fun a b ha hb h => i1 a b ha hb (by rw [hr a ha, hr b hb, h]), fun y hy => ?_⟩
    rcases List.mem_cons.1 hy with rfl | hy
    · refine i1 _ _ (by omega) (by omega) ?_
      rw [hr _ (by omega), hr _ (by omega)]
      rcases Nat.le_total (root F y.1.toNat) (root F y.2.1.toNat) with q | q
      · rw [Nat.max_eq_right q, Nat.min_eq_left q, if_pos rfl]; split <;> omega
      · rw [Nat.max_eq_left q, Nat.min_eq_right q, if_pos rfl]; split <;> omega
    · exact i2 y hy
theorem nroots_one {F : List Nat} (hF : ycK F) {n : Nat} (hn : 1 ≤ n) (h12 : n ≤ 12) : ybY F n = 1 ↔ ∀ v, v < n → root F v = root F 0 := by
  have h0 : root F 0 = 0 := by have := (ydD hF 0 (by omega)).1; omega
  constructor
  · intro h v hv
    have h1 := ydD hF v (by omega)
    have h2 : root F (root F v) = root F v := yge hF (by omega)
    rw [h0]
    apply Nat.eq_zero_of_not_pos
    intro hpos
    have h3 := nroots_lt F hpos h0
    have h4 := nroots_lt F (show root F v < n by omega) h2
    omega
  · intro h
    have H : ∀ k, k + 1 ≤ n → ybY F (k + 1) = 1 := by
      intro k
      induction k with
      | zero => intro _; rw [ybY, ybY, if_pos h0]
      | succ k ih =>
        intro hk
        rw [ybY, ih (by omega), if_neg]
        rw [h (k + 1) (by omega), h0]; omega
    obtain ⟨k, rfl⟩ : ∃ k, n = k + 1 := ⟨n - 1, by omega⟩
    exact H k (Nat.le_refl _)
section
variable {n : Nat} {es : List E3} (hE : EOk n es) (hn : 1 ≤ n) (h12 : n ≤ 12)
include hE hn h12
theorem EOk.ends : ye9 es := fun x hx => by have := hE x hx; omega
theorem W_edge {x : E3} (hx : x ∈ es) (hne : x.1 ≠ x.2.1) : 0 < W es x.1.toNat x.2.1.toNat := by
  have h := hE x hx
  exact (W_adj hE).2 ⟨x.2.2, ybC.2 ⟨x, hx, hne, by omega, by omega, rfl⟩⟩
theorem yhl {q : Nat} (hq : q < n) : yhE n es = true ↔ Conn n es q := by
  have hF := ydF es (hE.ends hn h12)
  have hk : yhE n es = true ↔ ∀ v, v < n → root (ya1 es) v = root (ya1 es) 0 := by
    unfold yhE
    rw [beq_iff_eq, Int.toNat_natCast]
    exact nroots_one hF hn h12
  rw [hk]
  constructor
  · intro h S hS ⟨v, hv, hSv⟩
    apply Classical.byContradiction
    intro hno
    have hcl : ∀ x ∈ es, S x.1.toNat = S x.2.1.toNat := fun x hx => by
      have hb := hE x hx
      by_cases e : x.1 = x.2.1
      · rw [e]
      · have hw := W_edge hE hn h12 hx e
        cases h1 : S x.1.toNat <;> cases h2 : S x.2.1.toNat
        · rfl
        · exact absurd ⟨x.2.1.toNat, x.1.toNat, by omega, by omega, h2, h1, by rw [yfB]; exact hw⟩ hno
        · exact absurd ⟨x.1.toNat, x.2.1.toNat, by omega, by omega, h1, h2, hw⟩ hno
        · rfl
    have hs := root_side (n := n) es (hE.ends hn h12) hcl
    have h1 := hs v (by omega)
    have h2 := hs q (by omega)
    rw [h v hv] at h1
    rw [h q hq, h1, hSv, hS] at h2
    cases h2
  · intro hC v hv
    have hedge := root_edge es (hE.ends hn h12)
    suffices H : ∀ v, v < n → root (ya1 es) v = root (ya1 es) q by rw [H v hv, H 0 (by omega)]
    intro v hv
    apply Classical.byContradiction
    intro hne
    obtain ⟨a, b, ha, hb, hSa, hSb, hW⟩ := hC (fun v => decide (root (ya1 es) v ≠ root (ya1 es) q)) (by simp) ⟨v, hv, by simpa using hne⟩
    obtain ⟨m, hm⟩ := (W_adj hE).1 hW
    obtain ⟨x, hx, q1, q2, q3, q4⟩ := ybC.1 hm
    have h1 := hedge x hx
    have hbx := hE x hx
    simp only [decide_eq_true_eq, decide_eq_false_iff_not, ne_eq, Decidable.not_not] at hSa hSb
    rcases q2 with q2 | q2
    · rw [show x.1.toNat = a by omega, show x.2.1.toNat = b by omega, hSb] at h1; exact hSa h1
    · rw [show x.1.toNat = b by omega, show x.2.1.toNat = a by omega, hSb] at h1; exact hSa h1.symm
end
end Go.Proofs.Ytdbpajnjhgocoaa

/- The walks of package reduced: what is checked first, debts, the beginning of a state. -/
namespace Go.Proofs.Ytdbpajnjhgocoaa
open Go.RowKit Go.Proofs.Try
set_option maxRecDepth 100000
set_option maxHeartbeats 8000000
end Go.Proofs.Ytdbpajnjhgocoaa

/- The package's own functions: Reduce, Lend. -/
namespace Go.Proofs.Ytdbpajnjhgocoaa
open Go Go.Proofs.Try
set_option linter.unusedVariables false
set_option linter.unusedSectionVars false
structure Leads (n : Nat) (es : List E3) (q : Nat) (d d' s' : List Int) : Prop where
  dl : d'.length = n
  sl : s'.length = n
  lp : ∀ v, v < n → gi d' v = gi d v - Lp n es (gi s') v
  sq : gi s' q = 0
  pos : ∀ v, v < n → v ≠ q → 0 ≤ gi d' v
  bd : ∀ v, v < n → -600000 ≤ gi d' v ∧ gi d' v ≤ 600000
  bs : ∀ v, v < n → -600000 ≤ gi s' v ∧ gi s' v ≤ 600000
structure Lends (n : Nat) (es : List E3) (q : Nat) (d d' s' : List Int) : Prop extends Leads n es q d d' s' where
  same : (∀ v, v < n → v ≠ q → 0 ≤ gi d v) → d' = d
structure Reduces (n : Nat) (es : List E3) (q : Nat) (d d' s' : List Int) : Prop extends Leads n es q d d' s' where
  red : Red n es q d'
structure Small (n : Int) (es : List E3) (d : List Int) : Prop where
  el : es.length ≤ 40
  g : ycO n es = 0 → n ≤ 6 ∧ (es.map (·.2.2)).sum ≤ 9
  d : checkF d n = 0 → ∀ v : Nat, (v : Int) < n → -200 ≤ gi d v ∧ gi d v ≤ 200
section
variable {n : Nat} {es : List E3} {q : Nat} {d0 : List Int} (hE : EOk n es) (hn : n ≤ 6) (hn1 : 1 ≤ n) (hq : q < n) (hC : Conn n es q) (hsum : (es.map (·.2.2)).sum ≤ 9) (hel : es.length ≤ 40) (hd0 : ∀ v, v < n → -200 ≤ gi d0 v ∧ gi d0 v ≤ 200) (hdl : d0.length = n)
include hE hn hn1 hq hC hsum hel hd0 hdl
end
end Go.Proofs.Ytdbpajnjhgocoaa

/- The package's own functions: IsReduced, Unburnt. -/
namespace Go.Proofs.Ytdbpajnjhgocoaa
open Go Go.RowKit Go.Proofs.Try
set_option linter.unusedVariables false
set_option linter.unusedSectionVars false
def OInts (w : World) (B : Nat) (A : Option Addr) (l c : Nat) (xs : List Int) : Prop := OwnS w B 3 1 A l c (xs.map (Value.int .i64))
theorem OInts.nil (w : World) (B : Nat) : OInts w B none 0 0 [] := OwnS.nil w B _ 1
end Go.Proofs.Ytdbpajnjhgocoaa

/- The chapter's examples come out right. -/
namespace Go.Proofs.Ytdbpajnjhgocoaa
open Go Go.RowKit Go.Shelf Go.Proofs.Try
set_option linter.unusedVariables false
set_option linter.unusedSectionVars false
set_option linter.unusedSimpArgs false
end Go.Proofs.Ytdbpajnjhgocoaa

/- Plain facts on graphs that the references need: checks, weights, connectedness, sets as bits. No program in sight. -/
namespace Go.Proofs.Ytdbpajnjhgocoaa
open Go Go.RowKit Go.Shelf Go.Proofs.Try
set_option linter.unusedVariables false
set_option linter.unusedSectionVars false
set_option linter.unusedSimpArgs false
def ygv (n a b : Int) (x : E3) : Int := if (0 ≤ x.1 ∧ x.1 < n) ∧ (0 ≤ x.2.1 ∧ x.2.1 < n) ∧ 1 ≤ x.2.2 ∧ x.2.2 ≤ 50 then (if x.1 ≤ x.2.1 ∧ ydP a b x.1 x.2.1 < 0 then 0 else 9) else 2
theorem ygk (n a b : Int) (x : E3) (t : List E3) : gchk n a b (x :: t) = if ygv n a b x = 0 then gchk n x.1 x.2.1 t else ygv n a b x := by
  rw [gchk]
  unfold ygv
  by_cases c : (0 ≤ x.1 ∧ x.1 < n) ∧ (0 ≤ x.2.1 ∧ x.2.1 < n) ∧ 1 ≤ x.2.2 ∧ x.2.2 ≤ 50
  · rw [if_pos c, if_pos c]
    by_cases c2 : x.1 ≤ x.2.1 ∧ ydP a b x.1 x.2.1 < 0
    · rw [if_pos c2, if_pos c2, if_pos rfl]
    · rw [if_neg c2, if_neg c2, if_neg (by omega)]
  · rw [if_neg c, if_neg c, if_neg (by omega)]
theorem pcmp_lt (a b c d : Int) : ydP a b c d < 0 ↔ a < c ∨ (a = c ∧ b < d) := by
  unfold ydP orF cmpF
  by_cases h1 : a < c
  · simp [h1]
  · by_cases h2 : c < a
    · simp [h1, h2]; omega
    · have : a = c := by omega
      subst this
      simp
      by_cases h3 : b < d
      · simp [h3]
      · by_cases h4 : d < b <;> simp [h3, h4]
def pre (es : List E3) (k : Nat) : Int × Int := if k = 0 then (-1, -1) else ((ge es (k - 1)).1, (ge es (k - 1)).2.1)
theorem gchk_lt {n : Int} : ∀ (es : List E3) (a b : Int), gchk n a b es = 0 → ∀ x ∈ es, (a < x.1 ∨ (a = x.1 ∧ b < x.2.1)) ∧ x.1 ≤ x.2.1
  | [], _, _, _ => by simp
  | x :: t, a, b, h => by
    rw [ygk] at h
    by_cases h0 : ygv n a b x = 0
    · rw [if_pos h0] at h
      have hx : x.1 ≤ x.2.1 ∧ (a < x.1 ∨ (a = x.1 ∧ b < x.2.1)) := by
        unfold ygv at h0
        split at h0
        · split at h0
          · rename_i c; exact ⟨c.1, (pcmp_lt _ _ _ _).1 c.2⟩
          · omega
        · omega
      intro y hy
      rcases List.mem_cons.1 hy with rfl | hy
      · exact ⟨hx.2, hx.1⟩
      · have := gchk_lt t _ _ h y hy
        omega
    · rw [if_neg h0] at h; exact absurd h h0
theorem yhm {n : Int} (u v : Nat) (huv : u ≠ v) : ∀ (es : List E3) (a b : Int), gchk n a b es = 0 → ((es.find? fun x => decide (x.1 = mnF (u : Int) v ∧ x.2.1 = mxF (u : Int) v)).map (·.2.2)).getD 0 = W es u v
  | [], _, _, _ => rfl
  | x :: t, a, b, h => by
    have hlt := gchk_lt (x :: t) a b h
    rw [ygk] at h
    by_cases h0 : ygv n a b x = 0
    · rw [if_pos h0] at h
      have ih := yhm u v huv t _ _ h
      have ht := gchk_lt t _ _ h
      have hx := (hlt x (by simp)).2
      have hmn : mnF (u : Int) v = if (u : Int) < v then (u : Int) else v := by unfold mnF; split <;> (try split) <;> omega
      have hmx : mxF (u : Int) v = if (u : Int) < v then (v : Int) else u := by unfold mxF; split <;> (try split) <;> omega
      rw [List.find?_cons, yfA]
      by_cases c : x.1 = mnF (u : Int) v ∧ x.2.1 = mxF (u : Int) v
      · have hnone : t.find? (fun x => decide (x.1 = mnF (u : Int) v ∧ x.2.1 = mxF (u : Int) v)) = none := by
          rw [List.find?_eq_none]
          intro y hy
          have := ht y hy
          simp only [decide_eq_true_eq]
          omega
        rw [hnone] at ih
        have hw : w1 x u v = x.2.2 := by
          unfold w1
          rw [if_pos]
          rw [hmn, hmx] at c
          by_cases q : (u : Int) < v
          · rw [if_pos q, if_pos q] at c; omega
          · rw [if_neg q, if_neg q] at c; omega
        rw [decide_eq_true c, hw, ← ih]
        simp
      · have hw : w1 x u v = 0 := by
          unfold w1
          rw [if_neg]
          intro q
          apply c
          rw [hmn, hmx]
          by_cases q2 : (u : Int) < v
          · rw [if_pos q2, if_pos q2]; omega
          · rw [if_neg q2, if_neg q2]; omega
        rw [decide_eq_false c, hw, ← ih]
        simp
    · rw [if_neg h0] at h; exact absurd h h0
theorem yhq {n : Int} {es : List E3} (h : ycO n es = 0) : gchk n (-1) (-1) es = 0 := by
  unfold ycO at h
  split at h
  · exact h
  · omega
theorem gb_rep (n v : Nat) : gb (List.replicate n false) v = false := by
  rcases Nat.lt_or_ge v n with h | h
  · rw [ydw (by simpa using h)]; simp
  · exact gb_ge (by simpa using h)
theorem set_same {l : List Bool} {v : Nat} (h : gb l v = true) : l.set v true = l := by
  rcases Nat.lt_or_ge v l.length with hv | hv
  · rw [ydw hv] at h
    rw [← h]; exact List.set_getElem_self hv
  · rw [gb_ge hv] at h; cases h
def Cl (n : Nat) (es : List E3) (o : List Bool) : Prop := ∀ a b, a < n → b < n → gb o a = true → 0 < W es a b → gb o b = true
theorem root_W {n : Nat} {es : List E3} (hE : EOk n es) (hn : 1 ≤ n) (h12 : n ≤ 12) {a b : Nat} (h : 0 < W es a b) : root (ya1 es) a = root (ya1 es) b := by
  obtain ⟨m, hm⟩ := (W_adj hE).1 h
  obtain ⟨x, hx, q1, q2, q3, q4⟩ := ybC.1 hm
  have h1 := root_edge es (hE.ends hn h12) x hx
  have hbx := hE x hx
  rcases q2 with q2 | q2
  · rwa [show x.1.toNat = a by omega, show x.2.1.toNat = b by omega] at h1
  · rw [show x.1.toNat = b by omega, show x.2.1.toNat = a by omega] at h1; exact h1.symm
theorem conn_root {n : Nat} {es : List E3} (hE : EOk n es) (hn : 1 ≤ n) (h12 : n ≤ 12) : yhE n es = true ↔ ∀ v, v < n → root (ya1 es) v = root (ya1 es) 0 := by
  have hF := ydF es (hE.ends hn h12)
  unfold yhE
  rw [beq_iff_eq, Int.toNat_natCast]
  exact nroots_one hF hn h12
theorem cl_root {n : Nat} {es : List E3} (hE : EOk n es) (hn : 1 ≤ n) (h12 : n ≤ 12) {o : List Bool} (hC : Cl n es o) {v : Nat} (hv : v < n) (hvo : gb o v = true) (hs : ∀ u, u < n → gb o u = true → root (ya1 es) u = root (ya1 es) v) :
    ∀ u, u < n → gb o u = decide (root (ya1 es) u = root (ya1 es) v) := by
  have hcl : ∀ x ∈ es, gb o x.1.toNat = gb o x.2.1.toNat := fun x hx => by
    have hb := hE x hx
    by_cases e : x.1 = x.2.1
    · rw [e]
    · have hw := W_edge hE hn h12 hx e
      cases h1 : gb o x.1.toNat <;> cases h2 : gb o x.2.1.toNat
      · rfl
      · rw [hC _ _ (by omega) (by omega) h2 (by rw [yfB]; exact hw)] at h1; cases h1
      · rw [hC _ _ (by omega) (by omega) h1 hw] at h2; cases h2
      · rfl
  have hside := root_side (n := n) (S := gb o) es (hE.ends hn h12) hcl
  intro u hu
  cases h : gb o u with
  | true => exact (decide_eq_true (hs u hu h)).symm
  | false =>
    symm
    rw [decide_eq_false_iff_not]
    intro e
    have h1 := hside u (by omega)
    have h2 := hside v (by omega)
    rw [e, h2, hvo] at h1
    rw [h] at h1; cases h1
end Go.Proofs.Ytdbpajnjhgocoaa

/- Reduce of a divisor that is reduced already: it is the form, and the script is 0. -/
namespace Go.Proofs.Ytdbpajnjhgocoaa
open Go Go.Proofs.Try
set_option linter.unusedVariables false
set_option linter.unusedSectionVars false
end Go.Proofs.Ytdbpajnjhgocoaa

/- Pure forms of functions whose walks were proved by hand: reduced's, connect.Connected, the law's awake. -/
namespace Go.Proofs.Ytdbpajnjhgocoaa
open Go Go.RowKit Go.Shelf Go.Proofs.Try
set_option linter.unusedVariables false
set_option linter.unusedSectionVars false
section
variable {O : Nat → Prop} {w : World} {n : Int} {es : List E3} {q : Int} {d : List Int} {A : Option Addr} {l c : Nat} {D : Option Addr} {ld cd : Nat}
end
end Go.Proofs.Ytdbpajnjhgocoaa

/- A table whose rows are slices of one's own: the outer slice holds their addresses, the rows are one thing. No program in sight. -/
namespace Go.Proofs.Ytdbpajnjhgocoaa
open Go Go.RowKit Go.Shelf Go.Proofs.Try
set_option linter.unusedVariables false
set_option linter.unusedSimpArgs false
theorem tn_lt {a : Int} {n : Nat} (h : 0 ≤ a ∧ a < (n : Int)) : a.toNat < n := by omega
def fA : Fl (Option Addr × Nat × Nat) := ⟨1, fun x => [.slice x.1 x.2.1 x.2.2], fun _ => rfl, fun x u hu => by rw [List.mem_singleton] at hu; subst hu; rfl⟩
def cA : Cod (Option Addr × Nat × Nat) := fA.cod
def rowH (g : Nat) (xs : List Int) : Option Addr × Nat × Nat := (some ⟨g, 0, none⟩, xs.length, xs.length)
def ows (G : List Nat) (T : List (List Int)) : List (Option Addr × Nat × Nat) := List.zipWith rowH G T
def rowA (G : List Nat) (a : Int) : Option Addr := some ⟨G.getD a.toNat 0, 0, none⟩
theorem ows_len {G : List Nat} {T : List (List Int)} (h : G.length = T.length) : (ows G T).length = T.length := by simp [ows, h]
theorem ows_get {G : List Nat} {T : List (List Int)} {k g : Nat} {xs : List Int} (hg : G[k]? = some g) (hx : T[k]? = some xs) : (ows G T)[k]? = some (rowH g xs) := by
  simp [ows, List.getElem?_zipWith, hg, hx]
theorem ows_snoc {G : List Nat} {T : List (List Int)} (h : G.length = T.length) (g : Nat) (xs : List Int) : ows (G ++ [g]) (T ++ [xs]) = ows G T ++ [rowH g xs] := by
  unfold ows
  rw [List.zipWith_append h]; rfl
theorem ows_set {G : List Nat} {T : List (List Int)} {a : Nat} {xs ys : List Int} (hx : T[a]? = some xs) (hl : ys.length = xs.length) : ows G (T.set a ys) = ows G T := by
  apply List.ext_getElem?
  intro k
  simp only [ows, List.getElem?_zipWith, List.getElem?_set]
  by_cases hk : a = k
  · subst hk
    have : a < T.length := (List.getElem?_eq_some_iff.1 hx).1
    rw [hx]
    cases G[a]? <;> simp [this, rowH, hl]
  · simp [hk]
section
variable {w0 w w' : World} {S O : Nat → Prop} {L : Hold} {e e2 : TypeId} {G : List Nat} {T : List (List Int)}
theorem Sep.rowsl (h : Sep w0 S O w L) (i : Nat) (hi : L i = .rows e G T) : G.length = T.length := by
  have := h.ok i; rw [hi] at this; exact this.2.1
theorem Sep.rowsnil (h : Sep w0 S O w L) (i : Nat) (hi : L i = .gone) (e : TypeId) : Sep w0 S O w (stl L i (.rows e [] [])) :=
  h.add i hi _ (Keeps.refl _ _) (fun k hk => by cases hk) ⟨List.nodup_nil, rfl, fun k g xs hg => by simp at hg⟩
theorem Sep.rowadd (h : Sep w0 S O w L) (i j : Nat) (hij : Nat.beq i j = false) (hi : L i = .rows e G T) {g l : Nat} {xs : List Int} (hj : L j = .own cI e (some ⟨g, 0, none⟩) l l xs) : Sep w0 S O w (stl (stl L j .gone) i (.rows e (G ++ [g]) (T ++ [xs]))) := by
  have hij : i ≠ j := fun q => by subst q; simp at hij
  have hri := h.ok i
  rw [hi] at hri
  have hrj := h.own j hj
  have hgG : g ∉ G := fun hm => hij (h.nd i j g (by rw [hi]; exact hm) (by rw [hj]; exact rfl))
  have hl : l = xs.length := hrj.1
  have hsub : ∀ k, Bl O (stl (stl L j .gone) i (.rows e (G ++ [g]) (T ++ [xs]))) k → Bl O L k := by
    rintro k (q | ⟨x, hx⟩)
    · exact .inl q
    · by_cases e1 : x = i
      · subst e1
        rw [yaU] at hx
        rcases List.mem_append.1 hx with q | q
        · exact .inr ⟨x, by rw [hi]; exact q⟩
        · rw [List.mem_singleton] at q; subst q; exact .inr ⟨j, by rw [hj]; exact rfl⟩
      · rw [yaE _ _ e1] at hx
        by_cases e2 : x = j
        · subst e2; rw [yaU] at hx; cases hx
        · rw [yaE _ _ e2] at hx; exact .inr ⟨x, hx⟩
  have hhas : ∀ x k, (stl (stl L j .gone) i (.rows e (G ++ [g]) (T ++ [xs])) x).has k → (x = i ∧ (k ∈ G ∨ k = g)) ∨ (x ≠ i ∧ x ≠ j ∧ (L x).has k) := by
    intro x k hx
    by_cases e1 : x = i
    · subst e1
      rw [yaU] at hx
      refine .inl ⟨rfl, ?_⟩
      rcases List.mem_append.1 hx with q | q
      · exact .inl q
      · exact .inr (List.mem_singleton.1 q)
    · rw [yaE _ _ e1] at hx
      by_cases e2 : x = j
      · subst e2; rw [yaU] at hx; cases hx
      · rw [yaE _ _ e2] at hx; exact .inr ⟨e1, e2, hx⟩
  refine h.step (T := no) (Keeps.refl _ _) (fun _ _ h => h.elim) (fun x k hk => .inl ?_) (fun x => ?_) (fun a b k ha hb => ?_)
  · rcases hhas x k hk with ⟨rfl, q | rfl⟩ | ⟨_, _, q⟩
    · exact ⟨x, by rw [hi]; exact q⟩
    · exact ⟨j, by rw [hj]; exact rfl⟩
    · exact ⟨x, q⟩
  · by_cases e1 : x = i
    · subst e1
      rw [yaU]
      refine .inr ⟨?_, by simp [hri.2.1], fun k g' xs' hg' hx' => ?_⟩
      · rw [List.nodup_append]
        refine ⟨hri.1, by simp, fun a ha b hb => ?_⟩
        rw [List.mem_singleton] at hb; subst hb
        exact fun q => hgG (q ▸ ha)
      · have hfl : ∀ {O1 O2 : Nat → Prop} {A : Option Addr} {l c : Nat} {xs : List Int}, OwnC cI 0 O1 w e A l c xs → OwnC cI 0 O2 w e A l c xs := fun ⟨a, cells, b, c⟩ => ⟨a, cells, b, c⟩
        rcases Nat.lt_or_ge k G.length with q | q
        · rw [List.getElem?_append_left q] at hg'
          rw [List.getElem?_append_left (by rw [← hri.2.1]; exact q)] at hx'
          exact hfl (hri.2.2 k g' xs' hg' hx')
        · rw [List.getElem?_append_right q] at hg'
          rw [List.getElem?_append_right (by rw [← hri.2.1]; exact q)] at hx'
          have hk0 : k - G.length = 0 := by
            have := (List.getElem?_eq_some_iff.1 hg').1
            simp at this; omega
          have hk1 : k - T.length = 0 := by rw [← hri.2.1]; exact hk0
          rw [hk0] at hg'; rw [hk1] at hx'
          simp at hg' hx'
          subst hg'; subst hx'
          have := hfl (O2 := Bl O (stl (stl L j .gone) x (.rows e (G ++ [g]) (T ++ [xs])))) hrj
          rw [hl] at this
          exact this
    · rw [yaE _ _ e1]
      by_cases e2 : x = j
      · subst e2; rw [yaU]; exact .inr trivial
      · rw [yaE _ _ e2]; exact .inl ⟨x, rfl, fun _ _ => id⟩
  · rcases hhas a k ha with ⟨rfl, qa⟩ | ⟨a1, a2, qa⟩
    · rcases hhas b k hb with ⟨rfl, qb⟩ | ⟨b1, b2, qb⟩
      · rfl
      · rcases qa with qa | rfl
        · exact absurd (h.nd a b k (by rw [hi]; exact qa) qb).symm b1
        · exact absurd (h.nd j b k (by rw [hj]; exact rfl) qb).symm b2
    · rcases hhas b k hb with ⟨rfl, qb⟩ | ⟨b1, b2, qb⟩
      · rcases qb with qb | rfl
        · exact absurd (h.nd a b k qa (by rw [hi]; exact qb)) a1
        · exact absurd (h.nd a j k qa (by rw [hj]; exact rfl)) a2
      · exact h.nd a b k qa qb
theorem Sep.rowown (h : Sep w0 S O w L) (i : Nat) (hi : L i = .rows e G T) {a : Int} (ha : 0 ≤ a ∧ a < (T.length : Int)) : OwnC cI 0 (Bl O L) w e (rowA G a) (gx T a.toNat).length (gx T a.toNat).length (gx T a.toNat) := by
  have hri := h.ok i
  rw [hi] at hri
  have h1 : a.toNat < T.length := by omega
  have h2 : a.toNat < G.length := by rw [hri.2.1]; exact h1
  have := hri.2.2 a.toNat G[a.toNat] (gx T a.toNat) (List.getElem?_eq_getElem h2) (ydC h1)
  have e : rowA G a = some ⟨G[a.toNat], 0, none⟩ := by simp [rowA, h2]
  rw [e]; exact this
theorem Sep.rowfp (h : Sep w0 S O w L) (i : Nat) (hi : L i = .rows e G T) {a : Int} (ha : 0 ≤ a ∧ a < (T.length : Int)) : (FP.sl cI (rowA G a) (gx T a.toNat).length (gx T a.toNat).length (gx T a.toNat)).P no w :=
  (h.rowown i hi ha).rd (fun _ _ h => h.elim) fun _ _ => id
theorem Sep.rowcell (h : Sep w0 S O w L) (i j : Nat) (hi : L i = .rows e G T) {A : Option Addr} {l cap : Nat} (hj : L j = .own cA e2 A l cap (ows G T)) {a : Int} (ha : 0 ≤ a ∧ a < (T.length : Int)) : w.cell? (ixA A a 1) = some (.slice (rowA G a) (gx T a.toNat).length (gx T a.toNat).length) := by
  have hl := h.rowsl i hi
  have h1 : a.toNat < T.length := by omega
  have h2 : a.toNat < G.length := by omega
  have := rd_1 (f := fA) (h.rdo j hj) (i := a) (by rw [ows_len hl]; exact ha) (x := rowH G[a.toNat] (gx T a.toNat)) (fun _ => ows_get (List.getElem?_eq_getElem h2) (ydC h1)) (u := .slice (rowA G a) (gx T a.toNat).length (gx T a.toNat).length) (by simp [fA, rowH, rowA, h2])
  exact this
theorem Sep.rowix (h : Sep w0 S O w L) (i j : Nat) (hi : L i = .rows e G T) {A : Option Addr} {l cap : Nat} (hj : L j = .own cA e2 A l cap (ows G T)) {a : Int} (ha : 0 ≤ a ∧ a < (T.length : Int)) : Ix A l a :=
  yaF (h.rdo j hj) (by rw [ows_len (h.rowsl i hi)]; exact ha)
theorem Sep.rowwr (h : Sep w0 S O w L) (i : Nat) (hi : L i = .rows e G T) {a : Int} (ha : 0 ≤ a ∧ a < (T.length : Int)) {b : Int} (hb : 0 ≤ b ∧ b < ((gx T a.toNat).length : Int)) : Wr w (ixA (rowA G a) b 1) := by
  obtain ⟨hl, cells, ho, hE⟩ := h.rowown i hi ha
  obtain ⟨vs, hR, hu⟩ := hE b.toNat (gx T a.toNat)[b.toNat] (List.getElem?_eq_getElem (by omega))
  have hv := cI.len hR
  obtain ⟨v, rfl⟩ := List.length_eq_one_iff.1 hv
  obtain ⟨g, o, hA, _, h1, h2⟩ := ho.cellAt (hu 0 v rfl)
  have ho0 : o = 0 ∧ G.getD a.toNat 0 = g := by unfold rowA at hA; injection hA with hA; injection hA with q1 q2; exact ⟨q2.symm, q1⟩
  unfold rowA
  rw [yfe, ho0.2]
  rw [ho0.1] at h1 h2
  have hsz : cI.sz = 1 := rfl
  rw [hsz, Nat.add_zero] at h1 h2
  exact ⟨by rw [h1]; rfl, h2⟩
theorem Sep.rowst (h : Sep w0 S O w L) (i : Nat) (hi : L i = .rows e G T) {a : Int} (ha : 0 ≤ a ∧ a < (T.length : Int)) {b : Int} (hb : 0 ≤ b ∧ b < ((gx T a.toNat).length : Int)) (v : Int) (e1 : w' = w.setCell (ixA (rowA G a) b 1) (.int .i64 v)) : Sep w0 S O w' (stl L i (.rows e G (T.set a.toNat ((gx T a.toNat).set b.toNat v)))) := by
  have hri := h.ok i
  rw [hi] at hri
  have h1 : a.toNat < T.length := by omega
  have h2 : a.toNat < G.length := by rw [hri.2.1]; exact h1
  have hA : rowA G a = some ⟨G[a.toNat], 0, none⟩ := by simp [rowA, h2]
  rw [hA, yfe, Nat.mul_one, Nat.zero_add] at e1
  have hK : Keeps (fun j => j = G[a.toNat]) w w' := by rw [e1]; exact (Keeps.refl (fun j => j = G[a.toNat]) w).setCell (p := ⟨G[a.toNat], b.toNat, none⟩) (fun _ => rfl) _
  refine h.upd i _ hK (fun j _ hj => by rw [hi, hj]; exact List.getElem_mem h2) (fun j hj => .inl (by rw [hi]; exact hj)) ⟨hri.1, by rw [List.length_set]; exact hri.2.1, fun k g xs hg hx => ?_⟩
  by_cases q : a.toNat = k
  · subst q
    rw [List.getElem?_set, if_pos rfl, if_pos h1] at hx
    rw [List.getElem?_eq_getElem h2] at hg
    cases hg; cases hx
    obtain ⟨hl, cells, ho, hE⟩ := hri.2.2 a.toNat G[a.toNat] (gx T a.toNat) (List.getElem?_eq_getElem h2) (ydC h1)
    have hbl : b.toNat < (gx T a.toNat).length := by omega
    have hcl : cells.length = (gx T a.toNat).length := by rw [ho.1]; exact Nat.mul_one _
    have ho2 := ho.set1 (i := b.toNat) (by omega) (.int .i64 v) rfl
    refine ⟨rfl, cells.set b.toNat (.int .i64 v), ?_, fun t y hy => ?_⟩
    · rw [e1, List.length_set]
      simpa using ho2
    · rw [List.getElem?_set] at hy
      by_cases q2 : b.toNat = t
      · subst q2
        rw [if_pos rfl, if_pos hbl] at hy
        cases hy
        refine ⟨[.int .i64 v], rfl, fun s u hs => ?_⟩
        have hs0 : s = 0 := by
          have := (List.getElem?_eq_some_iff.1 hs).1
          simp at this; exact this
        subst hs0
        simp at hs
        subst hs
        show (cells.set b.toNat _)[b.toNat * 1 + 0]? = _
        rw [Nat.mul_one, Nat.add_zero, List.getElem?_set, if_pos rfl, if_pos (by omega)]
      · rw [if_neg q2] at hy
        obtain ⟨vs, hR, hu⟩ := hE t y hy
        refine ⟨vs, hR, fun s u hs => ?_⟩
        have hs0 : s = 0 := by
          have := (List.getElem?_eq_some_iff.1 hs).1
          have hv : vs.length = 1 := cI.len hR
          omega
        have := hu s u hs
        rw [List.getElem?_set, if_neg (by show ¬ b.toNat = t * 1 + s; omega)]
        exact this
  · rw [List.getElem?_set, if_neg q] at hx
    obtain ⟨hl, cells, ho, hE⟩ := hri.2.2 k g xs hg hx
    have hne : g ≠ G[a.toNat] := fun e => q (by
      obtain ⟨hk, e2⟩ := List.getElem?_eq_some_iff.1 hg
      exact ((List.getElem_inj hri.1).1 (e2.trans e)).symm)
    exact ⟨hl, cells, ho.keep_ fun k' hk => by cases hk; exact hK.block g (ho.at_ rfl).2 hne, fun t y hy => hE t y hy⟩
theorem Sep.rowre (h : Sep w0 S O w L) (j : Nat) {A : Option Addr} {l cap : Nat} (hj : L j = .own cA e2 A l cap (ows G T)) {T' : List (List Int)} (e : ows G T' = ows G T) : Sep w0 S O w (stl L j (.own cA e2 A l cap (ows G T'))) := by
  have : stl L j (.own cA e2 A l cap (ows G T')) = L := by
    funext k
    by_cases q : k = j
    · subst q; rw [yaU, e, hj]
    · rw [yaE _ _ q]
  rw [this]; exact h
theorem Sep.rowfrz (h : Sep w0 S O w L) (i j : Nat) (hij : Nat.beq i j = false) (hi : L i = .rows e G T) {A : Option Addr} {l cap : Nat} (hj : L j = .own cA e2 A l cap (ows G T)) : Sep w0 S O w (stl (stl L i .gone) j (.own (cL cI) e2 A l cap T)) := by
  have hij : i ≠ j := fun q => by subst q; simp at hij
  have hri := h.ok i
  rw [hi] at hri
  obtain ⟨hl, cells, ho, hE⟩ := h.own j hj
  have hlen := ows_len hri.2.1
  have hhas : ∀ x k, (stl (stl L i .gone) j (.own (cL cI) e2 A l cap T) x).has k → x ≠ i ∧ (L x).has k := by
    intro x k hx
    by_cases e1 : x = j
    · subst e1; rw [yaU] at hx; exact ⟨hij.symm, by rw [hj]; exact hx⟩
    · rw [yaE _ _ e1] at hx
      by_cases e2 : x = i
      · subst e2; rw [yaU] at hx; cases hx
      · rw [yaE _ _ e2] at hx; exact ⟨e2, hx⟩
  have hnb : ∀ g, g ∈ G → ¬ Bl O (stl (stl L i .gone) j (.own (cL cI) e2 A l cap T)) g := by
    rintro g hg (q | ⟨x, hx⟩)
    · have h1 := h.lt g q
      rcases h.bd i g (by rw [hi]; exact hg) with h2 | h2
      · omega
      · exact h1.2 h2
    · obtain ⟨h1, h2⟩ := hhas x g hx
      exact h1 (h.nd x i g h2 (by rw [hi]; exact hg))
  refine h.step (T := no) (Keeps.refl _ _) (fun _ _ h => h.elim) (fun x k hk => .inl ⟨x, (hhas x k hk).2⟩) (fun x => ?_) (fun a b k ha hb => h.nd a b k (hhas a k ha).2 (hhas b k hb).2)
  by_cases e1 : x = j
  · subst e1
    rw [yaU]
    refine .inr ⟨by rw [hl, hlen], cells, ho, fun k xs hx => ?_⟩
    have hkT : k < T.length := (List.getElem?_eq_some_iff.1 hx).1
    have hkG : k < G.length := by rw [hri.2.1]; exact hkT
    obtain ⟨vs, hR, hu⟩ := hE k _ (ows_get (List.getElem?_eq_getElem hkG) hx)
    have hvs : vs = [.slice (some ⟨G[k], 0, none⟩) xs.length xs.length] := hR
    refine ⟨vs, ⟨_, _, _, hvs, rfl, Nat.le_refl _, ?_⟩, hu⟩
    have := (hri.2.2 k G[k] xs (List.getElem?_eq_getElem hkG) hx).rd (O' := Bl O (stl (stl L i .gone) x (.own (cL cI) e2 A l cap T))) (fun k _ hk => by
      rcases hk with q | ⟨y, hy⟩
      · exact .inl q
      · exact .inr ⟨y, (hhas y k hy).2⟩) (fun k' hk' => by cases hk'; exact hnb _ (List.getElem_mem hkG))
    exact this.2.2
  · rw [yaE _ _ e1]
    by_cases e2 : x = i
    · subst e2; rw [yaU]; exact .inr trivial
    · rw [yaE _ _ e2]; exact .inl ⟨x, rfl, fun _ _ => id⟩
theorem Sep.tabnil (h : Sep w0 S O w L) (i j : Nat) (hi : L i = .gone) (hj : L j = .gone) (d : Nat.beq j i = false) (e2 e : TypeId) : Sep w0 S O w (stl (stl L i (.own cA e2 none 0 0 (ows [] []))) j (.rows e [] [])) :=
  Sep.rowsnil (h.nil i hi cA e2) j (by rw [yaE _ _ (fun q => by subst q; simp at d)]; exact hj) e
theorem Sep.rowpush (h : Sep w0 S O w L) (i j k : Nat) (d1 : Nat.beq j i = false) (d2 : Nat.beq j k = false) (d3 : Nat.beq i k = false) (hi : L i = .rows e G T) {A : Option Addr} {l cap g m : Nat} {xs : List Int} (hj : L j = .own cA e2 A l cap (ows G T ++ [(some ⟨g, 0, none⟩, m, m)])) (hk : L k = .own cI e (some ⟨g, 0, none⟩) m m xs) :
    Sep w0 S O w (stl (stl (stl L k .gone) i (.rows e (G ++ [g]) (T ++ [xs]))) j (.own cA e2 A l cap (ows (G ++ [g]) (T ++ [xs])))) := by
  have hm : m = xs.length := (h.own k hk).1
  have hl := h.rowsl i hi
  have h2 := h.rowadd i k d3 hi hk
  have e1 : ows (G ++ [g]) (T ++ [xs]) = ows G T ++ [(some ⟨g, 0, none⟩, m, m)] := by rw [ows_snoc hl, hm]; rfl
  have n1 : j ≠ i := fun q => by subst q; simp at d1
  have n2 : j ≠ k := fun q => by subst q; simp at d2
  have : stl (stl (stl L k .gone) i (.rows e (G ++ [g]) (T ++ [xs]))) j (.own cA e2 A l cap (ows (G ++ [g]) (T ++ [xs]))) = stl (stl L k .gone) i (.rows e (G ++ [g]) (T ++ [xs])) := by
    funext x
    by_cases q : x = j
    · subst q; rw [yaU, yaE _ _ n1, yaE _ _ n2, hj, e1]
    · rw [yaE _ _ q]
  rw [this]; exact h2
end
end Go.Proofs.Ytdbpajnjhgocoaa

/- Words for proofs from pure forms: loops that count up, lists that are filled from the left. No program in sight. -/
namespace Go.Proofs.Ytdbpajnjhgocoaa
open Go Go.Proofs.Try
set_option linter.unusedVariables false
def Cnt (N : Nat) (P : Nat → Prop) (m : Nat) (v : Int) : Prop := ∃ k : Nat, m = N - k ∧ v = (k : Int) ∧ k ≤ N ∧ P k
theorem Cnt.start {N : Nat} {P : Nat → Prop} (h : P 0) : ∃ m0, Cnt N P m0 0 := ⟨N, 0, rfl, rfl, Nat.zero_le _, h⟩
theorem Cnt.next {N : Nat} {P : Nat → Prop} {k : Nat} (hk : k < N) (hN : N ≤ 1000000000000) (h : P (k + 1)) : In64 ((k : Int) + 1) ∧ ∃ m', m' < N - k ∧ Cnt N P m' ((k : Int) + 1) :=
  ⟨⟨by omega, by omega⟩, N - (k + 1), by omega, k + 1, rfl, by omega, by omega, h⟩
theorem Cnt.next' {N : Nat} {P : Nat → Prop} {k : Nat} (hk : k < N) (h : P (k + 1)) : ∃ m', m' < N - k ∧ Cnt N P m' ((k : Int) + 1) :=
  ⟨N - (k + 1), by omega, k + 1, rfl, by omega, by omega, h⟩
theorem i64 {a : Int} (h : -9000000000000000000 ≤ a ∧ a ≤ 9000000000000000000) : In64 a := ⟨by omega, by omega⟩
theorem sm_bound {f : Nat → Int} {B : Int} (hB : 0 ≤ B) : ∀ {n : Nat}, (∀ i, i < n → -B ≤ f i ∧ f i ≤ B) → -(n * B) ≤ sm n f ∧ sm n f ≤ n * B
  | 0, _ => by simp [sm]
  | n + 1, h => by
    have ih := sm_bound hB (n := n) fun i hi => h i (by omega)
    have := h n (by omega)
    rw [sm, show ((n + 1 : Nat) : Int) * B = n * B + B by rw [Int.natCast_add, Int.add_mul]; simp]
    omega
end Go.Proofs.Ytdbpajnjhgocoaa

/- What the arguments of the laws read as: numbers, lists, graphs; and what is handed back. -/
namespace Go.Proofs.Ytdbpajnjhgocoaa
open Go Go.ChangeShapes Go.WideShapes Go.ChangeAt Go.RowKit Go.Joins Go.Deep Go.Proofs.Try
theorem own : ownKnob Try.prog.godebug = none := by kernel_rfl
theorem laidOut : laidOutB Try.prog = true := by kernel_rfl
theorem cells_int : Try.prog.cellsOf 3 = 1 := by kernel_rfl
theorem ints_sl {W : World} {A : Option Addr} {xs : List Int} {c : Nat} (hc : xs.length ≤ c) (h : Ints W A xs) : (FP.sl cI A xs.length c xs).P no W := by
  refine ⟨rfl, hc, fun h0 => ?_⟩
  obtain ⟨b, off, e, hb, hcell⟩ := h h0
  refine ⟨b, off, e, hb, id, fun k x hx => ⟨_, rfl, fun j u hj => ?_⟩⟩
  have hk : k < xs.length := (List.getElem?_eq_some_iff.1 hx).1
  have hj0 : j = 0 := by
    have := (List.getElem?_eq_some_iff.1 hj).1
    simp [fI] at this; exact this
  subst hj0
  have hu : u = .int .i64 x := by
    have : (some (Value.int .i64 x)) = some u := hj
    simpa using this.symm
  rw [yar hk] at hx
  cases hx
  rw [hu]
  have := hcell k hk
  simpa [cI, Fl.cod, fI] using this
set_option maxRecDepth 100000
variable {H : Type} {enc : TypeId × Value → H} {W : World} {r : Reach} {b0 : Nat}
theorem open_list {t : TypeId} (ht : Try.prog.underlying t = some (.slice 3)) {v : Value} {d : DataW H} {p : List MemPlace} (hv : Value.okWide Try.prog W r b0 t v) (h : DataW.Trod enc Try.prog W 0 (fun _ => true) true t v d p) :
    ∃ (A : Option Addr) (l : List Int) (c : Nat), v = .slice A l.length c ∧ (FP.sl cI A l.length c l).P no W := by
  suffices h : ∃ (A : Option Addr) (l : List Int) (c : Nat), v = .slice A l.length c ∧ l.length ≤ c ∧ Ints W A l by
    obtain ⟨A, l, c, e, hlc, hi⟩ := h
    exact ⟨A, l, c, e, ints_sl hlc hi⟩
  obtain ⟨a0, len, cap, rfl⟩ := okWide_slice ht hv
  obtain ⟨fuel, hf⟩ := h
  rcases open_ints ht underlying3 cells_int hf with ⟨hcs, hx⟩ | ⟨a, len', cap', zs, hcs, _, hl, hm, hz, hx, hcell, hwz⟩
  · simp [Value.cells] at hcs
    obtain ⟨rfl, rfl, rfl⟩ := hcs
    exact ⟨none, [], 0, rfl, Nat.le_refl _, Ints.nil _ _⟩
  · simp [Value.cells] at hcs
    obtain ⟨rfl, rfl, rfl⟩ := hcs
    simp only [if_true] at hz
    refine ⟨some a, zs.take len, cap, by rw [List.length_take, Nat.min_eq_left (by omega)], by rw [List.length_take]; omega, fun hp => ?_⟩
    rw [List.length_take, Nat.min_eq_left (by omega)] at hp ⊢
    obtain ⟨b, off, rfl, hc⟩ := ints_at hcell (by omega)
    refine ⟨b, off, rfl, ?_, fun k hk => ?_⟩
    · have := hc 0 (by omega)
      apply Nat.lt_of_not_le
      intro hle
      unfold World.cell? at this
      rw [Array.getElem?_eq_none hle] at this
      simp at this
    · rw [hc k (by omega), ybz (by rw [List.length_take]; omega), List.getElem_take, List.getD_eq_getElem?_getD, List.getElem?_eq_getElem (by omega)]
      rfl
end Go.Proofs.Ytdbpajnjhgocoaa

/- What arguments read as: lists of lists, pairs of lists. -/
namespace Go.Proofs.Ytdbpajnjhgocoaa
open Go Go.ChangeShapes Go.WideShapes Go.ChangeAt Go.RowKit Go.Joins Go.Deep Go.Proofs.Try
set_option maxRecDepth 100000
set_option linter.unusedVariables false
variable {H : Type} {enc : TypeId × Value → H} {W : World} {r : Reach} {b0 : Nat}
end Go.Proofs.Ytdbpajnjhgocoaa
