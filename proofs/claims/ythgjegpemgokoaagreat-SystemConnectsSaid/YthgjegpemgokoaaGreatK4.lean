/- Texts laid together: It, ItP, Det, Cram, Col, Opn, Opn2. -/
import Derived.Test.YthgjegpemgokoaaGreatRows
import Derived.ProofKit
import Derived.Lib.SmallJoins
import Derived.Deep.Slices
import Derived.Below
import Derived.OpenShut
import Derived.Test.YthgjegpemgokoaaGreatK3
/- Iterators: what a generator and the loop over it owe each other; each side has its own blocks. No program in sight. -/
namespace Go.Proofs.YthgjegpemgokoaaGreat
open Go Go.RowKit Go.Shelf Go.Proofs.Tryz
set_option linter.unusedVariables false
set_option linter.unusedSimpArgs false
set_option linter.unusedSectionVars false
theorem n_yield {P : Program} {E : Env} {w : World} {d : Option Tmp} {ty : TypeId} {ps : String} {af : Array Edge} {g : Option (Nat × Bool)} {K : Value → World → Prop} {l m : Nat} {args : Array Operand} {ats : Array TypeId} {vs : Array Value} {fo : Operand}
    (hf : evE E fo = .func (.yield l) #[] #[]) (ha : args.map (evE E) = vs) (h : YieldAt Fence.wide m P l vs w fun e w'' => ∃ v, e = .returned v ∧ K v w'') : ya3 P ⟨d, .call ⟨.value fo, args, ats⟩, ty, ps, af, g⟩ (evE E) w K := by
  obtain ⟨fn, tmps, assign, body, hy, hR⟩ := h
  unfold ya3 execOp
  simp only [resolve, hf, ha, Deferred.ofValue, Sem.run_bind, Sem.run_pure, Result.andThen, invoke, Array.empty_append, Array.append_empty, hy]
  exact ⟨trivial, fun c cs _ => hR.2 c cs (room_wide _)⟩
theorem WTa.ofx {F : Fence} {n : Nat} {P : Program} {Q : Exit → Act → World → Prop} {a : Act} {w : World} {t : List Item} {c : Code}
    (h : c.wpIn F n P (fun e a' w' => match e with
      | .normal => WTa F n P t Q a' w'
      | .ret => Q .ret a' w'
      | .exit id => (match exitTo id t with | some k' => WTa F n P k' Q a' w' | none => Q (.exit id) a' w')
      | _ => False) a w) : WTa F n P (.code c :: t) Q a w := by
  intro b k cs hro hb hr
  obtain ⟨e, a', w', hw, harr⟩ := h b (t ++ k) cs hro hb hr
  cases e with
  | normal =>
    obtain ⟨e2, a2, w2, hq, harr2⟩ := hw b k cs hro hb hr
    exact ⟨e2, a2, w2, hq, .of_steps harr harr2⟩
  | ret => exact ⟨.ret, a', w', hw, harr⟩
  | exit id =>
    cases he : exitTo id t with
    | some k' =>
      simp only [he] at hw
      obtain ⟨e2, a2, w2, hq, harr2⟩ := hw b k cs hro hb hr
      exact ⟨e2, a2, w2, hq, .of_steps (harr.1 _ (yd4 k he)) harr2⟩
    | none =>
      simp only [he] at hw
      refine ⟨.exit id, a', w', hw, ?_⟩
      have h1 := harr.1
      have h2 := harr.2
      rw [yik k he] at h1 h2
      exact ⟨h1, h2⟩
  | goto l => exact hw.elim
  | panic ch => exact hw.elim
  | outgrown => exact hw.elim
theorem Keeps.trans' {A B T S : Nat → Prop} {a b c d : World} (h : Keeps A a b) (k : Keeps B b c) (l : Keeps S c d) (h1 : ∀ k, A k → T k) (h2 : ∀ k, B k → T k) (h3 : ∀ k, S k → T k) : Keeps T a d :=
  ((h.mono fun k _ e => h1 k e).trans (k.mono fun k _ e => h2 k e)).trans (l.mono fun k _ e => h3 k e)
abbrev BS := Nat → Prop
structure RK (T : BS) (W : World) (T' : BS) (W' : World) : Prop where
  keeps : Keeps T W W'
  sub : ∀ k, T' k → T k ∨ W.heap.size ≤ k
  lt : ∀ k, T' k → k < W'.heap.size
def yip {α : Type} (J : BS → BS → List α → World → Prop) : Prop :=
  ∀ {T G G' : BS} {pre : List α} {W W' : World}, J T G pre W → Keeps G W W' → (∀ k, G' k → G k ∨ W.heap.size ≤ k) → (∀ k, G' k → k < W'.heap.size) → J T G' pre W'
def yin {α : Type} (J : BS → BS → List α → World → Prop) : Prop :=
  ∀ {T G : BS} {pre : List α} {W : World}, J T G pre W → (∀ k, T k → ¬ G k ∧ k < W.heap.size) ∧ ∀ k, G k → k < W.heap.size
structure Sess (P : Program) (l : Nat) {α : Type} (enc : α → Array Value) (pass : α → FP) (Pr : List α → Prop) (J Jx : BS → BS → List α → World → Prop) : Prop where
  gen : yip J
  genx : yip Jx
  two : yin J
  twox : yin Jx
  yld : ∀ {T G : BS} {pre : List α} {x : α} {W : World}, J T G pre W → Pr (pre ++ [x]) → (pass x).P (fun k => T k ∨ G k) W →
    YieldAt Fence.wide 1 P l (enc x) W fun e W' => ∃ T', RK T W T' W' ∧ ((e = .returned (.bool true) ∧ J T' G (pre ++ [x]) W') ∨ (e = .returned (.bool false) ∧ Jx T' G (pre ++ [x]) W'))
def ymi (P : Program) (gf : FuncId) (lb : Array Value) {α : Type} (enc : α → Array Value) (pass : α → FP) (Pr R : List α → Prop) (T0 G0 : BS) (w : World) : Prop :=
  ∀ (l : Nat) (J Jx : BS → BS → List α → World → Prop) (T1 : BS) (w1 : World), Sess P l enc pass Pr J Jx → J T1 G0 [] w1 → Pure w w1 → (∀ k, T1 k → T0 k ∨ w.heap.size ≤ k) →
    CallsIn Fence.wide 2 P gf (#[.func (.yield l) #[] #[]] ++ lb) w1 fun e w' => (∃ v, e = .returned v) ∧ ((∃ xs T G, R xs ∧ J T G xs w') ∨ ∃ pre T G, Jx T G pre w')
structure RL1 (l : Nat) (busy : Obj) (T : BS) (W : World) (T' : BS) (W' : World) : Prop where
  keeps : Keeps (fun k => T k ∨ k = l) W W'
  sub : ∀ k, T' k → T k ∨ W.heap.size ≤ k
  lt : ∀ k, T' k → k < W'.heap.size
  at_ : W'.heap[l]? = some busy
def rndPost (l : Nat) (busy : Obj) {α : Type} (I : BS → BS → List α → World → Prop) (Ix : Option Nat → BS → BS → List α → World → Prop) (T G : BS) (xs : List α) (W : World) : Exit → Act → World → Prop
  | .normal, _, W' => ∃ T', RL1 l busy T W T' W' ∧ I T' G xs W'
  | .ret, _, W' => ∃ T', RL1 l busy T W T' W' ∧ Ix none T' G xs W'
  | .exit id, _, W' => ∃ T', RL1 l busy T W T' W' ∧ Ix (some id) T' G xs W'
  | _, _, _ => False
def jumpOf : Option Nat → Code
  | none => .ret
  | some id => .exit id
theorem yih (W : World) (l : Nat) (o : Obj) : (W.putObj l o).heap.size = W.heap.size := by simp
theorem yij (W : World) (l : Nat) (o : Obj) : Keeps (fun k => k = l) W (W.putObj l o) :=
  ⟨rfl, rfl, rfl, by simp, fun k hk hn => World.putObj_heap_other hn⟩
def JumpTo (P : Program) (N : Nat) (t : List Item) (Q : Exit → Act → World → Prop) (E : Env) (ds : List Deferred) (w : World) : Option Nat → Prop
  | none => ∀ a, Rep N E ds a → Q .ret a w
  | some id => match exitTo id t with
    | some k' => WT Fence.wide 3 P N k' Q E ds w
    | none => ∀ a, Rep N E ds a → Q (.exit id) a w
theorem wpIn_iter {P : Program} {N : Nat} {Q : Exit → Act → World → Prop} {E : Env} {ds : List Deferred} {w : World} {t : List Item} {fo : Operand} {ps : Array Tmp} {assign body : Code} {gf : FuncId} {lb : Array Value} {a : Act}
    (hr : a.eval fo = .func (.func gf) #[] lb) (he : Enters P gf) {α : Type} {enc : α → Array Value} {pass : α → FP} {Pr R : List α → Prop} (hps : ∀ x, (enc x).size = ps.size)
    (T0 G0 : BS) (I : BS → BS → List α → World → Prop) (Ix : Option Nat → BS → BS → List α → World → Prop) (hI : yip I) (hI2 : yin I) (hIx : ∀ c, yip (Ix c)) (hIx2 : ∀ c, yin (Ix c)) (h0 : I T0 G0 [] w)
    (hgen : ymi P gf lb enc pass Pr R T0 G0 w)
    (hround : ∀ (l : Nat) (T G : BS) (pre : List α) (x : α) (W : World) (rdy busy : Obj), I T G pre W → Pr (pre ++ [x]) → (pass x).P (fun k => T k ∨ G k) W → G l → W.heap[l]? = some rdy →
      assign.wpIn (Fence.wide.inRound l) 1 P (Exit.then (fun a1 W1 => W1.heap[l]? = some rdy ∧ ∀ W2, W2 = W1.putObj l busy → body.wpIn (Fence.wide.inRound l) 1 P (rndPost l busy I Ix T G (pre ++ [x]) W) a1 W2) (fun _ _ _ => False))
        { tmps := (ps.zip (enc x)).foldl (fun t (p, v) => t.setIfInBounds p v) a.tmps, defers := [] } W)
    (hdone : ∀ (D : Nat) (T G : BS) (xs : List α) (W : World), w.heap.size ≤ D → ¬ T D → G D → R xs → I T G xs W → W.heap[D]? = some (.deferred (some [])) → Q .normal { a with defers := { target := .collected D, args := #[] } :: a.defers } W)
    (hstop : ∀ (D : Nat) (T G : BS) (c : Option Nat) (xs : List α) (W : World), w.heap.size ≤ D → ¬ T D → G D → Ix c T G xs W → W.heap[D]? = some (.deferred (some [])) → (jumpOf c).wpIn Fence.wide 3 P Q { a with defers := { target := .collected D, args := #[] } :: a.defers } W) :
    (Code.rangeFunc fo ps assign body).wpIn Fence.wide 3 P Q a w := by
  refine wpIn_rangeFunc ?_
  intro fn hfn
  obtain ⟨D, hD⟩ : ∃ D, D = w.heap.size := ⟨_, rfl⟩
  obtain ⟨L, hL⟩ : ∃ L, L = w.heap.size + 1 := ⟨_, rfl⟩
  obtain ⟨rec, hrec⟩ : ∃ rec : LoopState → Option Code → Loop, rec = fun st pe => { state := st, pending := pe, fn, tmps := a.tmps, params := ps, assign, body, defers := w.heap.size } := ⟨_, rfl⟩
  obtain ⟨W1, hW1⟩ : ∃ W1, (w.alloc (.deferred (some []))).alloc (.loop (rec .ready none)) = W1 := ⟨_, rfl⟩
  have hL1 : W1.heap[L]? = some (.loop (rec .ready none)) := by
    rw [← hW1, hL]; have := World.alloc_heap_new (w.alloc (.deferred (some []))) (.loop (rec .ready none)); rwa [World.size_alloc] at this
  have hK1 : W1.heap[D]? = some (.deferred (some [])) := by
    rw [← hW1, hD]; exact (Below.heap_alloc _ _ _ (by simp)).trans (World.alloc_heap_new w _)
  have hP1 : Pure w W1 := by rw [← hW1]; exact ((Keeps.refl _ _).alloc _).alloc _
  have hs1 : W1.heap.size = w.heap.size + 2 := by rw [← hW1]; simp
  have two0 := hI2 h0
  refine ⟨L, [{ target := .collected D, args := #[] }], W1, { target := .fn (.func gf) lb, args := #[.func (.yield L) #[] #[]] }, W1, gf, #[.func (.yield L) #[] #[]] ++ lb, W1, ?_, ?_, fun _ _ => trivial, ?_, fun h => (by cases h), ?_⟩
  · rw [← hW1, hrec, hL, hD]; exact run_enterLoop_outer _ _ _ _ _
  · simp only [resolve, hr]
    simp [go_sem]
  · simp [invoke, go_sem, he _ _]
  · have key := hgen L
      (fun Tg G pre W => ∃ T, (∀ k, Tg k ↔ T k ∨ k = L ∨ k = D) ∧ I T (fun k => G k ∨ k = L ∨ k = D) pre W ∧ W.heap[L]? = some (.loop (rec .ready none)) ∧ W.heap[D]? = some (.deferred (some [])) ∧ ¬ G L ∧ ¬ G D ∧ ¬ T D)
      (fun Tg G pre W => ∃ T c, (∀ k, Tg k ↔ T k ∨ k = L ∨ k = D) ∧ Ix c T (fun k => G k ∨ k = L ∨ k = D) pre W ∧ W.heap[L]? = some (.loop (rec .done (some (jumpOf c)))) ∧ W.heap[D]? = some (.deferred (some [])) ∧ ¬ G L ∧ ¬ G D ∧ ¬ T D)
      (fun k => T0 k ∨ k = L ∨ k = D) W1 ⟨?_, ?_, ?_, ?_, ?_⟩ ⟨T0, fun _ => Iff.rfl, ?_, hL1, hK1, ?_, ?_, ?_⟩ hP1 (fun k hk => ?_)
    · refine (show CallsIn Fence.wide (3 - 1) P gf _ W1 _ from key).mono ?_
      rintro e W2 ⟨⟨v, rfl⟩, (⟨xs, Tg, G, hR, T, hT, hi, hl, hd, g1, g2, g3⟩ | ⟨pre, Tg, G, T, c, hT, hi, hl, hd, g1, g2, g3⟩)⟩
      · refine ⟨none, W2.putObj L (.loop { rec .ready none with state := .exhausted }), by have := run_endLoop (P := P) hl (by rw [hrec]; simp); rw [hrec] at this ⊢; exact this, ?_⟩
        have hLl : L < W2.heap.size := (Array.getElem?_eq_some_iff.1 hl).1
        have hlt := (hI2 hi).2
        exact hdone D T _ xs _ (by omega) g3 (.inr (.inr rfl)) hR (hI hi ((yij _ _ _).mono fun k _ e => .inr (.inl e)) (fun k h => .inl h) (fun k h => by rw [yih]; exact hlt k h)) ((World.putObj_heap_other (by omega)).trans hd)
      · refine ⟨some (jumpOf c), W2.putObj L (.loop { rec .done (some (jumpOf c)) with state := .exhausted }), by have := run_endLoop (P := P) hl (by rw [hrec]; simp); rw [hrec] at this ⊢; exact this, ?_⟩
        have hlt := (hIx2 c hi).2
        exact hstop D T _ c pre _ (by omega) g3 (.inr (.inr rfl)) (hIx c hi ((yij _ _ _).mono fun k _ e => .inr (.inl e)) (fun k h => .inl h) (fun k h => by rw [yih]; exact hlt k h)) ((World.putObj_heap_other (by omega)).trans hd)
    · -- the generator's steps
      rintro Tg G G' pre W W' ⟨T, hT, hi, hl, hd, g1, g2, g3⟩ hK hG hGl
      have lL := (Array.getElem?_eq_some_iff.1 hl).1
      have lD := (Array.getElem?_eq_some_iff.1 hd).1
      refine ⟨T, hT, hI hi (hK.mono fun k _ h => .inl h) (fun k h => ?_) (fun k h => ?_), (hK.block L lL g1).trans hl, (hK.block D lD g2).trans hd, fun h => ?_, fun h => ?_, g3⟩
      · rcases h with h | h
        · rcases hG k h with q | q
          · exact .inl (.inl q)
          · exact .inr q
        · exact .inl (.inr h)
      · rcases h with h | h | h
        · exact hGl k h
        · rw [h]; exact Nat.lt_of_lt_of_le lL hK.size
        · rw [h]; exact Nat.lt_of_lt_of_le lD hK.size
      · rcases hG L h with q | q
        · exact g1 q
        · omega
      · rcases hG D h with q | q
        · exact g2 q
        · omega
    · rintro Tg G G' pre W W' ⟨T, c, hT, hi, hl, hd, g1, g2, g3⟩ hK hG hGl
      have lL := (Array.getElem?_eq_some_iff.1 hl).1
      have lD := (Array.getElem?_eq_some_iff.1 hd).1
      refine ⟨T, c, hT, hIx c hi (hK.mono fun k _ h => .inl h) (fun k h => ?_) (fun k h => ?_), (hK.block L lL g1).trans hl, (hK.block D lD g2).trans hd, fun h => ?_, fun h => ?_, g3⟩
      · rcases h with h | h
        · rcases hG k h with q | q
          · exact .inl (.inl q)
          · exact .inr q
        · exact .inl (.inr h)
      · rcases h with h | h | h
        · exact hGl k h
        · rw [h]; exact Nat.lt_of_lt_of_le lL hK.size
        · rw [h]; exact Nat.lt_of_lt_of_le lD hK.size
      · rcases hG L h with q | q
        · exact g1 q
        · omega
      · rcases hG D h with q | q
        · exact g2 q
        · omega
    · rintro Tg G pre W ⟨T, hT, hi, hl, hd, g1, g2, g3⟩
      have lL := (Array.getElem?_eq_some_iff.1 hl).1
      refine ⟨fun k hk => ?_, fun k hk => (hI2 hi).2 k (.inl hk)⟩
      rcases (hT k).1 hk with q | q
      · exact ⟨fun hg => ((hI2 hi).1 k q).1 (.inl hg), ((hI2 hi).1 k q).2⟩
      · rcases q with q | q
        · rw [q]; exact ⟨g1, lL⟩
        · rw [q]; exact ⟨g2, (Array.getElem?_eq_some_iff.1 hd).1⟩
    · rintro Tg G pre W ⟨T, c, hT, hi, hl, hd, g1, g2, g3⟩
      have lL := (Array.getElem?_eq_some_iff.1 hl).1
      refine ⟨fun k hk => ?_, fun k hk => (hIx2 c hi).2 k (.inl hk)⟩
      rcases (hT k).1 hk with q | q
      · exact ⟨fun hg => ((hIx2 c hi).1 k q).1 (.inl hg), ((hIx2 c hi).1 k q).2⟩
      · rcases q with q | q
        · rw [q]; exact ⟨g1, lL⟩
        · rw [q]; exact ⟨g2, (Array.getElem?_eq_some_iff.1 hd).1⟩
    · -- one round
      rintro Tg G pre x W ⟨T, hT, hi, hl, hd, g1, g2, g3⟩ hPr hpass
      have lL := (Array.getElem?_eq_some_iff.1 hl).1
      have lD := (Array.getElem?_eq_some_iff.1 hd).1
      have hy := run_yield (P := P) (args := enc x) hl (by rw [hrec]; exact hps x)
      rw [hrec] at hy
      have hp2 : (pass x).P (fun k => T k ∨ (G k ∨ k = L ∨ k = D)) W := (pass x).sub hpass (fun k _ h => by
        rcases h with h | h | h
        · exact .inl ((hT k).2 (.inl h))
        · exact .inr h
        · exact .inl ((hT k).2 (.inr h)))
      refine ⟨fn, _, assign, body, hy, roundIn_of_wpIn hfn (wpIn_mono (hround L T _ pre x W _ (.loop { rec .ready none with state := .busy }) hi hPr hp2 (.inr (.inl rfl)) hl) ?_)⟩
      rintro e1 a1 V1 hq
      cases e1 with
      | exit id => exact hq.elim
      | ret => exact hq.elim
      | goto l => exact hq.elim
      | panic c => exact hq.elim
      | outgrown => exact hq.elim
      | normal =>
      obtain ⟨hl1, hb1⟩ := hq
      refine ⟨_, run_beginRound hl1 (by rw [hrec]), wpIn_mono (hb1 _ rfl) ?_⟩
      have fin : ∀ (T' : BS) (jump : Option Code) (W3 : World), RL1 L (.loop { rec .ready none with state := .busy }) T W T' W3 →
          (Instr.endRound L jump).run P W3 = .ok (.bool jump.isNone) (W3.putObj L (.loop (rec (if jump.isNone then .ready else .done) jump))) ∧
          (W3.putObj L (.loop (rec (if jump.isNone then .ready else .done) jump))).heap[L]? = some (.loop (rec (if jump.isNone then .ready else .done) jump)) ∧
          (W3.putObj L (.loop (rec (if jump.isNone then .ready else .done) jump))).heap[D]? = some (.deferred (some [])) ∧
          RK Tg W (fun k => T' k ∨ k = L ∨ k = D) (W3.putObj L (.loop (rec (if jump.isNone then .ready else .done) jump))) ∧ Keeps (fun k => k = L) W3 (W3.putObj L (.loop (rec (if jump.isNone then .ready else .done) jump))) ∧ L < W3.heap.size ∧ ¬ T' D := fun T' jump W3 hk3 => by
        have hl3 : W3.heap[L]? = some (.loop { rec .ready none with state := .busy }) := hk3.at_
        have hd3 : W3.heap[D]? = some (.deferred (some [])) := (hk3.keeps.block D (by omega) (fun h => h.elim g3 (fun e => by omega))).trans hd
        have lL3 := (Array.getElem?_eq_some_iff.1 hl3).1
        have hrun := run_endRound (P := P) jump hl3
        rw [hrec] at hrun ⊢
        have hkk := yij W3 L (.loop ((fun st pe => ({ state := st, pending := pe, fn, tmps := a.tmps, params := ps, assign, body, defers := w.heap.size } : Loop)) (if jump.isNone then .ready else .done) jump))
        refine ⟨hrun, World.putObj_heap_same lL3, (World.putObj_heap_other (by omega)).trans hd3, ⟨(Keeps.refl (fun _ => False) W).trans' hk3.keeps hkk (T := Tg) (fun k e => e.elim) (fun k e => e.elim (fun e => (hT k).2 (.inl e)) (fun e => (hT k).2 (.inr (.inl e)))) (fun k e => (hT k).2 (.inr (.inl e))), fun k h => ?_, fun k h => ?_⟩, hkk, lL3, fun h => ?_⟩
        · rcases h with h | h
          · rcases hk3.sub k h with q | q
            · exact .inl ((hT k).2 (.inl q))
            · exact .inr (by omega)
          · exact .inl ((hT k).2 (.inr h))
        · rw [yih]
          rcases h with h | h
          · exact hk3.lt k h
          · rcases h with h | h
            · rw [h]; exact lL3
            · rw [h]; exact (Array.getElem?_eq_some_iff.1 hd3).1
        · rcases hk3.sub D h with q | q
          · exact g3 q
          · omega
      rintro e a3 W3 hp
      cases e with
      | normal =>
        obtain ⟨T', hk3, hi3⟩ := hp
        obtain ⟨hr3, hl4, hd4, hrk, hkk, lL3, hTD⟩ := fin T' none W3 hk3
        exact ⟨_, _, hr3, _, hrk, .inl ⟨rfl, T', fun _ => Iff.rfl, hI hi3 (hkk.mono fun k _ e => .inr (.inl e)) (fun k h => .inl h) (fun k h => by rw [yih]; exact (hI2 hi3).2 k h), hl4, hd4, g1, g2, hTD⟩⟩
      | ret =>
        obtain ⟨T', hk3, hi3⟩ := hp
        obtain ⟨hr3, hl4, hd4, hrk, hkk, lL3, hTD⟩ := fin T' (some .ret) W3 hk3
        exact ⟨_, _, hr3, _, hrk, .inr ⟨rfl, T', none, fun _ => Iff.rfl, hIx none hi3 (hkk.mono fun k _ e => .inr (.inl e)) (fun k h => .inl h) (fun k h => by rw [yih]; exact (hIx2 none hi3).2 k h), hl4, hd4, g1, g2, hTD⟩⟩
      | exit id =>
        obtain ⟨T', hk3, hi3⟩ := hp
        obtain ⟨hr3, hl4, hd4, hrk, hkk, lL3, hTD⟩ := fin T' (some (.exit id)) W3 hk3
        exact ⟨_, _, hr3, _, hrk, .inr ⟨rfl, T', some id, fun _ => Iff.rfl, hIx (some id) hi3 (hkk.mono fun k _ e => .inr (.inl e)) (fun k h => .inl h) (fun k h => by rw [yih]; exact (hIx2 (some id) hi3).2 k h), hl4, hd4, g1, g2, hTD⟩⟩
      | goto t => exact hp.elim
      | panic ch => exact hp.elim
      | outgrown => exact hp.elim
    · have hsz : ∀ k, G0 k → k < w.heap.size := two0.2
      exact hI h0 (G := G0) (hP1.mono fun k _ h => h.elim) (fun k h => h.elim .inl (fun e => .inr (by omega))) (fun k h => h.elim (fun h => by have := hsz k h; omega) (fun e => by omega))
    · intro h; have := two0.2 L h; omega
    · intro h; have := two0.2 D h; omega
    · intro h; have := (two0.1 D h).2; omega
    · rcases hk with h | h
      · exact .inl h
      · exact .inr (by omega)
theorem wt_iter {P : Program} {N : Nat} {Q : Exit → Act → World → Prop} {E : Env} {ds : List Deferred} {w : World} {t : List Item} {fo : Operand} {ps : Array Tmp} {assign body : Code} {gf : FuncId} {lb : Array Value}
    (hr : evE E fo = .func (.func gf) #[] lb) (he : Enters P gf) {α : Type} {val : α → Array Value} {pass : α → FP} {Pr R : List α → Prop} (hps : ∀ x, (val x).size = ps.size) (hpN : ps.toList.all (fun p => Nat.blt p N) = true)
    (T0 G0 : BS) (I : BS → BS → List α → World → Prop) (Ix : Option Nat → BS → BS → List α → World → Prop) (hI : yip I) (hI2 : yin I) (hIx : ∀ c, yip (Ix c)) (hIx2 : ∀ c, yin (Ix c)) (h0 : I T0 G0 [] w)
    (hgen : ymi P gf lb val pass Pr R T0 G0 w)
    (hround : ∀ (l : Nat) (T G : BS) (pre : List α) (x : α) (W : World) (rdy busy : Obj), I T G pre W → Pr (pre ++ [x]) → (pass x).P (fun k => T k ∨ G k) W → G l → W.heap[l]? = some rdy →
      WT (Fence.wide.inRound l) 1 P N [.code assign] (fun e a1 W1 => e = .normal ∧ ∃ E1, Rep N E1 [] a1 ∧ W1.heap[l]? = some rdy ∧ ∀ W2, W2 = W1.putObj l busy → WT (Fence.wide.inRound l) 1 P N [.code body] (rndPost l busy I Ix T G (pre ++ [x]) W) E1 [] W2) (setE E (ps.toList.zip (val x).toList)) [] W)
    (hdone : ∀ (D : Nat) (T G : BS) (xs : List α) (W : World), w.heap.size ≤ D → ¬ T D → G D → R xs → I T G xs W → W.heap[D]? = some (.deferred (some [])) → WT Fence.wide 3 P N t Q E ({ target := .collected D, args := #[] } :: ds) W)
    (hstop : ∀ (D : Nat) (T G : BS) (c : Option Nat) (xs : List α) (W : World), w.heap.size ≤ D → ¬ T D → G D → Ix c T G xs W → W.heap[D]? = some (.deferred (some [])) → JumpTo P N t Q E ({ target := .collected D, args := #[] } :: ds) W c) :
    WT Fence.wide 3 P N (.code (.rangeFunc fo ps assign body) :: t) Q E ds w := by
  intro a ra
  let mk : Env → Act := fun E' => { tmps := Array.ofFn (n := N) fun i => E' i, defers := [] }
  have hmk : ∀ E' : Env, (∀ t, N ≤ t → E' t = undef) → Rep N E' [] (mk E') := by
    intro E' h
    refine ⟨by simp [mk], fun t => ?_, rfl⟩
    simp only [mk, Array.getD_eq_getD_getElem?]
    rcases Nat.lt_or_ge t N with ht | ht
    · simp [ht]
    · simp [ht, h t ht]
  have hun : ∀ {E' : Env} {ds' : List Deferred} {a' : Act}, Rep N E' ds' a' → ∀ t, N ≤ t → E' t = undef := by
    intro E' ds' a' h t ht
    rw [← h.get t]
    simp [Array.getD_eq_getD_getElem?, h.size, ht]
  have hpr : ∀ x, Rep N (setE E (ps.toList.zip (val x).toList)) [] { tmps := (ps.zip (val x)).foldl (fun t (p, v) => t.setIfInBounds p v) a.tmps, defers := [] } := by
    intro x
    have h1 : Rep N E [] { tmps := a.tmps, defers := [] } := ⟨ra.size, ra.get, rfl⟩
    have h2 := setE_rep (ps.toList.zip (val x).toList) E [] _ h1 (fun p hp => by
      have := List.all_eq_true.1 hpN p.1 (List.of_mem_zip hp).1
      simpa using this)
    have h3 : (ps.zip (val x)).foldl (fun t (p, v) => t.setIfInBounds p v) a.tmps = (ps.toList.zip (val x).toList).foldl (fun t p => t.setIfInBounds p.1 p.2) a.tmps := by
      rw [← Array.foldl_toList, Array.toList_zip]
    rw [h3]; exact h2
  refine WTa.ofx (wpIn_iter (N := N) (E := E) (ds := ds) (t := t) (a := a) (by rw [ra.eval, hr]) he hps T0 G0 I Ix hI hI2 hIx hIx2 h0 hgen ?_ ?_ ?_)
  · intro l T G pre x W rdy busy hi hp hq hg hl
    refine wpIn_mono (WTa.code (hround l T G pre x W rdy busy hi hp hq hg hl _ (hpr x))) ?_
    rintro e a1 W1 ⟨rfl, E1, r1, h1, h2⟩
    exact ⟨h1, fun W2 hW => WTa.code (h2 W2 hW _ r1)⟩
  · intro D T G xs W hD hT hG hR hi hd
    exact hdone D T G xs W hD hT hG hR hi hd _ ⟨ra.size, ra.get, by rw [ra.defers]⟩
  · intro D T G c xs W hD hT hG hi hd
    have hj := hstop D T G c xs W hD hT hG hi hd
    have ra2 : Rep N E ({ target := .collected D, args := #[] } :: ds) { a with defers := { target := .collected D, args := #[] } :: a.defers } := ⟨ra.size, ra.get, by rw [ra.defers]⟩
    cases c with
    | none => exact WTa.code (WTa.ret (hj _ ra2))
    | some id =>
      refine WTa.code (WTa.leave rfl ?_)
      unfold JumpTo at hj
      cases hq : exitTo id t with
      | none => simp only [hq] at hj ⊢; exact hj _ ra2
      | some k' => simp only [hq] at hj ⊢; exact hj _ ra2
def OwnB (L : Hold) : BS := fun k => ∃ i, (L i).blk = some k
structure Two (w0 : World) (S O G : BS) (W : World) (L : Hold) : Prop where
  pure : Keeps S w0 W
  lt : ∀ k, O k → k < w0.heap.size ∧ ¬ S k
  g : ∀ k, G k → k < W.heap.size ∧ (w0.heap.size ≤ k ∨ S k) ∧ ∀ i, (L i).blk ≠ some k
  ok : ∀ i, (L i).ok 0 (Bl (fun k => O k ∨ G k) L) W
  bd : ∀ i k, (L i).blk = some k → w0.heap.size ≤ k ∨ S k
  nd : ∀ i j k, (L i).blk = some k → (L j).blk = some k → i = j
section
variable {w0 w w' W W' : World} {S O G G' T : BS} {L L' : Hold}
theorem yiw {js : List Nat} {i k : Nat} (h : (rl (js.map L) i).blk = some k) : ∃ j, js[i]? = some j ∧ (L j).blk = some k := by
  rw [rl_map] at h
  cases hq : js[i]? with
  | none => rw [hq] at h; cases h
  | some j => rw [hq] at h; exact ⟨j, rfl, h⟩
theorem Sep.give (h : Sep w0 S O w L) (js gs : List Nat) (hj : js.Nodup) (hg : gs.Nodup) (hf : allJ (fun j => (j ∉ js) ∨ (L j).blk = none) gs) :
    Two w0 S O (OwnB (rl (gs.map L))) w (rl (js.map L)) ∧ Sep w (OwnB (rl (gs.map L))) (Bl O (rl (js.map L))) w (rl (gs.map L)) := by
  have hdis : ∀ a b k, (rl (js.map L) a).blk = some k → (rl (gs.map L) b).blk = some k → False := fun a b k ha hb => by
    obtain ⟨j1, e1, b1⟩ := yiw ha
    obtain ⟨j2, e2, b2⟩ := yiw hb
    have := h.nd j1 j2 k b1 b2
    subst this
    rcases hf.out j1 (List.mem_of_getElem? e2) with q | q
    · exact q (List.mem_of_getElem? e1)
    · rw [q] at b1; cases b1
  have hO : ∀ k, (OwnB L) k → ¬ O k := fun k ⟨i, hi⟩ hk => by
    have := h.lt k hk
    rcases h.bd i k hi with q | q
    · omega
    · exact this.2 q
  have hsz : ∀ i k, (L i).blk = some k → k < w.heap.size := fun i k hk => ((h.ok i).lt hk).2
  have ndl : ∀ (l : List Nat), l.Nodup → ∀ a b k, (rl (l.map L) a).blk = some k → (rl (l.map L) b).blk = some k → a = b := fun l hl a b k ha hb => by
    obtain ⟨j1, e1, b1⟩ := yiw ha
    obtain ⟨j2, e2, b2⟩ := yiw hb
    have := h.nd j1 j2 k b1 b2
    subst this
    obtain ⟨l1, q1⟩ := List.getElem?_eq_some_iff.1 e1
    obtain ⟨l2, q2⟩ := List.getElem?_eq_some_iff.1 e2
    exact (List.getElem_inj hl).1 (q1.trans q2.symm)
  have okl : ∀ (l : List Nat) (O' : BS), (∀ k, O' k → Bl O L k) → ∀ i, (rl (l.map L) i).ok 0 O' w := fun l O' ho i => by
    rw [rl_map]
    cases hq : l[i]? with
    | none => trivial
    | some j => exact (h.ok j).sub fun k _ hk => ho k hk
  have inl : ∀ (l : List Nat) k, OwnB (rl (l.map L)) k → OwnB L k := fun l k ⟨i, hi⟩ => by
    obtain ⟨j, _, hb⟩ := yiw hi
    exact ⟨j, hb⟩
  refine ⟨⟨h.pure, h.lt, fun k hk => ?_, ?_, fun i k hk => ?_, ndl js hj⟩, ⟨Keeps.refl _ _, fun k hk => ?_, ?_, fun i k hk => .inr ⟨i, hk⟩, ndl gs hg⟩⟩
  · obtain ⟨j, hb⟩ := inl gs k hk
    obtain ⟨i, hi⟩ := hk
    exact ⟨hsz j k hb, h.bd j k hb, fun a ha => hdis a i k ha hi⟩
  · refine okl js _ fun k hk => ?_
    rcases hk with (q | q) | q
    · exact .inl q
    · exact .inr (inl gs k q)
    · exact .inr (inl js k q)
  · obtain ⟨j, _, hb⟩ := yiw hk
    exact h.bd j k hb
  · rcases hk with q | ⟨i, q⟩
    · exact ⟨Nat.lt_of_lt_of_le (h.lt k q).1 h.pure.size, fun hg => hO k (inl gs k hg) q⟩
    · obtain ⟨j, _, hb⟩ := yiw q
      exact ⟨hsz j k hb, fun ⟨b, hb2⟩ => hdis i b k q hb2⟩
  · refine okl gs _ fun k hk => ?_
    rcases hk with (q | q) | q
    · exact .inl q
    · exact .inr (inl js k q)
    · exact .inr (inl gs k q)
theorem Two.gen (h : Two w0 S O G W L) (hK : Keeps G W W') (hG : ∀ k, G' k → G k ∨ W.heap.size ≤ k) (hl : ∀ k, G' k → k < W'.heap.size) : Two w0 S O G' W' L := by
  have hlt : ∀ i k, (L i).blk = some k → k < W.heap.size := fun i k hk => ((h.ok i).lt hk).2
  refine ⟨h.pure.then hK (fun k hk q => (h.g k q).2.1.elim (fun r => by omega) id), h.lt, fun k hk => ⟨hl k hk, ?_, fun i hi => ?_⟩, fun i => ?_, h.bd, h.nd⟩
  · rcases hG k hk with q | q
    · exact (h.g k q).2.1
    · exact .inl (Nat.le_trans h.pure.size q)
  · rcases hG k hk with q | q
    · exact (h.g k q).2.2 i hi
    · have := hlt i k hi; omega
  · refine (h.ok i).keep hK (fun k hk hg => (h.g k hg).2.2 i hk) (fun k _ hg => .inl (.inr hg)) fun k hk hO => ?_
    rcases hO with (q | q) | q
    · exact .inl (.inl q)
    · rcases hG k q with r | r
      · exact .inl (.inr r)
      · omega
    · exact .inr q
theorem Two.round (h : Two w0 S O G W L) : Sep W (OwnB L) (fun k => O k ∨ G k) W L := by
  refine ⟨Keeps.refl _ _, fun k hk => ?_, h.ok, fun i k hk => .inr ⟨i, hk⟩, h.nd⟩
  rcases hk with q | q
  · refine ⟨Nat.lt_of_lt_of_le (h.lt k q).1 h.pure.size, fun ⟨i, hi⟩ => ?_⟩
    rcases h.bd i k hi with r | r
    · have := (h.lt k q).1; omega
    · exact (h.lt k q).2 r
  · exact ⟨(h.g k q).1, fun ⟨i, hi⟩ => (h.g k q).2.2 i hi⟩
theorem Two.back (h : Two w0 S O G W L) (hS : Sep W (OwnB L) (fun k => O k ∨ G k) W' L') : Two w0 S O G W' L' ∧ RK (Bl O L) W (Bl O L') W' := by
  have hbd : ∀ i k, (L' i).blk = some k → OwnB L k ∨ W.heap.size ≤ k := fun i k hk => (hS.bd i k hk).symm
  refine ⟨⟨h.pure.then hS.pure (fun k hk ⟨i, hi⟩ => (h.bd i k hi).elim (fun r => by omega) id), h.lt, fun k hk => ⟨Nat.lt_of_lt_of_le (h.g k hk).1 hS.pure.size, (h.g k hk).2.1, fun i hi => ?_⟩, hS.ok, fun i k hk => ?_, hS.nd⟩, ⟨hS.pure.mono fun k _ q => .inr q, fun k hk => ?_, fun k hk => ?_⟩⟩
  · rcases hbd i k hi with ⟨j, q⟩ | q
    · exact (h.g k hk).2.2 j q
    · have := (h.g k hk).1; omega
  · rcases hbd i k hk with ⟨j, q⟩ | q
    · exact h.bd j k q
    · exact .inl (Nat.le_trans h.pure.size q)
  · rcases hk with q | ⟨i, q⟩
    · exact .inl (.inl q)
    · rcases hbd i k q with r | r
      · exact .inl (.inr r)
      · exact .inr r
  · rcases hk with q | ⟨i, q⟩
    · exact Nat.lt_of_lt_of_le (h.lt k q).1 (Nat.le_trans h.pure.size hS.pure.size)
    · exact ((hS.ok i).lt q).2
end
def IV {α : Type} (w0 : World) (S O : BS) (V : List α → List Res → Prop) : BS → BS → List α → World → Prop := fun T G pre W => ∃ LL, T = Bl O (rl LL) ∧ Two w0 S O G W (rl LL) ∧ V pre LL
theorem IV.gen {α : Type} (w0 : World) (S O : BS) (V : List α → List Res → Prop) : yip (IV w0 S O V) := by
  rintro T G G' pre W W' ⟨L, rfl, h, hV⟩ hK hG hl
  exact ⟨L, rfl, h.gen hK hG hl, hV⟩
theorem IV.two {α : Type} (w0 : World) (S O : BS) (V : List α → List Res → Prop) : yin (IV w0 S O V) := by
  rintro T G pre W ⟨L, rfl, h, hV⟩
  refine ⟨fun k hk => ?_, fun k hk => (h.g k hk).1⟩
  rcases hk with q | ⟨i, q⟩
  · refine ⟨fun hg => ?_, Nat.lt_of_lt_of_le (h.lt k q).1 h.pure.size⟩
    rcases (h.g k hg).2.1 with r | r
    · have := (h.lt k q).1; omega
    · exact (h.lt k q).2 r
  · exact ⟨fun hg => (h.g k hg).2.2 i q, ((h.ok i).lt q).2⟩
def dfr (D : Nat) : Res := .obj D (.deferred (some []))
theorem yix : ∀ (LL : List Res) (r : Res), rl (LL ++ [r]) = stl (rl LL) LL.length r
  | [], r => by funext i; cases i <;> rfl
  | x :: t, r => by
    funext i
    cases i with
    | zero => rfl
    | succ i =>
      show rl (t ++ [r]) i = _
      rw [yix t r]
      by_cases e : i = t.length
      · subst e; rw [ybx, List.length_cons, ybx]
      · rw [yaQ _ _ e, List.length_cons, yaQ _ _ (by omega)]; rfl
theorem yii : ∀ (LL : List Res), rl LL LL.length = .gone
  | [] => rfl
  | _ :: t => yii t
theorem Two.take {w0 W : World} {S O G : BS} {L : Hold} (h : Two w0 S O G W L) {D i : Nat} {o : Obj} (hi : L i = .gone) (hD : G D) (hd : W.heap[D]? = some o) :
    (∀ j, (stl L i (.obj D o) j).ok 0 (Bl (fun k => O k ∨ G k) L) W) ∧ (∀ k, Bl (fun k => O k ∨ (G k ∧ k ≠ D)) (stl L i (.obj D o)) k → Bl (fun k => O k ∨ G k) L k) ∧ (∀ a b k, (stl L i (.obj D o) a).blk = some k → (stl L i (.obj D o) b).blk = some k → a = b) ∧ ∀ j k, (stl L i (.obj D o) j).blk = some k → OwnB L k ∨ k = D := by
  refine ⟨fun j => ?_, ?_, fun a b k ha hb' => ?_, fun j k hk => ?_⟩
  · by_cases e : j = i
    · subst e; rw [ybx]; exact ⟨Nat.zero_le _, hd⟩
    · rw [yaQ _ _ e]; exact h.ok j
  · rintro k ((q | q) | ⟨j, q⟩)
    · exact .inl (.inl q)
    · exact .inl (.inr q.1)
    · by_cases e : j = i
      · subst e; rw [ybx] at q; cases q; exact .inl (.inr hD)
      · rw [yaQ _ _ e] at q; exact .inr ⟨j, q⟩
  · have key : ∀ a b, a ≠ i → b = i → (stl L i (.obj D o) a).blk = some k → (stl L i (.obj D o) b).blk = some k → False := fun a b h1 h2 ha hb' => by
      subst h2
      rw [yaQ _ _ h1] at ha
      rw [ybx] at hb'
      cases hb'
      exact (h.g D hD).2.2 a ha
    by_cases e1 : a = i
    · by_cases e2 : b = i
      · omega
      · exact (key b a e2 e1 hb' ha).elim
    · by_cases e2 : b = i
      · exact (key a b e1 e2 ha hb').elim
      · rw [yaQ _ _ e1] at ha; rw [yaQ _ _ e2] at hb'; exact h.nd _ _ k ha hb'
  · by_cases e : j = i
    · subst e; rw [ybx] at hk; cases hk; exact .inr rfl
    · rw [yaQ _ _ e] at hk; exact .inl ⟨j, hk⟩
theorem Two.mark {w0 W : World} {S O G : BS} {LL : List Res} (h : Two w0 S O G W (rl LL)) {D : Nat} (hD : G D) (hd : W.heap[D]? = some (.deferred (some []))) : Sep w0 S O W (rl (LL ++ [dfr D])) := by
  obtain ⟨h1, h2, h3, h4⟩ := h.take (yii LL) hD hd
  rw [yix]
  refine ⟨h.pure, h.lt, fun j => (h1 j).sub fun k _ hk => h2 k (hk.elim (fun q => .inl (.inl q)) .inr), fun j k hk => ?_, h3⟩
  rcases h4 j k hk with ⟨i, q⟩ | q
  · exact h.bd i k q
  · rw [q]; exact (h.g D hD).2.1
theorem Two.open_ {w0 W : World} {S O G : BS} {LL : List Res} (h : Two w0 S O G W (rl LL)) {l : Nat} {o : Obj} (hG : G l) (hl : W.heap[l]? = some o) : Sep W (fun k => OwnB (rl LL) k ∨ k = l) (fun k => O k ∨ (G k ∧ k ≠ l)) W (rl (LL ++ [.obj l o])) := by
  obtain ⟨h1, h2, h3, h4⟩ := h.take (yii LL) hG hl
  rw [yix]
  have hr := h.round
  refine ⟨Keeps.refl _ _, fun k hk => ?_, fun j => (h1 j).sub fun k _ hk => h2 k hk, fun j k hk => .inr (h4 j k hk), h3⟩
  rcases hk with q | q
  · have := hr.lt k (.inl q)
    refine ⟨this.1, fun h5 => h5.elim this.2 fun e => ?_⟩
    subst e
    rcases (h.g k hG).2.1 with r | r
    · have := (h.lt k q).1; omega
    · exact (h.lt k q).2 r
  · have := hr.lt k (.inr q.1)
    exact ⟨this.1, fun h5 => h5.elim this.2 q.2⟩
theorem Sep.flip {w0 w w' : World} {S O : BS} {L : Hold} (h : Sep w0 S O w L) (i : Nat) {l : Nat} {o : Obj} (hi : L i = .obj l o) (o' : Obj) (hw : w' = w.putObj l o') : Sep w0 S O w' (stl L i (.obj l o')) := by
  have hl : w.heap[l]? = some o := by have := h.ok i; rw [hi] at this; exact this.2
  subst hw
  exact h.upd i _ (T := fun k => k = l) (yij _ _ _) (fun k _ e => by rw [hi, e]; rfl) (fun k hk => by cases hk; rw [hi]; exact .inl rfl) ⟨Nat.zero_le _, World.putObj_heap_same (Array.getElem?_eq_some_iff.1 hl).1⟩
theorem Two.close {w0 W W' : World} {S O G : BS} {LL LL' : List Res} (h : Two w0 S O G W (rl LL)) {l : Nat} {busy : Obj} (hG : G l)
    (hS : Sep W (fun k => OwnB (rl LL) k ∨ k = l) (fun k => O k ∨ (G k ∧ k ≠ l)) W' (rl (LL' ++ [.obj l busy]))) : Two w0 S O G W' (rl LL') ∧ RL1 l busy (Bl O (rl LL)) W (Bl O (rl LL')) W' := by
  rw [yix] at hS
  have ho : ∀ i, i ≠ LL'.length → stl (rl LL') LL'.length (.obj l busy) i = rl LL' i := fun i hi => yaQ _ _ hi
  have hne : ∀ i k, (rl LL' i).blk = some k → i ≠ LL'.length := fun i k hk e => by rw [e, yii] at hk; cases hk
  have hbl : ∀ k, Bl (fun k => O k ∨ G k) (rl LL') k → Bl (fun k => O k ∨ (G k ∧ k ≠ l)) (stl (rl LL') LL'.length (.obj l busy)) k := by
    rintro k ((q | q) | ⟨j, q⟩)
    · exact .inl (.inl q)
    · by_cases e : k = l
      · exact .inr ⟨LL'.length, by rw [ybx, e]; rfl⟩
      · exact .inl (.inr ⟨q, e⟩)
    · exact .inr ⟨j, by rw [ho j (hne j k q)]; exact q⟩
  have hnl : ∀ i k, (rl LL' i).blk = some k → k ≠ l := fun i k hk e => by
    subst e
    have := hS.nd i LL'.length k (by rw [ho i (hne i k hk)]; exact hk) (by rw [ybx]; rfl)
    exact hne i k hk this
  have hbd : ∀ i k, (rl LL' i).blk = some k → OwnB (rl LL) k ∨ W.heap.size ≤ k := fun i k hk => by
    rcases hS.bd i k (by rw [ho i (hne i k hk)]; exact hk) with q | q | q
    · exact .inr q
    · exact .inl q
    · exact absurd q (hnl i k hk)
  have hok : ∀ i, (rl LL' i).ok 0 (Bl (fun k => O k ∨ G k) (rl LL')) W' := fun i => by
    by_cases e : i = LL'.length
    · rw [e, yii]; trivial
    · have := hS.ok i
      rw [ho i e] at this
      exact this.sub fun k _ hk => hbl k hk
  have hat : W'.heap[l]? = some busy := by have := hS.ok LL'.length; rw [ybx] at this; exact this.2
  refine ⟨⟨h.pure.then hS.pure (fun k hk q => ?_), h.lt, fun k hk => ⟨Nat.lt_of_lt_of_le (h.g k hk).1 hS.pure.size, (h.g k hk).2.1, fun i hi => ?_⟩, hok, fun i k hk => ?_, fun i j k hi hj => hS.nd i j k (by rw [ho i (hne i k hi)]; exact hi) (by rw [ho j (hne j k hj)]; exact hj)⟩, ⟨hS.pure.mono fun k _ q => q.elim (fun q => .inl (.inr q)) .inr, fun k hk => ?_, fun k hk => ?_, hat⟩⟩
  · rcases q with ⟨i, q⟩ | q
    · exact (h.bd i k q).elim (fun r => by omega) id
    · rw [q] at hk ⊢; exact (h.g l hG).2.1.elim (fun r => by omega) id
  · rcases hbd i k hi with ⟨j, q⟩ | q
    · exact (h.g k hk).2.2 j q
    · have := (h.g k hk).1; omega
  · rcases hbd i k hk with ⟨j, q⟩ | q
    · exact h.bd j k q
    · exact .inl (Nat.le_trans h.pure.size q)
  · rcases hk with q | ⟨i, q⟩
    · exact .inl (.inl q)
    · rcases hbd i k q with r | r
      · exact .inl (.inr r)
      · exact .inr r
  · rcases hk with q | ⟨i, q⟩
    · exact Nat.lt_of_lt_of_le (h.lt k q).1 (Nat.le_trans h.pure.size hS.pure.size)
    · exact ((hok i).lt q).2
def rndS {α : Type} (l : Nat) (busy : Obj) (W : World) (S O : BS) (V : List α → List Res → Prop) (Vx : Option Nat → List α → List Res → Prop) (xs : List α) : Exit → Act → World → Prop
  | .normal, _, W' => ∃ LL, V xs LL ∧ Sep W S O W' (rl (LL ++ [.obj l busy]))
  | .ret, _, W' => ∃ LL, Vx none xs LL ∧ Sep W S O W' (rl (LL ++ [.obj l busy]))
  | .exit id, _, W' => ∃ LL, Vx (some id) xs LL ∧ Sep W S O W' (rl (LL ++ [.obj l busy]))
  | _, _, _ => False
theorem wt_iterS {P : Program} {N : Nat} {Q : Exit → Act → World → Prop} {E : Env} {ds : List Deferred} {w0 w : World} {S O : BS} {L : Hold} {t : List Item} {fo : Operand} {ps : Array Tmp} {assign body : Code} {gf : FuncId} {lb : Array Value}
    (hS : Sep w0 S O w L) (js gs : List Nat) (hj : js.Nodup) (hg : gs.Nodup) (hf : allJ (fun j => (j ∉ js) ∨ (L j).blk = none) gs)
    (hr : evE E fo = .func (.func gf) #[] lb) (he : Enters P gf) {α : Type} {val : α → Array Value} {pass : α → FP} {Pr R : List α → Prop} (hps : ∀ x, (val x).size = ps.size) (hpN : ps.toList.all (fun p => Nat.blt p N) = true)
    (V : List α → List Res → Prop) (Vx : Option Nat → List α → List Res → Prop) (h0 : V [] (js.map L))
    (hgen : ∀ T G, Sep w G T w (rl (gs.map L)) → ymi P gf lb val pass Pr R T G w)
    (hround : ∀ (l : Nat) (rdy busy : Obj) (S1 O1 : BS) (pre : List α) (x : α) (W : World) (LL : List Res), V pre LL → Pr (pre ++ [x]) → (pass x).P (Bl O1 (rl (LL ++ [.obj l rdy]))) W → Sep W S1 O1 W (rl (LL ++ [.obj l rdy])) →
      WT (Fence.wide.inRound l) 1 P N [.code assign] (fun e a1 W1 => e = .normal ∧ ∃ E1 L1, Rep N E1 [] a1 ∧ Sep W S1 O1 W1 L1 ∧ (∃ i, L1 i = .obj l rdy) ∧ ∀ W2, W2 = W1.putObj l busy → WT (Fence.wide.inRound l) 1 P N [.code body] (rndS l busy W S1 O1 V Vx (pre ++ [x])) E1 [] W2) (setE E (ps.toList.zip (val x).toList)) [] W)
    (hdone : ∀ (D : Nat) (xs : List α) (W : World) (LL : List Res), R xs → V xs LL → Sep w0 S O W (rl (LL ++ [dfr D])) → WT Fence.wide 3 P N t Q E (mark D :: ds) W)
    (hstop : ∀ (D : Nat) (c : Option Nat) (xs : List α) (W : World) (LL : List Res), Vx c xs LL → Sep w0 S O W (rl (LL ++ [dfr D])) → JumpTo P N t Q E (mark D :: ds) W c) :
    WT Fence.wide 3 P N (.code (.rangeFunc fo ps assign body) :: t) Q E ds w := by
  obtain ⟨hT, hG⟩ := hS.give js gs hj hg hf
  refine wt_iter hr he hps hpN (Bl O (rl (js.map L))) (OwnB (rl (gs.map L))) (IV w0 S O V) (fun c => IV w0 S O (Vx c)) (IV.gen _ _ _ _) (IV.two _ _ _ _) (fun c => IV.gen _ _ _ _) (fun c => IV.two _ _ _ _) ⟨_, rfl, hT, h0⟩ (hgen _ _ hG) ?_ ?_ ?_
  · rintro l T G pre x W rdy busy ⟨LL, rfl, h, hV⟩ hPr hp hGl hl
    have hb := hround l rdy busy (fun k => OwnB (rl LL) k ∨ k = l) (fun k => O k ∨ (G k ∧ k ≠ l)) pre x W LL hV hPr ((pass x).sub hp fun k _ hk => by
      rw [yix] at hk
      rcases (h.take (yii LL) hGl hl).2.1 k hk with (q | q) | q
      · exact .inl (.inl q)
      · exact .inr q
      · exact .inl (.inr q)) (h.open_ hGl hl)
    intro a ra b k cs h1 h2 h3
    obtain ⟨e, a', w', ⟨rfl, E1, L1, r1, s1, ⟨i, hi⟩, hq⟩, harr⟩ := hb a ra b k cs h1 h2 h3
    refine ⟨.normal, a', w', ⟨rfl, E1, r1, by have := s1.ok i; rw [hi] at this; exact this.2, fun W2 hW2 => ?_⟩, harr⟩
    intro a2 ra2 b2 k2 cs2 g1 g2 g3
    obtain ⟨e, a3, w3, hq, harr3⟩ := hq W2 hW2 a2 ra2 b2 k2 cs2 g1 g2 g3
    refine ⟨e, a3, w3, ?_, harr3⟩
    cases e with
    | normal => obtain ⟨L2, v2, s2⟩ := hq; obtain ⟨t2, r2⟩ := h.close hGl s2; exact ⟨_, r2, L2, rfl, t2, v2⟩
    | ret => obtain ⟨L2, v2, s2⟩ := hq; obtain ⟨t2, r2⟩ := h.close hGl s2; exact ⟨_, r2, L2, rfl, t2, v2⟩
    | exit id => obtain ⟨L2, v2, s2⟩ := hq; obtain ⟨t2, r2⟩ := h.close hGl s2; exact ⟨_, r2, L2, rfl, t2, v2⟩
    | goto t => exact hq.elim
    | panic ch => exact hq.elim
    | outgrown => exact hq.elim
  · rintro D T G xs W hD hTD hGD hR ⟨L', rfl, h, hV⟩ hd
    exact hdone D xs W L' hR hV (h.mark hGD hd)
  · rintro D T G c xs W hD hTD hGD ⟨L', rfl, h, hV⟩ hd
    exact hstop D c xs W L' hV (h.mark hGD hd)
section
variable {P : Program} {l : Nat} {α : Type} {val : α → Array Value} {pass : α → FP} {Pr : List α → Prop} {J Jx K : BS → BS → List α → World → Prop}
theorem Sep.yielded {wb w W' : World} {G T T' : BS} {L : Hold} (h : Sep wb G T w L) (hr : RK T w T' W') : Sep W' (OwnB L) T' W' L := by
  have hlt : ∀ i k, (L i).blk = some k → k < w.heap.size := fun i k hk => ((h.ok i).lt hk).2
  have hnT : ∀ i k, (L i).blk = some k → ¬ T k := fun i k hk hT => by
    rcases h.bd i k hk with r | r
    · have := (h.lt k hT).1; omega
    · exact (h.lt k hT).2 r
  refine ⟨Keeps.refl _ _, fun k hk => ⟨hr.lt k hk, fun ⟨i, hi⟩ => ?_⟩, fun i => ?_, fun i k hk => .inr ⟨i, hk⟩, h.nd⟩
  · rcases hr.sub k hk with q | q
    · exact hnT i k hi q
    · have := hlt i k hi; omega
  · refine (h.ok i).keep hr.keeps (fun k hk => hnT i k hk) (fun k _ hk => .inl hk) fun k hk hO => ?_
    rcases hO with q | q
    · rcases hr.sub k q with r | r
      · exact .inl r
      · omega
    · exact .inr q
theorem gen_yield (hs : Sess P l val pass Pr J Jx) {T G : BS} {pre : List α} {x : α} {wb w : World} {L : Hold} (hJ : J T G pre wb) (hS : Sep wb G T w L) (hPr : Pr (pre ++ [x])) (hp : (pass x).P (Bl T L) w)
    {Rr : Ending → World → Prop} (h1 : ∀ T' W', J T' (OwnB L) (pre ++ [x]) W' → Sep W' (OwnB L) T' W' L → Rr (.returned (.bool true)) W') (h2 : ∀ T' W', Jx T' (OwnB L) (pre ++ [x]) W' → Sep W' (OwnB L) T' W' L → Rr (.returned (.bool false)) W') :
    YieldAt Fence.wide 1 P l (val x) w Rr := by
  have hJ2 : J T (OwnB L) pre w := hs.gen hJ hS.pure (fun k ⟨i, hi⟩ => (hS.bd i k hi).elim (fun q => .inr (by have := hS.pure.size; omega)) .inl) (fun k ⟨i, hi⟩ => ((hS.ok i).lt hi).2)
  obtain ⟨fn, tmps, assign, body, hy, hR⟩ := hs.yld hJ2 hPr hp
  refine ⟨fn, tmps, assign, body, hy, hR.mono ?_⟩
  rintro e W' ⟨T', hr, (⟨rfl, hj⟩ | ⟨rfl, hj⟩)⟩
  · exact h1 T' W' hj (hS.yielded hr)
  · exact h2 T' W' hj (hS.yielded hr)
theorem gen_end (hs : Sess P l val pass Pr J Jx) {T G : BS} {pre : List α} {wb w : World} {L : Hold} {R : List α → Prop} (hJ : J T G pre wb) (hS : Sep wb G T w L) (hR : R pre) :
    (∃ xs T G, R xs ∧ J T G xs w) ∨ ∃ pre T G, Jx T G pre w :=
  .inl ⟨pre, T, OwnB L, hR, hs.gen hJ hS.pure (fun k ⟨i, hi⟩ => (hS.bd i k hi).elim (fun q => .inr (by have := hS.pure.size; omega)) .inl) (fun k ⟨i, hi⟩ => ((hS.ok i).lt hi).2)⟩
theorem gen_endx (hs : Sess P l val pass Pr J Jx) {T G : BS} {pre : List α} {wb w : World} {L : Hold} {R : List α → Prop} (hJ : Jx T G pre wb) (hS : Sep wb G T w L) :
    (∃ xs T G, R xs ∧ J T G xs w) ∨ ∃ pre T G, Jx T G pre w :=
  .inr ⟨pre, T, OwnB L, hs.genx hJ hS.pure (fun k ⟨i, hi⟩ => (hS.bd i k hi).elim (fun q => .inr (by have := hS.pure.size; omega)) .inl) (fun k ⟨i, hi⟩ => ((hS.ok i).lt hi).2)⟩
end
theorem gen_start {P : Program} {l : Nat} {α : Type} {val : α → Array Value} {pass : α → FP} {Pr : List α → Prop} {J Jx : BS → BS → List α → World → Prop} {T T1 G : BS} {w w1 : World} {L : Hold}
    (h : Sep w G T w L) (hs : Sess P l val pass Pr J Jx) (hJ : J T1 G [] w1) (hp : Pure w w1) (hT : ∀ k, T1 k → T k ∨ w.heap.size ≤ k) : ∃ G1, J T1 G1 [] w1 ∧ Sep w1 G1 T1 w1 L := by
  have hS := h.yielded (T' := T1) ⟨hp.mono fun k _ q => q.elim, hT, fun k hk => ((hs.two hJ).1 k hk).2⟩
  refine ⟨OwnB L, hs.gen hJ (Keeps.refl _ _) (fun k ⟨i, hi⟩ => ?_) (fun k ⟨i, hi⟩ => ((hS.ok i).lt hi).2), hS⟩
  rcases h.bd i k hi with q | q
  · have := ((h.ok i).lt hi).2; omega
  · exact .inl q
theorem ylG {P : Program} {f : FuncId} {fn : Func} {c : Code} {args : Array Value} {l : List Value} {w : World} {R : Ending → World → Prop} {N : Nat} (hf : P.funcs[f]? = some fn) (hb : fn.body = some c) (hN : fn.ntmps = N) (hl : l.length ≤ N) (ha : args = l.toArray)
    (h : WT Fence.wide 2 P N [.code c] (bodyPost P fn R) (lenv l) [] w) : CallsIn Fence.wide 2 P f args w R := by
  subst ha
  refine callsIn_of_wp hf hb trivial (WTa.code (h _ ⟨?_, lenv_eq l _, rfl⟩)) rfl
  simp
  omega
def FP.tt : FP := ⟨fun _ _ => True, fun h _ => h, fun h _ => h⟩
theorem yir {F : Fence} {n : Nat} {P : Program} {fn : Func} {tmps : Array Value} {R : Ending → World → Prop} : ∀ (rs : List Nat) (W : World), rs.Nodup → (∀ r ∈ rs, W.heap[r]? = some (Obj.deferred (some []))) →
    (∀ W' : World, Keeps (fun k => k ∈ rs) W W' → LeavesIn F n P fn tmps R [] .returning W') → LeavesInM F n P fn tmps R (rs.map mark) .returning W := by
  intro rs
  induction rs with
  | nil => intro W _ _ h; exact h W (Keeps.refl _ _)
  | cons r rs ih =>
    intro W hn hd h
    have hr := hd r (by simp)
    have hnr := List.nodup_cons.1 hn
    refine ⟨by simp, .inl ⟨r, _, rfl, run_takeDeferred hr, ?_⟩⟩
    refine ih (W.putObj r (.deferred none)) hnr.2 (fun q hq => ?_) fun W' hK => ?_
    · rw [World.putObj_heap_other (by rintro rfl; exact hnr.1 hq)]; exact hd q (by simp [hq])
    · exact h W' (((yij W r _).mono fun k _ e => by subst e; simp).trans (hK.mono fun k _ e => by simp [e]))
theorem Sep.unmark {w0 w w' : World} {S O : BS} {L : Hold} (h : Sep w0 S O w L) {rs : List Nat} (is js : List Nat) (hj : js.Nodup) (hd : ∀ i ∈ is, i ∉ js) (hm : ∀ r ∈ rs, ∃ i ∈ is, (L i).blk = some r) (hK : Keeps (fun k => k ∈ rs) w w') : Sep w0 S O w' (rl (js.map L)) := by
  have h2 := h.step (w' := w') (L' := fun j => if j ∈ is then .gone else L j) (T := fun k => k ∈ rs) hK (fun k _ hk => by obtain ⟨i, _, hi⟩ := hm k hk; exact ⟨i, hi⟩)
    (fun j k hk => by
      by_cases e : j ∈ is
      · simp only [if_pos e] at hk; cases hk
      · simp only [if_neg e] at hk; exact .inl ⟨j, hk⟩)
    (fun j => by
      by_cases e : j ∈ is
      · simp only [if_pos e]; exact .inr trivial
      · refine .inl ⟨j, by simp only [if_neg e], fun k hk hr => ?_⟩
        obtain ⟨i, hi, hb⟩ := hm k hr
        have := h.nd i j k hb hk
        subst this
        exact e hi)
    (fun a b k ha hb => by
      by_cases e1 : a ∈ is
      · simp only [if_pos e1] at ha; cases ha
      · by_cases e2 : b ∈ is
        · simp only [if_pos e2] at hb; cases hb
        · simp only [if_neg e1] at ha; simp only [if_neg e2] at hb; exact h.nd a b k ha hb)
  have h3 := h2.sel js hj
  have e : js.map (fun j => if j ∈ is then Res.gone else L j) = js.map L := List.map_congr_left fun j hjj => by
    rw [if_neg fun q => hd j q hjj]
  rw [e] at h3
  exact h3
section
variable {P : Program} {fn : Func} {N : Nat} {t : List Item} {R : Ending → World → Prop} {E : Env} {w : World} {rs : List Nat} {a : Act}
theorem wt_retn (hn : rs.Nodup) (hd : ∀ r ∈ rs, w.heap[r]? = some (Obj.deferred (some []))) (h : ∀ a, Rep N E (rs.map mark) a → ∀ W', Keeps (fun k => k ∈ rs) w W' → LeavesIn Fence.wide 3 P fn a.tmps R [] .returning W') : WT Fence.wide 3 P N (.code .ret :: t) (bodyPostM Fence.wide 3 P fn R) E (rs.map mark) w :=
  ygZ fun a r => by
    have hd' := r.defers
    show LeavesInM _ _ _ _ _ _ a.defers _ _
    rw [hd']
    exact yir rs w hn hd fun W' hk => h a r W' hk
theorem wt_retk1 {t1 : Tmp} {v1 : Value} (hn : rs.Nodup) (hd : ∀ r ∈ rs, w.heap[r]? = some (Obj.deferred (some []))) (hr : fn.results = #[.tmp t1]) (h1 : E t1 = v1) (h : ∀ w', Keeps (fun k => k ∈ rs) w w' → R (.returned v1) w') : WT Fence.wide 3 P N (.code .ret :: t) (bodyPostM Fence.wide 3 P fn R) E (rs.map mark) w :=
  wt_retn hn hd fun a r W' hk => ⟨_, results_tmp hr _ _ _, by rw [r.get, h1]; exact h W' hk⟩
theorem wt_retk2 {t1 t2 : Tmp} {v1 v2 : Value} (hn : rs.Nodup) (hd : ∀ r ∈ rs, w.heap[r]? = some (Obj.deferred (some []))) (hr : fn.results = #[.tmp t1, .tmp t2]) (h1 : E t1 = v1) (h2 : E t2 = v2) (h : ∀ w', Keeps (fun k => k ∈ rs) w w' → R (.returned (.tuple #[v1, v2])) w') : WT Fence.wide 3 P N (.code .ret :: t) (bodyPostM Fence.wide 3 P fn R) E (rs.map mark) w :=
  wt_retn hn hd fun a r W' hk => ⟨_, results_tmp2 hr _ _ _, by rw [r.get, r.get, h1, h2]; exact h W' hk⟩
end
theorem Sep.marked {w0 w : World} {S O : BS} {L : Hold} (h : Sep w0 S O w L) (i : Nat) {D : Nat} (hi : L i = dfr D) : ∀ r ∈ [D], w.heap[r]? = some (Obj.deferred (some [])) := fun r hr => by
  rw [List.mem_singleton] at hr
  subst hr
  have := h.ok i
  rw [hi] at this
  exact this.2
theorem ylW {L : Hold} (i : Nat) {D : Nat} (hi : L i = dfr D) : ∀ r ∈ [D], ∃ j ∈ [i], (L j).blk = some r := fun r hr => by
  rw [List.mem_singleton] at hr
  subst hr
  exact ⟨i, by simp, by rw [hi]; rfl⟩
theorem results_cell2 {P : Program} {fn : Func} {p1 p2 : Tmp} {y1 y2 : TypeId} (h : fn.results = #[.cell p1 y1, .cell p2 y2]) {tmps : Array Value} {w : World} {a1 a2 : Addr} {v1 v2 : Value} {u1 u2 : TypeDesc} (h1 : tmps.getD p1 undef = .pointer (some a1)) (h2 : tmps.getD p2 undef = .pointer (some a2))
    (hu1 : P.underlying y1 = some u1) (hn1 : aggD u1 = false) (hu2 : P.underlying y2 = some u2) (hn2 : aggD u2 = false) (c1 : w.cell? a1 = some v1) (c2 : w.cell? a2 = some v2) : (results fn tmps).run P w = .ok (.tuple #[v1, v2]) w := by
  have l1 : (loadVar y1 a1).run P w = .ok v1 w := by
    simp only [loadVar, Sem.run_bind, Result.andThen, yim hu1 hn1, yit a1 v1 c1, Bool.false_eq_true, if_false]
  have l2 : (loadVar y2 a2).run P w = .ok v2 w := by
    simp only [loadVar, Sem.run_bind, Result.andThen, yim hu2 hn2, yit a2 v2 c2, Bool.false_eq_true, if_false]
  have g1 : tmps[p1]?.getD undef = .pointer (some a1) := by simpa using h1
  have g2 : tmps[p2]?.getD undef = .pointer (some a2) := by simpa using h2
  simp [results, h, g1, g2, asAddr, Sem.run_bind, Result.andThen, l1, l2]
section
variable {P : Program} {fn : Func} {N : Nat} {t : List Item} {R : Ending → World → Prop} {E : Env} {w : World} {rs : List Nat}
theorem q_retc2 {w0 : World} {S O : BS} {L : Hold} (hS : Sep w0 S O w L) {t1 t2 : Tmp} {y1 y2 : TypeId} {g1 g2 : Nat} {v1 v2 : Value} {u1 u2 : TypeDesc} {e1 e2 : TypeId} (i1 i2 : Nat) (hi1 : L i1 = .box e1 g1 [v1]) (hi2 : L i2 = .box e2 g2 [v2]) (is : List Nat) (hm : ∀ r ∈ rs, ∃ i ∈ is, (L i).blk = some r) (hd1 : i1 ∉ is) (hd2 : i2 ∉ is)
    (hn : rs.Nodup) (hd : ∀ r ∈ rs, w.heap[r]? = some (Obj.deferred (some []))) (hr : fn.results = #[.cell t1 y1, .cell t2 y2]) (h1 : E t1 = .pointer (some ⟨g1, 0, none⟩)) (h2 : E t2 = .pointer (some ⟨g2, 0, none⟩))
    (hu1 : P.underlying y1 = some u1) (hn1 : aggD u1 = false) (hu2 : P.underlying y2 = some u2) (hn2 : aggD u2 = false) (h : ∀ w', Keeps (fun k => k ∈ rs) w w' → R (.returned (.tuple #[v1, v2])) w') :
    ∀ a, Rep N E (rs.map mark) a → bodyPostM Fence.wide 3 P fn R .ret a w := fun a r => by
  have hd' := r.defers
  show LeavesInM _ _ _ _ _ _ a.defers _ _
  rw [hd']
  have hnot : ∀ i g e v, L i = .box e g [v] → i ∉ is → g ∉ rs := fun i g e v hi hni hg => by
    obtain ⟨j, hj, hb⟩ := hm g hg
    have := hS.nd i j g (by rw [hi]; rfl) hb
    subst this
    exact hni hj
  refine yir rs w hn hd fun W' hk => ⟨_, results_cell2 hr (by rw [r.get, h1]) (by rw [r.get, h2]) hu1 hn1 hu2 hn2 ?_ ?_, h W' hk⟩
  · exact hk.cell (hnot i1 g1 e1 v1 hi1 hd1) (Row.cell (hS.bx i1 hi1) (i := 0) rfl)
  · exact hk.cell (hnot i2 g2 e2 v2 hi2 hd2) (Row.cell (hS.bx i2 hi2) (i := 0) rfl)
end
end Go.Proofs.YthgjegpemgokoaaGreat

/- Iterators that hand over slices: what is yielded is a pure thing and addresses. No program in sight. -/
namespace Go.Proofs.YthgjegpemgokoaaGreat
open Go Go.RowKit Go.Shelf Go.Proofs.Tryz
set_option linter.unusedVariables false
set_option linter.unusedSimpArgs false
set_option linter.unusedSectionVars false
def FP.and (a b : FP) : FP :=
  ⟨fun O w => a.P O w ∧ b.P O w, fun ⟨h1, h2⟩ hk => ⟨a.keep h1 hk, b.keep h2 hk⟩, fun ⟨h1, h2⟩ hs => ⟨a.sub h1 hs, b.sub h2 hs⟩⟩
theorem Sep.addro2 {w0 w : World} {S O : BS} {L : Hold} (h : Sep w0 S O w L) (i j : Nat) (hi : L i = .gone) (hj : stl L i (.ro FP.tt) j = .gone) (hne : j ≠ i) (Φ Ψ : FP) (hp : (FP.and Φ Ψ).P (Bl O L) w) : Sep w0 S O w (stl (stl L i (.ro Φ)) j (.ro Ψ)) := by
  have s1 := h.addro i hi Φ hp.1
  exact s1.addro j (by rw [yaQ _ _ hne] at hj ⊢; exact hj) Ψ (Ψ.sub hp.2 fun k _ hk => Bl.add_ro hi rfl k hk)
def JP {α β : Type} (J : BS → BS → List (α × β) → World → Prop) : BS → BS → List α → World → Prop := fun T G ps W => ∃ l, l.map Prod.fst = ps ∧ J T G l W
structure SessP (P : Program) (l : Nat) {α β : Type} (enc : α → β → Array Value) (pass : α → β → FP) (Pr : List α → Prop) (J Jx : BS → BS → List α → World → Prop) : Prop where
  gen : yip J
  genx : yip Jx
  two : yin J
  twox : yin Jx
  yld : ∀ {T G : BS} {pre : List α} {x : α} {b : β} {W : World}, J T G pre W → Pr (pre ++ [x]) → (pass x b).P (fun k => T k ∨ G k) W →
    YieldAt Fence.wide 1 P l (enc x b) W fun e W' => ∃ T', RK T W T' W' ∧ ((e = .returned (.bool true) ∧ J T' G (pre ++ [x]) W') ∨ (e = .returned (.bool false) ∧ Jx T' G (pre ++ [x]) W'))
theorem yip.jp {α β : Type} {J : BS → BS → List (α × β) → World → Prop} (h : yip J) : yip (JP J) := fun ⟨l, hl, hj⟩ a b c => ⟨l, hl, h hj a b c⟩
theorem yin.jp {α β : Type} {J : BS → BS → List (α × β) → World → Prop} (h : yin J) : yin (JP J) := fun ⟨l, hl, hj⟩ => h hj
theorem Sess.proj {P : Program} {l : Nat} {α β : Type} {enc : α → β → Array Value} {pass : α → β → FP} {Pr : List α → Prop} {J Jx : BS → BS → List (α × β) → World → Prop}
    (h : Sess P l (fun y : α × β => enc y.1 y.2) (fun y => pass y.1 y.2) (fun q => Pr (q.map Prod.fst)) J Jx) : SessP P l enc pass Pr (JP J) (JP Jx) := by
  have g1 : yip J := h.gen
  have g2 : yip Jx := h.genx
  have g3 : yin J := h.two
  have g4 : yin Jx := h.twox
  refine ⟨yip.jp (J := J) g1, yip.jp (J := Jx) g2, yin.jp (J := J) g3, yin.jp (J := Jx) g4, ?_⟩
  rintro T G pre x b W ⟨q, rfl, hj⟩ hPr hp
  refine (show YieldAt Fence.wide 1 P l (enc x b) W _ from h.yld (x := (x, b)) hj (by simpa using hPr) hp) |> fun ⟨fn, tmps, assign, body, hy, hR⟩ => ⟨fn, tmps, assign, body, hy, hR.mono ?_⟩
  rintro e W' ⟨T', hr, (⟨rfl, hj⟩ | ⟨rfl, hj⟩)⟩
  · exact ⟨T', hr, .inl ⟨rfl, _, by simp, hj⟩⟩
  · exact ⟨T', hr, .inr ⟨rfl, _, by simp, hj⟩⟩
def ylQ (P : Program) (gf : FuncId) (lb : Array Value) {α β : Type} (enc : α → β → Array Value) (pass : α → β → FP) (Pr R : List α → Prop) (T0 G0 : BS) (w : World) : Prop :=
  ∀ (l : Nat) (J Jx : BS → BS → List α → World → Prop) (T1 : BS) (w1 : World), SessP P l enc pass Pr J Jx → J T1 G0 [] w1 → Pure w w1 → (∀ k, T1 k → T0 k ∨ w.heap.size ≤ k) →
    CallsIn Fence.wide 2 P gf (#[.func (.yield l) #[] #[]] ++ lb) w1 fun e w' => (∃ v, e = .returned v) ∧ ((∃ xs T G, R xs ∧ J T G xs w') ∨ ∃ pre T G, Jx T G pre w')
theorem ylQ.to {P : Program} {gf : FuncId} {lb : Array Value} {α β : Type} {enc : α → β → Array Value} {pass : α → β → FP} {Pr R : List α → Prop} {T0 G0 : BS} {w : World} (h : ylQ P gf lb enc pass Pr R T0 G0 w) :
    ymi P gf lb (fun y : α × β => enc y.1 y.2) (fun y => pass y.1 y.2) (fun q => Pr (q.map Prod.fst)) (fun q => R (q.map Prod.fst)) T0 G0 w := by
  intro l J Jx T1 w1 hs hJ hp hT
  refine (h l (JP J) (JP Jx) T1 w1 hs.proj ⟨[], rfl, hJ⟩ hp hT).mono ?_
  rintro e w' ⟨hv, (⟨xs, T, G, hR, q, hl, hj⟩ | ⟨pre, T, G, q, hl, hj⟩)⟩
  · exact ⟨hv, .inl ⟨q, T, G, by subst hl; exact hR, hj⟩⟩
  · exact ⟨hv, .inr ⟨q, T, G, hj⟩⟩
section
variable {P : Program} {l : Nat} {α β : Type} {val : α → β → Array Value} {pass : α → β → FP} {Pr : List α → Prop} {J Jx : BS → BS → List α → World → Prop}
theorem gen_yieldP (hs : SessP P l val pass Pr J Jx) {T G : BS} {pre : List α} {x : α} {b : β} {wb w : World} {L : Hold} (hJ : J T G pre wb) (hS : Sep wb G T w L) (hPr : Pr (pre ++ [x])) (hp : (pass x b).P (Bl T L) w)
    {Rr : Ending → World → Prop} (h1 : ∀ T' W', J T' (OwnB L) (pre ++ [x]) W' → Sep W' (OwnB L) T' W' L → Rr (.returned (.bool true)) W') (h2 : ∀ T' W', Jx T' (OwnB L) (pre ++ [x]) W' → Sep W' (OwnB L) T' W' L → Rr (.returned (.bool false)) W') :
    YieldAt Fence.wide 1 P l (val x b) w Rr := by
  have hJ2 : J T (OwnB L) pre w := hs.gen hJ hS.pure (fun k ⟨i, hi⟩ => (hS.bd i k hi).elim (fun q => .inr (by have := hS.pure.size; omega)) .inl) (fun k ⟨i, hi⟩ => ((hS.ok i).lt hi).2)
  obtain ⟨fn, tmps, assign, body, hy, hR⟩ := hs.yld hJ2 hPr hp
  refine ⟨fn, tmps, assign, body, hy, hR.mono ?_⟩
  rintro e W' ⟨T', hr, (⟨rfl, hj⟩ | ⟨rfl, hj⟩)⟩
  · exact h1 T' W' hj (hS.yielded hr)
  · exact h2 T' W' hj (hS.yielded hr)
theorem gen_endP (hs : SessP P l val pass Pr J Jx) {T G : BS} {pre : List α} {wb w : World} {L : Hold} {R : List α → Prop} (hJ : J T G pre wb) (hS : Sep wb G T w L) (hR : R pre) :
    (∃ xs T G, R xs ∧ J T G xs w) ∨ ∃ pre T G, Jx T G pre w :=
  .inl ⟨pre, T, OwnB L, hR, hs.gen hJ hS.pure (fun k ⟨i, hi⟩ => (hS.bd i k hi).elim (fun q => .inr (by have := hS.pure.size; omega)) .inl) (fun k ⟨i, hi⟩ => ((hS.ok i).lt hi).2)⟩
theorem gen_endxP (hs : SessP P l val pass Pr J Jx) {T G : BS} {pre : List α} {wb w : World} {L : Hold} {R : List α → Prop} (hJ : Jx T G pre wb) (hS : Sep wb G T w L) :
    (∃ xs T G, R xs ∧ J T G xs w) ∨ ∃ pre T G, Jx T G pre w :=
  .inr ⟨pre, T, OwnB L, hs.genx hJ hS.pure (fun k ⟨i, hi⟩ => (hS.bd i k hi).elim (fun q => .inr (by have := hS.pure.size; omega)) .inl) (fun k ⟨i, hi⟩ => ((hS.ok i).lt hi).2)⟩
theorem gen_startP {T T1 G : BS} {w w1 : World} {L : Hold}
    (h : Sep w G T w L) (hs : SessP P l val pass Pr J Jx) (hJ : J T1 G [] w1) (hp : Pure w w1) (hT : ∀ k, T1 k → T k ∨ w.heap.size ≤ k) : ∃ G1, J T1 G1 [] w1 ∧ Sep w1 G1 T1 w1 L := by
  have hS := h.yielded (T' := T1) ⟨hp.mono fun k _ q => q.elim, hT, fun k hk => ((hs.two hJ).1 k hk).2⟩
  refine ⟨OwnB L, hs.gen hJ (Keeps.refl _ _) (fun k ⟨i, hi⟩ => ?_) (fun k ⟨i, hi⟩ => ((hS.ok i).lt hi).2), hS⟩
  rcases h.bd i k hi with q | q
  · have := ((h.ok i).lt hi).2; omega
  · exact .inl q
end
theorem rndS_fst {α β : Type} {l : Nat} {busy : Obj} {W : World} {S O : BS} {V : List α → List Res → Prop} {Vx : Option Nat → List α → List Res → Prop} {xs : List (α × β)} {ys : List α} (h : xs.map Prod.fst = ys) {e : Exit} {a : Act} {w : World}
    (hq : rndS l busy W S O V Vx ys e a w) : rndS l busy W S O (fun (p : List (α × β)) LL => V (p.map Prod.fst) LL) (fun c (p : List (α × β)) LL => Vx c (p.map Prod.fst) LL) xs e a w := by
  subst h
  cases e <;> exact hq
theorem wt_iterSP {P : Program} {N : Nat} {Q : Exit → Act → World → Prop} {E : Env} {ds : List Deferred} {w0 w : World} {S O : BS} {L : Hold} {t : List Item} {fo : Operand} {ps : Array Tmp} {assign body : Code} {gf : FuncId} {lb : Array Value}
    (hS : Sep w0 S O w L) (js gs : List Nat) (hj : js.Nodup) (hg : gs.Nodup) (hf : allJ (fun j => (j ∉ js) ∨ (L j).blk = none) gs)
    (hr : evE E fo = .func (.func gf) #[] lb) (he : Enters P gf) {α β : Type} {val : α → β → Array Value} {pass : α → β → FP} {Pr R : List α → Prop} (hps : ∀ x b, (val x b).size = ps.size) (hpN : ps.toList.all (fun p => Nat.blt p N) = true)
    (V : List α → List Res → Prop) (Vx : Option Nat → List α → List Res → Prop) (h0 : V [] (js.map L))
    (hgen : ∀ T G, Sep w G T w (rl (gs.map L)) → ylQ P gf lb val pass Pr R T G w)
    (hround : ∀ (l : Nat) (rdy busy : Obj) (S1 O1 : BS) (pre : List α) (x : α) (b : β) (W : World) (LL : List Res), V pre LL → Pr (pre ++ [x]) → (pass x b).P (Bl O1 (rl (LL ++ [.obj l rdy]))) W → Sep W S1 O1 W (rl (LL ++ [.obj l rdy])) →
      WT (Fence.wide.inRound l) 1 P N [.code assign] (fun e a1 W1 => e = .normal ∧ ∃ E1 L1, Rep N E1 [] a1 ∧ Sep W S1 O1 W1 L1 ∧ (∃ i, L1 i = .obj l rdy) ∧ ∀ W2, W2 = W1.putObj l busy → WT (Fence.wide.inRound l) 1 P N [.code body] (rndS l busy W S1 O1 V Vx (pre ++ [x])) E1 [] W2) (setE E (ps.toList.zip (val x b).toList)) [] W)
    (hdone : ∀ (D : Nat) (xs : List α) (W : World) (LL : List Res), R xs → V xs LL → Sep w0 S O W (rl (LL ++ [dfr D])) → WT Fence.wide 3 P N t Q E (mark D :: ds) W)
    (hstop : ∀ (D : Nat) (c : Option Nat) (xs : List α) (W : World) (LL : List Res), Vx c xs LL → Sep w0 S O W (rl (LL ++ [dfr D])) → JumpTo P N t Q E (mark D :: ds) W c) :
    WT Fence.wide 3 P N (.code (.rangeFunc fo ps assign body) :: t) Q E ds w := by
  refine wt_iterS hS js gs hj hg hf hr he (val := fun y : α × β => val y.1 y.2) (pass := fun y => pass y.1 y.2) (Pr := fun q => Pr (q.map Prod.fst)) (R := fun q => R (q.map Prod.fst)) (fun y => hps y.1 y.2) hpN (fun p LL => V (p.map Prod.fst) LL) (fun c p LL => Vx c (p.map Prod.fst) LL) h0 (fun T G hG => (hgen T G hG).to) ?_ (fun D xs W LL hR hV hs => hdone D _ W LL hR hV hs) (fun D c xs W LL hV hs => hstop D c _ W LL hV hs)
  rintro l rdy busy S1 O1 pre ⟨x, b⟩ W LL hV hPr hp hs1
  have hb := hround l rdy busy S1 O1 (pre.map Prod.fst) x b W LL hV (by simpa using hPr) hp hs1
  intro a ra bb k cs h1 h2 h3
  obtain ⟨e, a', w', ⟨rfl, E1, L1, r1, s1, hi, hq⟩, harr⟩ := hb a ra bb k cs h1 h2 h3
  refine ⟨.normal, a', w', ⟨rfl, E1, L1, r1, s1, hi, fun W2 hW2 => ?_⟩, harr⟩
  intro a2 ra2 b2 k2 cs2 g1 g2 g3
  obtain ⟨e, a3, w3, hq, harr3⟩ := hq W2 hW2 a2 ra2 b2 k2 cs2 g1 g2 g3
  exact ⟨e, a3, w3, rndS_fst (by simp) hq, harr3⟩
end Go.Proofs.YthgjegpemgokoaaGreat

/- Determinants, expanded by the first row, and the rule of Cramer. No program in sight. -/
namespace Go.Proofs.YthgjegpemgokoaaGreat
open Go Go.Proofs.Tryz
set_option linter.unusedVariables false
set_option linter.unusedSimpArgs false
abbrev Mat := Nat → Nat → Int
def sgn (k : Nat) : Int := if k % 2 = 0 then 1 else -1
theorem sgn_succ (k : Nat) : sgn (k + 1) = - sgn k := by unfold sgn; split <;> split <;> omega
def sk (k j : Nat) : Nat := if j < k then j else j + 1
def pd (k c : Nat) : Nat := if c < k then c else c - 1
theorem sk_ne (k j : Nat) : sk k j ≠ k := by unfold sk; split <;> omega
theorem ygS {k j n : Nat} (hj : j < n) : sk k j < n + 1 := by unfold sk; split <;> omega
theorem sk_pd {k c : Nat} (h : c ≠ k) : sk k (pd k c) = c := by
  unfold sk pd
  by_cases q : c < k
  · rw [if_pos q, if_pos q]
  · rw [if_neg q, if_neg (by omega)]; omega
theorem sk_eq {k c j : Nat} (h : c ≠ k) : sk k j = c ↔ j = pd k c := by
  unfold sk pd
  by_cases q : c < k <;> by_cases r : j < k <;> simp only [q, r, if_true, if_false] <;> omega
theorem pd_lt {k c n : Nat} (h : c ≠ k) (hc : c < n + 1) (hk : k < n + 1) : pd k c < n := by unfold pd; split <;> omega
def ycz (A : Mat) (k : Nat) : Mat := fun i j => A (i + 1) (sk k j)
def detF : Nat → Mat → Int
  | 0, _ => 1
  | n + 1, A => sm (n + 1) fun k => sgn k * A 0 k * detF n (ycz A k)
theorem yeY : ∀ {n : Nat} {A B : Mat}, (∀ i j, i < n → j < n → A i j = B i j) → detF n A = detF n B
  | 0, _, _, _ => rfl
  | n + 1, A, B, h => by
    unfold detF
    refine yao fun k hk => ?_
    rw [h 0 k (by omega) hk, yeY (A := ycz A k) (B := ycz B k) fun i j hi hj => h _ _ (by omega) (ygS hj)]
def repl (A : Mat) (c : Nat) (f : Nat → Int) : Mat := fun i j => if j = c then f i else A i j
theorem ygY (A : Mat) (c : Nat) (f : Nat → Int) : ycz (repl A c f) c = ycz A c := by
  funext i j; unfold ycz repl; rw [if_neg (sk_ne c j)]
theorem minor_repl {A : Mat} {c k : Nat} {f : Nat → Int} (h : c ≠ k) : ycz (repl A c f) k = repl (ycz A k) (pd k c) (fun i => f (i + 1)) := by
  funext i j
  unfold ycz repl
  by_cases e : sk k j = c
  · rw [if_pos e, if_pos ((sk_eq h).1 e)]
  · rw [if_neg e, if_neg fun q => e ((sk_eq h).2 q)]
theorem yeV (n : Nat) (A : Mat) (c : Nat) (f : Nat → Int) : detF (n + 1) (repl A c f) = sm (n + 1) fun k => if k = c then sgn c * f 0 * detF n (ycz A c) else sgn k * A 0 k * detF n (repl (ycz A k) (pd k c) fun i => f (i + 1)) := by
  rw [detF]
  refine yao fun k hk => ?_
  by_cases e : k = c
  · subst e; rw [if_pos rfl, ygY]; unfold repl; rw [if_pos rfl]
  · rw [if_neg e, minor_repl (fun q => e q.symm)]
    have : repl A c f 0 k = A 0 k := by unfold repl; rw [if_neg e]
    rw [this]
theorem ygz : ∀ {n : Nat} (A : Mat) {c : Nat} (hc : c < n) (f g : Nat → Int), detF n (repl A c fun i => f i + g i) = detF n (repl A c f) + detF n (repl A c g)
  | n + 1, A, c, hc, f, g => by
    rw [yeV, yeV, yeV, ← ycm]
    refine yao fun k hk => ?_
    by_cases e : k = c
    · simp only [if_pos e]; rw [Int.mul_add, Int.add_mul]
    · simp only [if_neg e]
      rw [ygz (ycz A k) (pd_lt (fun q => e q.symm) hc hk) (fun i => f (i + 1)) (fun i => g (i + 1)), Int.mul_add]
theorem yhj : ∀ {n : Nat} (A : Mat) {c : Nat} (hc : c < n) (t : Int) (f : Nat → Int), detF n (repl A c fun i => t * f i) = t * detF n (repl A c f)
  | n + 1, A, c, hc, t, f => by
    rw [yeV, yeV, ← ydz]
    refine yao fun k hk => ?_
    by_cases e : k = c
    · simp only [if_pos e]; grind
    · simp only [if_neg e]
      rw [yhj (ycz A k) (pd_lt (fun q => e q.symm) hc hk) t (fun i => f (i + 1))]; grind
theorem det_zero {n : Nat} (A : Mat) {c : Nat} (hc : c < n) : detF n (repl A c fun _ => 0) = 0 := by
  have := yhj A hc 0 (fun _ => 0)
  simp only [Int.zero_mul] at this
  exact this
theorem det_sum {n : Nat} (A : Mat) {c : Nat} (hc : c < n) (F : Nat → Nat → Int) : ∀ m, detF n (repl A c fun i => sm m fun j => F j i) = sm m fun j => detF n (repl A c (F j))
  | 0 => det_zero A hc
  | m + 1 => by
    have := ygz A hc (fun i => sm m fun j => F j i) (F m)
    rw [det_sum A hc F m] at this
    exact this
theorem sm_two {n a b : Nat} (ha : a < n) (hb : b < n) (hab : a ≠ b) {f : Nat → Int} (h : ∀ k, k < n → k ≠ a → k ≠ b → f k = 0) : sm n f = f a + f b := by
  have e : sm n f = sm n fun k => (if k = a then f a else 0) + (if k = b then f b else 0) := yao fun k hk => by
    by_cases e1 : k = a
    · subst e1; rw [if_pos rfl, if_neg hab]; omega
    · by_cases e2 : k = b
      · subst e2; rw [if_neg e1, if_pos rfl]; omega
      · rw [if_neg e1, if_neg e2, h k hk e1 e2]; omega
  rw [e, ycm, ydr _ ha, ydr _ hb]
theorem yfY {n a : Nat} (ha : a < n) {f : Nat → Int} (h : ∀ k, k < n → k ≠ a → f k = 0) : sm n f = f a := by
  have e : sm n f = sm n fun k => if k = a then f a else 0 := yao fun k hk => by
    by_cases e1 : k = a
    · subst e1; rw [if_pos rfl]
    · rw [if_neg e1, h k hk e1]
  rw [e, ydr _ ha]
theorem det_adj : ∀ {n : Nat} {A : Mat} {c : Nat}, c + 1 < n → (∀ i, i < n → A i c = A i (c + 1)) → detF n A = 0
  | n + 1, A, c, hc, h => by
    rw [detF, sm_two (a := c) (b := c + 1) (by omega) hc (by omega)]
    · rw [h 0 (by omega), sgn_succ, yeY (A := ycz A c) (B := ycz A (c + 1)) fun i j hi hj => ?_]
      · grind
      · unfold ycz sk
        by_cases e : j = c
        · subst e; rw [if_neg (by omega), if_pos (by omega)]; exact (h (i + 1) (by omega)).symm
        · by_cases q : j < c
          · rw [if_pos q, if_pos (by omega)]
          · rw [if_neg q, if_neg (by omega)]
    · intro k hk k1 k2
      have hp : pd k (c + 1) = pd k c + 1 := by unfold pd; split <;> split <;> omega
      rw [det_adj (A := ycz A k) (c := pd k c) (by have := pd_lt (Ne.symm k2) hc hk; omega) fun i hi => ?_]
      · omega
      · unfold ycz
        rw [← hp, sk_pd (Ne.symm k1), sk_pd (Ne.symm k2)]; exact h _ (by omega)
theorem ydQ (A : Mat) {a b : Nat} (h : a ≠ b) (f g : Nat → Int) : repl (repl A a f) b g = repl (repl A b g) a f := by
  funext i j
  unfold repl
  by_cases e1 : j = b
  · by_cases e2 : j = a
    · omega
    · rw [if_pos e1, if_neg e2, if_pos e1]
  · rw [if_neg e1]
    by_cases e2 : j = a
    · rw [if_pos e2, if_pos e2]
    · rw [if_neg e2, if_neg e2, if_neg e1]
theorem yfJ (A : Mat) (c : Nat) : repl A c (fun i => A i c) = A := by
  funext i j
  unfold repl
  split
  · rename_i e; rw [e]
  · rfl
theorem det_swap {n : Nat} (A : Mat) {c : Nat} (hc : c + 1 < n) (u v : Nat → Int) : detF n (repl (repl A c u) (c + 1) v) = - detF n (repl (repl A c v) (c + 1) u) := by
  have hcc : c ≠ c + 1 := by omega
  have z : ∀ x : Nat → Int, detF n (repl (repl A c x) (c + 1) x) = 0 := fun x => det_adj hc fun i _ => by
    unfold repl
    rw [if_neg hcc, if_pos rfl, if_pos rfl]
  have h := z fun i => u i + v i
  rw [ygz _ hc, ydQ _ hcc, ygz _ (by omega : c < n), ydQ _ hcc (fun i => u i + v i) v, ygz _ (by omega : c < n), ← ydQ _ hcc u u, ← ydQ _ hcc v u, ← ydQ _ hcc u v, ← ydQ _ hcc v v, z u, z v] at h
  omega
theorem det_eq : ∀ (m : Nat) {n : Nat} {A : Mat} {a b : Nat}, b = a + m + 1 → b < n → (∀ i, i < n → A i a = A i b) → detF n A = 0
  | 0, n, A, a, b, hm, hb, h => det_adj (c := a) (by omega) fun i hi => by rw [h i hi, hm]
  | m + 1, n, A, a, b, hm, hb, h => by
    have hbb : b - 1 + 1 = b := by omega
    have h1 := det_swap (n := n) A (c := b - 1) (by omega) (fun i => A i (b - 1)) (fun i => A i b)
    have e1 : repl (repl A (b - 1) fun i => A i (b - 1)) (b - 1 + 1) (fun i => A i b) = A := by
      rw [yfJ, hbb, yfJ]
    rw [e1] at h1
    rw [h1, det_eq m (a := a) (b := b - 1) (by omega) (by omega) fun i hi => ?_]
    · rfl
    · unfold repl
      rw [if_neg (by omega), if_neg (by omega), if_neg (by omega), if_pos rfl, h i hi]
theorem det_col {n : Nat} {A : Mat} {a b : Nat} (ha : a < n) (hb : b < n) (hab : a ≠ b) (h : ∀ i, i < n → A i a = A i b) : detF n A = 0 := by
  rcases Nat.lt_or_ge a b with q | q
  · exact det_eq (b - a - 1) (by omega) hb h
  · exact det_eq (a - b - 1) (a := b) (b := a) (by omega) ha fun i hi => (h i hi).symm
theorem cramer {n : Nat} (A : Mat) {c : Nat} (hc : c < n) (t : Nat → Int) : detF n (repl A c fun i => sm n fun j => t j * A i j) = t c * detF n A := by
  rw [det_sum A hc (fun j i => t j * A i j) n, yfY hc]
  · rw [yhj A hc, yfJ]
  · intro k hk hkc
    rw [yhj A hc, det_col hc hk (fun q => hkc q.symm) fun i hi => ?_]
    · omega
    · unfold repl; rw [if_pos rfl, if_neg hkc]
def cof (n : Nat) (A : Mat) (k j : Nat) : Int := detF n (repl A k fun i => if i = j then 1 else 0)
theorem det_cof {n : Nat} (A : Mat) {k : Nat} (hk : k < n) (f : Nat → Int) : detF n (repl A k f) = sm n fun j => f j * cof n A k j := by
  have h := det_sum A hk (fun j i => f j * if i = j then 1 else 0) n
  have e : detF n (repl A k f) = detF n (repl A k fun i => sm n fun j => f j * if i = j then 1 else 0) := yeY fun i j hi hj => by
    unfold repl
    by_cases q : j = k
    · rw [if_pos q, if_pos q]
      show f i = sm n fun j => f j * if i = j then 1 else 0
      rw [yfY hi (f := fun j => f j * if i = j then 1 else 0) fun m _ hm => by rw [if_neg (fun e => hm e.symm)]; omega]
      rw [if_pos rfl]; omega
    · rw [if_neg q, if_neg q]
  rw [e, h]
  exact yao fun j _ => yhj A hk _ _
theorem cof_mul {n : Nat} (A : Mat) {k j : Nat} (hk : k < n) (hj : j < n) : sm n (fun i => cof n A k i * A i j) = if j = k then detF n A else 0 := by
  have h := det_cof A hk fun i => A i j
  rw [yao (g := fun i => A i j * cof n A k i) fun i _ => Int.mul_comm _ _, ← h]
  by_cases e : j = k
  · subst e; rw [if_pos rfl, yfJ]
  · rw [if_neg e, det_col hk hj (fun q => e q.symm) fun i _ => by unfold repl; rw [if_pos rfl, if_neg e]]
def Symm (n : Nat) (A : Mat) : Prop := ∀ i j, i < n → j < n → A i j = A j i
theorem ygG {n : Nat} {A : Mat} (hS : Symm n A) {i j : Nat} (hi : i < n) (hj : j < n) : sm n (fun k => A i k * cof n A j k) = if i = j then detF n A else 0 := by
  rw [← cof_mul A hj hi]
  exact yao fun k hk => by rw [hS i k hi hk, Int.mul_comm]
theorem cof_symm {n : Nat} {A : Mat} (hS : Symm n A) (hN : detF n A ≠ 0) {k j : Nat} (hk : k < n) (hj : j < n) : cof n A k j = cof n A j k := by
  have h1 : sm n (fun i => cof n A k i * sm n fun m => A i m * cof n A j m) = cof n A k j * detF n A := by
    rw [yfY hj fun i hi hij => ?_]
    · rw [ygG hS hj hj, if_pos rfl]
    · rw [ygG hS hi hj, if_neg hij]; omega
  have h2 : sm n (fun i => cof n A k i * sm n fun m => A i m * cof n A j m) = detF n A * cof n A j k := by
    have e : (fun i => cof n A k i * sm n fun m => A i m * cof n A j m) = fun i => sm n fun m => cof n A k i * A i m * cof n A j m := by
      funext i
      rw [← ydz]
      exact yao fun m _ => by rw [Int.mul_assoc]
    rw [e, yg3, yfY hk fun m hm hmk => ?_]
    · rw [yao (g := fun i => cof n A j k * (cof n A k i * A i k)) fun i _ => by grind, ydz, cof_mul A hk hk, if_pos rfl, Int.mul_comm]
    · rw [yao (g := fun i => cof n A j m * (cof n A k i * A i m)) fun i _ => by grind, ydz, cof_mul A hk hm, if_neg hmk]; omega
  have h3 : detF n A * (cof n A k j - cof n A j k) = 0 := by rw [Int.mul_sub]; rw [h1, Int.mul_comm] at h2; omega
  rcases Int.mul_eq_zero.1 h3 with h | h
  · exact absurd h hN
  · omega
theorem cramer_back {n : Nat} {A : Mat} (hS : Symm n A) (hN : detF n A ≠ 0) (f : Nat → Int) {i : Nat} (hi : i < n) : sm n (fun k => A i k * detF n (repl A k f)) = f i * detF n A := by
  rw [yao (g := fun k => sm n fun j => A i k * (f j * cof n A k j)) fun k hk => by rw [det_cof A hk, ydz], yg3, yfY hi fun j hj hji => ?_]
  · rw [yao (g := fun k => f i * (A i k * cof n A i k)) fun k hk => by rw [cof_symm hS hN hk hi]; grind, ydz, ygG hS hi hi, if_pos rfl]
  · rw [yao (g := fun k => f j * (A i k * cof n A j k)) fun k hk => by rw [cof_symm hS hN hk hj]; grind, ydz, ygG hS hi hj, if_neg (fun q => hji q.symm)]; omega
def Inj (n : Nat) (A : Mat) : Prop := ∀ s, s ≤ n → ∀ t : Nat → Int, (∀ i, i < n - s → sm (n - s) (fun j => A (i + s) (j + s) * t j) = 0) → ∀ j, j < n - s → t j = 0
theorem det_ne : ∀ {n : Nat} {A : Mat}, Symm n A → Inj n A → detF n A ≠ 0
  | 0, A, _, _ => by simp [detF]
  | n + 1, A, hS, hI => by
    intro h0
    have hs : ycz A 0 = fun i j => A (i + 1) (j + 1) := by
      funext i j; unfold ycz sk; rw [if_neg (by omega)]
    have ih : detF n (ycz A 0) ≠ 0 := det_ne (fun i j hi hj => by rw [hs]; exact hS _ _ (by omega) (by omega)) fun s hsn t ht => by
      have := hI (s + 1) (by omega) t
      rw [show n + 1 - (s + 1) = n - s by omega] at this
      refine this fun i hi => ?_
      have h1 := ht i hi
      rw [hs] at h1
      exact h1
    have hc := hI 0 (by omega) (fun k => cof (n + 1) A 0 k) (fun i hi => by
      have := ygG hS (i := i) (j := 0) (by omega) (by omega)
      rw [h0] at this
      simp only [ite_self] at this
      exact this) 0 (by omega)
    apply ih
    rw [← hc]
    unfold cof
    rw [yeV, yfY (a := 0) (by omega)]
    · rw [if_pos rfl, if_pos rfl]; unfold sgn; simp
    · intro k hk hk0
      rw [if_neg hk0]
      have e : (fun i : Nat => if i + 1 = 0 then (1 : Int) else 0) = fun _ => 0 := by funext i; rw [if_neg (by omega)]
      rw [e, det_zero _ (pd_lt (Ne.symm hk0) (by omega) hk)]; omega
def fct : Nat → Int
  | 0 => 1
  | n + 1 => (n + 1 : Nat) * fct n
theorem fct_pos : ∀ n, 1 ≤ fct n
  | 0 => by simp [fct]
  | n + 1 => by
    rw [fct]
    have := fct_pos n
    have h : (1 : Int) * 1 ≤ ((n + 1 : Nat) : Int) * fct n := Int.mul_le_mul (by omega) this (by omega) (by omega)
    omega
theorem abs_mul {a b x y : Int} (hx : -a ≤ x ∧ x ≤ a) (hy : -b ≤ y ∧ y ≤ b) : -(a * b) ≤ x * y ∧ x * y ≤ a * b := by
  have ha : 0 ≤ a := by omega
  have hb : 0 ≤ b := by omega
  have h1 : x.natAbs ≤ a.toNat := by omega
  have h2 : y.natAbs ≤ b.toNat := by omega
  have h3 := Nat.mul_le_mul h1 h2
  have h4 := Int.natAbs_mul x y
  have h5 : ((a.toNat * b.toNat : Nat) : Int) = a * b := by rw [Int.natCast_mul, Int.toNat_of_nonneg ha, Int.toNat_of_nonneg hb]
  omega
theorem ygD {B : Int} (hB : 1 ≤ B) : ∀ {n : Nat} {A : Mat}, (∀ i j, i < n → j < n → -B ≤ A i j ∧ A i j ≤ B) → -(fct n * B ^ n) ≤ detF n A ∧ detF n A ≤ fct n * B ^ n
  | 0, A, _ => by simp [detF, fct]
  | n + 1, A, h => by
    rw [detF, fct]
    have key := yfz (f := fun k => sgn k * A 0 k * detF n (ycz A k)) (B := B * (fct n * B ^ n)) (by
      have h1 := fct_pos n
      have h2 : 0 ≤ B ^ n := Int.pow_nonneg (by omega)
      exact Int.mul_nonneg (by omega) (Int.mul_nonneg (by omega) h2)) (n := n + 1) fun k hk => by
        have h1 := ygD hB (A := ycz A k) fun i j hi hj => h _ _ (by omega) (ygS hj)
        have h2 := h 0 k (by omega) hk
        have h3 : -B ≤ sgn k * A 0 k ∧ sgn k * A 0 k ≤ B := by
          unfold sgn
          split <;> omega
        exact abs_mul h3 h1
    rw [show ((n + 1 : Nat) : Int) * fct n * B ^ (n + 1) = ((n + 1 : Nat) : Int) * (B * (fct n * B ^ n)) by rw [Int.pow_succ]; grind]
    exact key
end Go.Proofs.YthgjegpemgokoaaGreat

/- The reduced Laplacian of a connected graph has a determinant other than 0; Cramer's numbers are scripts. No program in sight. -/
namespace Go.Proofs.YthgjegpemgokoaaGreat
open Go Go.Proofs.Tryz
set_option linter.unusedVariables false
set_option linter.unusedSimpArgs false
theorem ync (f : Nat → Int) : ∀ n, 0 < n → ∃ v, v < n ∧ ∀ u, u < n → f u ≤ f v
  | 1, _ => ⟨0, by omega, fun u hu => by rw [show u = 0 by omega]; exact Int.le_refl _⟩
  | n + 2, _ => by
    obtain ⟨v, hv, h⟩ := ync f (n + 1) (by omega)
    by_cases q : f v < f (n + 1)
    · exact ⟨n + 1, by omega, fun u hu => by
        by_cases e : u = n + 1
        · subst e; exact Int.le_refl _
        · have := h u (by omega); omega⟩
    · exact ⟨v, by omega, fun u hu => by
        by_cases e : u = n + 1
        · subst e; omega
        · exact h u (by omega)⟩
theorem yf9 {n : Nat} {es : List E3} {q : Nat} (hE : EOk n es) (hC : Conn n es q) (hq : q < n) {f : Nat → Int} (h0 : f q = 0) (h : ∀ v, v < n → f v ≠ 0 → Lp n es f v = 0) : ∀ v, v < n → f v ≤ 0 := by
  intro v hv
  obtain ⟨m, hm, hmax⟩ := ync f n (by omega)
  by_cases hpos : 0 < f m
  · exfalso
    obtain ⟨v, u, hv, hu, hSv, hSu, hW⟩ := hC (fun x => decide (f x = f m)) (by simp; omega) ⟨m, hm, by simp⟩
    simp only [decide_eq_true_eq, decide_eq_false_iff_not] at hSv hSu
    have h1 := h v hv (by omega)
    have h2 : ∀ i, i < n → 0 ≤ W es v i * (f v - f i) := fun i hi => Int.mul_nonneg (ybn hE v i) (by have := hmax i hi; omega)
    have h3 := yhf (f := fun i => W es v i * (f v - f i)) h2 u hu
    have h4 : 1 * 1 ≤ W es v u * (f v - f u) := Int.mul_le_mul (by omega) (by have := hmax u hu; omega) (by omega) (by omega)
    unfold Lp at h1
    omega
  · have := hmax v hv; omega
theorem dirichlet {n : Nat} {es : List E3} {q : Nat} (hE : EOk n es) (hC : Conn n es q) (hq : q < n) {f : Nat → Int} (h0 : f q = 0) (h : ∀ v, v < n → f v ≠ 0 → Lp n es f v = 0) : ∀ v, v < n → f v = 0 := by
  intro v hv
  have h1 := yf9 hE hC hq h0 h v hv
  have h2 := yf9 hE hC hq (f := fun i => -1 * f i) (by rw [h0]; rfl) (fun u hu hne => by rw [ygQ, h u hu (by omega)]; omega) v hv
  omega
theorem sm_skip (g : Nat → Int) {q : Nat} : ∀ {m : Nat}, q ≤ m → sm (m + 1) g = g q + sm m fun k => g (sk q k)
  | 0, h => by rw [show q = 0 by omega]; simp [sm]
  | m + 1, h => by
    by_cases e : q = m + 1
    · rw [sm, e, yao (n := m + 1) (f := fun k => g (sk (m + 1) k)) (g := g) fun k hk => by unfold sk; rw [if_pos hk]]; omega
    · rw [sm, sm_skip g (q := q) (m := m) (by omega), sm]
      have : sk q m = m + 1 := by unfold sk; rw [if_neg (by omega)]
      rw [this]; omega
def redM (n : Nat) (es : List E3) (q : Nat) : Mat := fun i k => if i = k then deg n es (sk q i) else - W es (sk q i) (sk q k)
theorem sk_inj {q i k : Nat} (h : sk q i = sk q k) : i = k := by
  unfold sk at h
  split at h <;> split at h <;> omega
theorem redM_symm (n : Nat) (es : List E3) (q m : Nat) : Symm m (redM n es q) := fun i j _ _ => by
  unfold redM
  by_cases e : i = j
  · subst e; rfl
  · rw [if_neg e, if_neg (fun h => e h.symm), yen]
theorem Lp_rowf {n : Nat} {es : List E3} (s : Nat → Int) {v : Nat} (hv : v < n) : sm n (fun k => (if v = k then deg n es v else - W es v k) * s k) = Lp n es s v := by
  have e : (fun k => (if v = k then deg n es v else - W es v k) * s k) = (fun k => (if k = v then s v * deg n es v else 0) - s k * W es v k) := by
    funext k
    by_cases e : v = k
    · subst e; rw [if_pos rfl, if_pos rfl, yhT, Int.mul_comm]; omega
    · rw [if_neg e, if_neg (fun q => e q.symm), Int.mul_comm]; simp only [Int.mul_neg]; omega
  rw [Lp_ind, e, ygW, ydr _ hv]
  exact congrArg _ (yao fun k _ => by rw [yen es v k])
theorem redM_row {m : Nat} {es : List E3} {q : Nat} (hq : q ≤ m) {f : Nat → Int} (h0 : f q = 0) {i : Nat} (hi : i < m) : sm m (fun k => redM (m + 1) es q i k * f (sk q k)) = Lp (m + 1) es f (sk q i) := by
  rw [← Lp_rowf f (show sk q i < m + 1 from ygS hi), sm_skip _ hq, h0]
  have e : sm m (fun k => redM (m + 1) es q i k * f (sk q k)) = sm m (fun k => (if sk q i = sk q k then deg (m + 1) es (sk q i) else - W es (sk q i) (sk q k)) * f (sk q k)) := yao fun k _ => by
    unfold redM
    by_cases e : i = k
    · subst e; rw [if_pos rfl, if_pos rfl]
    · rw [if_neg e, if_neg (fun h => e (sk_inj h))]
  rw [e]; omega
section
variable {m : Nat} {es : List E3} {q : Nat} (hE : EOk (m + 1) es) (hC : Conn (m + 1) es q) (hq : q ≤ m)
include hE hC hq
theorem redM_inj : Inj m (redM (m + 1) es q) := by
  intro s hs t ht j hj
  let f : Nat → Int := fun v => if v ≠ q ∧ s ≤ pd q v then t (pd q v - s) else 0
  have hfs : ∀ k, k < m → f (sk q k) = if s ≤ k then t (k - s) else 0 := fun k hk => by
    have hp : pd q (sk q k) = k := sk_inj (q := q) (sk_pd (sk_ne q k))
    show ite _ _ _ = _
    rw [hp]
    by_cases e : s ≤ k
    · rw [if_pos ⟨sk_ne q k, e⟩, if_pos e]
    · rw [if_neg (fun h => e h.2), if_neg e]
  have hf0 : f q = 0 := if_neg (fun h => h.1 rfl)
  have hsplit : ∀ (s m : Nat) (g : Nat → Int), s ≤ m → (∀ k, k < s → g k = 0) → sm m g = sm (m - s) (fun k => g (k + s)) := by
    intro s m
    induction m with
    | zero => intro g h1 _; rw [show s = 0 by omega]; rfl
    | succ m ih =>
      intro g h1 h2
      by_cases e : s = m + 1
      · rw [e, show m + 1 - (m + 1) = 0 by omega, yao (g := fun _ => 0) fun k hk => h2 k (by omega), yb0]; rfl
      · rw [sm, ih g (by omega) h2, show m + 1 - s = (m - s) + 1 by omega, sm, show m - s + s = m by omega]
  have hL : ∀ v, v < m + 1 → f v ≠ 0 → Lp (m + 1) es f v = 0 := fun v hv hne => by
    have hvq : v ≠ q := fun e => hne (by rw [e]; exact hf0)
    have hps : s ≤ pd q v := by
      by_cases e : s ≤ pd q v
      · exact e
      · exact absurd (if_neg (fun h => e h.2)) hne
    have hpl := pd_lt hvq hv (show q < m + 1 by omega)
    have hr := redM_row (es := es) hq hf0 (i := pd q v) hpl
    rw [sk_pd hvq] at hr
    rw [← hr, hsplit s m _ hs fun k hk => by rw [hfs k (by omega), if_neg (by omega)]; omega]
    have := ht (pd q v - s) (by omega)
    rw [← this]
    refine yao fun k hk => ?_
    rw [hfs (k + s) (by omega), if_pos (by omega), show k + s - s = k by omega, show pd q v - s + s = pd q v by omega]
  have h := dirichlet hE hC (by omega) hf0 hL (sk q (j + s)) (ygS (by omega))
  rw [hfs (j + s) (by omega), if_pos (by omega), show j + s - s = j by omega] at h
  exact h
theorem redM_ne : detF m (redM (m + 1) es q) ≠ 0 := det_ne (redM_symm _ _ _ _) (redM_inj hE hC hq)
def xF (m : Nat) (es : List E3) (q : Nat) (d : Nat → Int) (v : Nat) : Int := detF m (repl (redM (m + 1) es q) (pd q v) fun i => d (sk q i))
omit hE hC in
theorem solve_fwd {t d : Nat → Int} (h0 : t q = 0) (h : ∀ v, v < m + 1 → v ≠ q → Lp (m + 1) es t v = d v) {v : Nat} (hv : v < m + 1) (hvq : v ≠ q) : xF m es q d v = t v * detF m (redM (m + 1) es q) := by
  have hp := pd_lt hvq hv (show q < m + 1 by omega)
  have := cramer (redM (m + 1) es q) hp (fun k => t (sk q k))
  rw [sk_pd hvq] at this
  rw [← this]
  unfold xF
  refine yeY fun i j hi hj => ?_
  unfold repl
  by_cases e : j = pd q v
  · rw [if_pos e, if_pos e]
    show d (sk q i) = sm m fun j => t (sk q j) * redM (m + 1) es q i j
    rw [← h _ (ygS hi) (sk_ne q i), ← redM_row hq h0 hi]
    exact yao fun k _ => Int.mul_comm _ _
  · rw [if_neg e, if_neg e]
theorem solve_bwd {s d : Nat → Int} (h0 : s q = 0) (h : ∀ v, v < m + 1 → v ≠ q → xF m es q d v = s v * detF m (redM (m + 1) es q)) {v : Nat} (hv : v < m + 1) (hvq : v ≠ q) : Lp (m + 1) es s v = d v := by
  have hN := redM_ne hE hC hq
  have hp := pd_lt hvq hv (show q < m + 1 by omega)
  have h1 := cramer_back (redM_symm (m + 1) es q m) hN (fun i => d (sk q i)) hp
  have h2 := redM_row (es := es) hq h0 hp
  rw [sk_pd hvq] at h1 h2
  rw [← h2]
  have h3 : sm m (fun k => redM (m + 1) es q (pd q v) k * detF m (repl (redM (m + 1) es q) k fun i => d (sk q i))) = detF m (redM (m + 1) es q) * sm m (fun k => redM (m + 1) es q (pd q v) k * s (sk q k)) := by
    rw [← ydz]
    refine yao fun k hk => ?_
    have h4 := h (sk q k) (ygS hk) (sk_ne q k)
    unfold xF at h4
    rw [show pd q (sk q k) = k from sk_inj (q := q) (sk_pd (sk_ne q k))] at h4
    rw [h4]; grind
  rw [h3] at h1
  have h5 : detF m (redM (m + 1) es q) * (sm m (fun k => redM (m + 1) es q (pd q v) k * s (sk q k)) - d v) = 0 := by rw [Int.mul_sub, h1, Int.mul_comm]; omega
  rcases Int.mul_eq_zero.1 h5 with h6 | h6
  · exact absurd h6 hN
  · omega
end
end Go.Proofs.YthgjegpemgokoaaGreat

/- A variable in memory says nothing of other blocks. -/
namespace Go.Proofs.YthgjegpemgokoaaGreat
open Go Go.RowKit Go.Proofs.Tryz
theorem flat_box (e : TypeId) (g : Nat) (cells : List Value) : (Res.box e g cells).Flat := fun _ _ _ _ h => h
end Go.Proofs.YthgjegpemgokoaaGreat

/- What the arguments of the laws read as: numbers, lists, graphs; and what is handed back. -/
namespace Go.Proofs.YthgjegpemgokoaaGreat
open Go Go.ChangeShapes Go.WideShapes Go.ChangeAt Go.RowKit Go.Joins Go.Deep Go.Proofs.Tryz
theorem own : ownKnob Tryz.prog.godebug = none := by kernel_rfl
theorem laidOut : laidOutB Tryz.prog = true := by kernel_rfl
theorem yiv : Tryz.prog.cellsOf 3 = 1 := by kernel_rfl
theorem cells_graph : Tryz.prog.cellsOf 24 = 2 := by kernel_rfl
theorem cells_edge : Tryz.prog.cellsOf 92 = 3 := by kernel_rfl
theorem cells3 {w : World} {base : Nat} {a : Addr} {cs : List Value} (h : w.cells? base a 3 = some cs) : ∃ x y z, cs = [x, y, z] ∧ w.cell? a = some x ∧ w.cell? (a.add 1) = some y ∧ w.cell? (a.add 2) = some z := by
  unfold World.cells? at h
  split at h
  · have e : List.range 3 = [0, 1, 2] := rfl
    rw [e] at h
    cases h0 : w.cell? (a.add 0) with
    | none => simp [h0] at h
    | some x =>
      cases h1 : w.cell? (a.add 1) with
      | none => simp [h0, h1] at h
      | some y =>
        cases h2 : w.cell? (a.add 2) with
        | none => simp [h0, h1, h2] at h
        | some z =>
          simp [h0, h1, h2] at h
          exact ⟨x, y, z, h.symm, h0, rfl, rfl⟩
  · cases h
theorem ints_sl {W : World} {A : Option Addr} {xs : List Int} {c : Nat} (hc : xs.length ≤ c) (h : Ints W A xs) : (FP.sl cI A xs.length c xs).P no W := by
  refine ⟨rfl, hc, fun h0 => ?_⟩
  obtain ⟨b, off, e, hb, hcell⟩ := h h0
  refine ⟨b, off, e, hb, id, fun k x hx => ⟨_, rfl, fun j u hj => ?_⟩⟩
  have hk : k < xs.length := (List.getElem?_eq_some_iff.1 hx).1
  have hj0 : j = 0 := by
    have := (List.getElem?_eq_some_iff.1 hj).1
    simp [fI] at this; exact this
  subst hj0
  have hu : u = .int .i64 x := by
    have : (some (Value.int .i64 x)) = some u := hj
    simpa using this.symm
  rw [ybb hk] at hx
  cases hx
  rw [hu]
  have := hcell k hk
  simpa [cI, Fl.cod, fI] using this
theorem edges_sl {W : World} {A : Option Addr} {xs : List E3} {c : Nat} (hc : xs.length ≤ c) (h : ycA W A xs) : (FP.sl c3 A xs.length c xs).P no W := by
  refine ⟨rfl, hc, fun h0 => ?_⟩
  obtain ⟨b, off, e, hb, hcell⟩ := h h0
  refine ⟨b, off, e, hb, id, fun k x hx => ⟨_, rfl, fun j u hj => ?_⟩⟩
  have hk : k < xs.length := (List.getElem?_eq_some_iff.1 hx).1
  rw [yd8 hk] at hx
  cases hx
  obtain ⟨q0, q1, q2⟩ := hcell k hk
  match j, hj with
  | 0, hj =>
    have : (some (Value.int .i64 (ge xs k).1)) = some u := hj
    cases this; exact q0
  | 1, hj =>
    have : (some (Value.int .i64 (ge xs k).2.1)) = some u := hj
    cases this; exact q1
  | 2, hj =>
    have : (some (Value.int .i64 (ge xs k).2.2)) = some u := hj
    cases this; exact q2
  | j + 3, hj => cases hj
set_option maxRecDepth 100000
variable {H : Type} {enc : TypeId × Value → H} {W : World} {r : Reach} {b0 : Nat}
theorem open_list {t : TypeId} (ht : Tryz.prog.underlying t = some (.slice 3)) {v : Value} {d : DataW H} {p : List MemPlace} (hv : Value.okWide Tryz.prog W r b0 t v) (h : DataW.Trod enc Tryz.prog W 0 (fun _ => true) true t v d p) :
    ∃ (A : Option Addr) (l : List Int) (c : Nat), v = .slice A l.length c ∧ (FP.sl cI A l.length c l).P no W := by
  suffices h : ∃ (A : Option Addr) (l : List Int) (c : Nat), v = .slice A l.length c ∧ l.length ≤ c ∧ Ints W A l by
    obtain ⟨A, l, c, e, hlc, hi⟩ := h
    exact ⟨A, l, c, e, ints_sl hlc hi⟩
  obtain ⟨a0, len, cap, rfl⟩ := okWide_slice ht hv
  obtain ⟨fuel, hf⟩ := h
  rcases open_ints ht underlying3 yiv hf with ⟨hcs, hx⟩ | ⟨a, len', cap', zs, hcs, _, hl, hm, hz, hx, hcell, hwz⟩
  · simp [Value.cells] at hcs
    obtain ⟨rfl, rfl, rfl⟩ := hcs
    exact ⟨none, [], 0, rfl, Nat.le_refl _, Ints.nil _ _⟩
  · simp [Value.cells] at hcs
    obtain ⟨rfl, rfl, rfl⟩ := hcs
    simp only [if_true] at hz
    refine ⟨some a, zs.take len, cap, by rw [List.length_take, Nat.min_eq_left (by omega)], by rw [List.length_take]; omega, fun hp => ?_⟩
    rw [List.length_take, Nat.min_eq_left (by omega)] at hp ⊢
    obtain ⟨b, off, rfl, hc⟩ := ints_at hcell (by omega)
    refine ⟨b, off, rfl, ?_, fun k hk => ?_⟩
    · have := hc 0 (by omega)
      apply Nat.lt_of_not_le
      intro hle
      unfold World.cell? at this
      rw [Array.getElem?_eq_none hle] at this
      simp at this
    · rw [hc k (by omega), ya4 (by rw [List.length_take]; omega), List.getElem_take, List.getD_eq_getElem?_getD, List.getElem?_eq_getElem (by omega)]
      rfl
theorem yiz {t : TypeId} (ht : Tryz.prog.underlying t = some (.slice 3)) {fuel : Nat} {v : Value} {x : DataW H × List MemPlace} (hf : DataW.trod enc Tryz.prog W 0 (fun _ => true) true fuel t [v] = some x) :
    ∃ (A : Option Addr) (l : List Int) (c : Nat), v = .slice A l.length c ∧ (FP.sl cI A l.length c l).P no W := by
  suffices h : ∃ (A : Option Addr) (l : List Int) (c : Nat), v = .slice A l.length c ∧ l.length ≤ c ∧ Ints W A l by
    obtain ⟨A, l, c, e, hlc, hi⟩ := h
    exact ⟨A, l, c, e, ints_sl hlc hi⟩
  rcases open_ints ht underlying3 yiv hf with ⟨hcs, hx⟩ | ⟨a, len', cap', zs, hcs, _, hl, hm, hz, hx, hcell, hwz⟩
  · simp at hcs
    subst hcs
    exact ⟨none, [], 0, rfl, Nat.le_refl _, Ints.nil _ _⟩
  · simp at hcs
    subst hcs
    simp only [if_true] at hz
    refine ⟨some a, zs.take len', cap', by rw [List.length_take, Nat.min_eq_left (by omega)], by rw [List.length_take]; omega, fun hp => ?_⟩
    rw [List.length_take, Nat.min_eq_left (by omega)] at hp ⊢
    obtain ⟨b, off, rfl, hc⟩ := ints_at hcell (by omega)
    refine ⟨b, off, rfl, ?_, fun k hk => ?_⟩
    · have := hc 0 (by omega)
      apply Nat.lt_of_not_le
      intro hle
      unfold World.cell? at this
      rw [Array.getElem?_eq_none hle] at this
      simp at this
    · rw [hc k (by omega), ya4 (by rw [List.length_take]; omega), List.getElem_take, List.getD_eq_getElem?_getD, List.getElem?_eq_getElem (by omega)]
      rfl
theorem open_edge {fuel base : Nat} {spare : Nat → Bool} {held : Bool} {x y z : Value} {o : DataW H × List MemPlace} (h : DataW.trod enc Tryz.prog W base spare held fuel 92 [x, y, z] = some o) : ∃ a b c : Int, x = .int .i64 a ∧ y = .int .i64 b ∧ z = .int .i64 c := by
  obtain ⟨xs, n, _, rfl, hl, hlen, hf⟩ := DataW.trod_struct underlying92 h
  obtain ⟨x0, x1, x2, rfl⟩ : ∃ x0 x1 x2, xs = [x0, x1, x2] := by
    match xs, hlen with
    | [x0, x1, x2], _ => exact ⟨_, _, _, rfl⟩
  have f0 := hf 0 _ rfl
  have f1 := hf 1 _ rfl
  have f2 := hf 2 _ rfl
  simp [yiv] at f0 f1 f2
  obtain ⟨a, e0, -, -⟩ := DataW.trod_int underlying3 f0
  obtain ⟨b, e1, -, -⟩ := DataW.trod_int underlying3 f1
  obtain ⟨c, e2, -, -⟩ := DataW.trod_int underlying3 f2
  simp at e0 e1 e2
  exact ⟨a, b, c, e0, e1, e2⟩
theorem open_graph {v : Value} {d : DataW H} {p : List MemPlace} (hv : Value.okWide Tryz.prog W r b0 24 v) (h : DataW.Trod enc Tryz.prog W 0 (fun _ => true) true 24 v d p) :
    ∃ (n : Int) (A : Option Addr) (es : List E3) (c : Nat), v = .agg #[.int .i64 n, .slice A es.length c] ∧ (FP.sl c3 A es.length c es).P no W := by
  suffices h : ∃ (n : Int) (A : Option Addr) (es : List E3) (c : Nat), v = .agg #[.int .i64 n, .slice A es.length c] ∧ es.length ≤ c ∧ ycA W A es by
    obtain ⟨n, A, l, c, e, hlc, hi⟩ := h
    exact ⟨n, A, l, c, e, edges_sl hlc hi⟩
  obtain ⟨c0, c1, y0, y1, m, rfl, rfl, rfl, hy0, hy1⟩ := open_agg2 underlying24 (by kernel_rfl) cells_graph hv h
  obtain ⟨n, e0, -, -⟩ := DataW.trod_int underlying3 hy0
  simp at e0
  subst e0
  rcases open_slice underlying22 hy1 with ⟨hcs, -⟩ | ⟨a, len, cap, mm, nn, D, Pl, hcs, -, hl, hm, hmm, -, hel⟩
  · simp at hcs
    subst hcs
    exact ⟨n, none, [], 0, rfl, Nat.le_refl _, fun h => absurd h (by simp)⟩
  · simp at hcs
    subst hcs
    simp only [if_true] at hmm
    have hex : ∀ i, i < len → ∃ e : E3, W.cell? (a.add (i * 3)) = some (.int .i64 e.1) ∧ W.cell? ((a.add (i * 3)).add 1) = some (.int .i64 e.2.1) ∧ W.cell? ((a.add (i * 3)).add 2) = some (.int .i64 e.2.2) := fun i hi => by
      obtain ⟨cs', hc, ht⟩ := hel i (by omega)
      rw [cells_edge] at hc
      obtain ⟨x, y, z, rfl, k0, k1, k2⟩ := cells3 hc
      obtain ⟨xa, xb, xc, rfl, rfl, rfl⟩ := open_edge ht
      exact ⟨(xa, xb, xc), k0, k1, k2⟩
    let f : Nat → E3 := fun i => if h : i < len then Classical.choose (hex i h) else (0, 0, 0)
    have hf : ∀ i, i < len → W.cell? (a.add (i * 3)) = some (.int .i64 (f i).1) ∧ W.cell? ((a.add (i * 3)).add 1) = some (.int .i64 (f i).2.1) ∧ W.cell? ((a.add (i * 3)).add 2) = some (.int .i64 (f i).2.2) := fun i hi => by
      show _ ∧ _ ∧ _
      have e : f i = Classical.choose (hex i hi) := dif_pos hi
      rw [e]
      exact Classical.choose_spec (hex i hi)
    have hlen : ((List.range len).map f).length = len := by simp
    refine ⟨n, some a, (List.range len).map f, cap, by rw [hlen], by rw [hlen]; omega, fun hp => ?_⟩
    rw [hlen] at hp ⊢
    obtain ⟨b, off, spot⟩ := a
    have hspot : spot = none := by simpa [Addr.add] using World.cell?_spot (hf 0 hp).1
    subst hspot
    refine ⟨b, off, rfl, ?_, fun k hk => ?_⟩
    · have := (hf 0 hp).1
      apply Nat.lt_of_not_le
      intro hle
      unfold World.cell? at this
      rw [Array.getElem?_eq_none (by simpa [Addr.add] using hle)] at this
      simp at this
    · have hg : ge ((List.range len).map f) k = f k := by rw [ydA (by rw [hlen]; exact hk)]; simp
      rw [hg]
      have := hf k hk
      simpa [Addr.add_mid] using this
end Go.Proofs.YthgjegpemgokoaaGreat

/- What arguments read as: lists of lists, pairs of lists. -/
namespace Go.Proofs.YthgjegpemgokoaaGreat
open Go Go.ChangeShapes Go.WideShapes Go.ChangeAt Go.RowKit Go.Joins Go.Deep Go.Proofs.Tryz
set_option maxRecDepth 100000
set_option linter.unusedVariables false
variable {H : Type} {enc : TypeId × Value → H} {W : World} {r : Reach} {b0 : Nat}
theorem open_arr2s {t e : TypeId} (ht : Tryz.prog.underlying t = some (.array 2 e)) (he : Tryz.prog.underlying e = some (.slice 3)) (hC : Tryz.prog.cellsOf t = 2) (hce : Tryz.prog.cellsOf e = 1) {v : Value} {d : DataW H} {p : List MemPlace} (hv : Value.okWide Tryz.prog W r b0 t v) (h : DataW.Trod enc Tryz.prog W 0 (fun _ => true) true t v d p) :
    ∃ (A B : Option Addr) (l m : List Int) (c k : Nat), v = .agg #[.slice A l.length c, .slice B m.length k] ∧ (FP.sl cI A l.length c l).P no W ∧ (FP.sl cI B m.length k m).P no W := by
  simp only [Value.okWide, ht] at hv
  obtain ⟨cs, rfl, hsz, _⟩ := hv
  obtain ⟨c0, c1, rfl⟩ := array2 (hsz.trans (by first | exact hC | simp [hce]))
  obtain ⟨fuel, hf⟩ := h
  obtain ⟨xs, m, rfl, hx, hl, hn, hel⟩ := DataW.trod_array ht hf
  obtain ⟨x0, x1, rfl⟩ : ∃ x0 x1, xs = [x0, x1] := by
    match xs, hn with
    | [x0, x1], _ => exact ⟨_, _, rfl⟩
  have f0 := hel 0 (by omega)
  have f1 := hel 1 (by omega)
  simp [hce, Value.cells] at f0 f1
  obtain ⟨A, l, c, rfl, h0⟩ := yiz he f0
  obtain ⟨B, m, k, rfl, h1⟩ := yiz he f1
  exact ⟨A, B, l, m, c, k, rfl, h0, h1⟩
end Go.Proofs.YthgjegpemgokoaaGreat
