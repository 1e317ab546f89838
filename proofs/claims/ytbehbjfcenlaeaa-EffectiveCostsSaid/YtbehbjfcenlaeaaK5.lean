/- Texts laid together: It, PEa. -/
import Derived.Test.YtbehbjfcenlaeaaK4
/- Iterators: what a generator and the loop over it owe each other; each side has its own blocks. No program in sight. -/
namespace Go.Proofs.Ytbehbjfcenlaeaa
open Go Go.RowKit Go.Shelf
set_option linter.unusedVariables false
set_option linter.unusedSimpArgs false
set_option linter.unusedSectionVars false

/-! ### A call of yield -/
theorem n_yield {P : Program} {E : Env} {w : World} {d : Option Tmp} {ty : TypeId} {ps : String} {af : Array Edge} {g : Option (Nat × Bool)} {K : Value → World → Prop} {l m : Nat} {args : Array Operand} {ats : Array TypeId} {vs : Array Value} {fo : Operand}
    (hf : evE E fo = .func (.yield l) #[] #[]) (ha : args.map (evE E) = vs) (h : YieldAt Fence.wide m P l vs w fun e w'' => ∃ v, e = .returned v ∧ K v w'') : noisy P ⟨d, .call ⟨.value fo, args, ats⟩, ty, ps, af, g⟩ (evE E) w K := by
  obtain ⟨fn, tmps, assign, body, hy, hR⟩ := h
  unfold noisy execOp
  simp only [resolve, hf, ha, Deferred.ofValue, Sem.run_bind, Sem.run_pure, Result.andThen, invoke, Array.empty_append, Array.append_empty, hy]
  exact ⟨trivial, fun c cs _ => hR.2 c cs (room_wide _)⟩

/-! ### A statement that may be left by a jump -/
theorem WTa.ofx {F : Fence} {n : Nat} {P : Program} {Q : Exit → Act → World → Prop} {a : Act} {w : World} {t : List Item} {c : Code}
    (h : c.wpIn F n P (fun e a' w' => match e with
      | .normal => WTa F n P t Q a' w'
      | .ret => Q .ret a' w'
      | .exit id => (match exitTo id t with | some k' => WTa F n P k' Q a' w' | none => Q (.exit id) a' w')
      | _ => False) a w) : WTa F n P (.code c :: t) Q a w := by
  intro b k cs hro hb hr
  obtain ⟨e, a', w', hw, harr⟩ := h b (t ++ k) cs hro hb hr
  cases e with
  | normal =>
    obtain ⟨e2, a2, w2, hq, harr2⟩ := hw b k cs hro hb hr
    exact ⟨e2, a2, w2, hq, .of_steps harr harr2⟩
  | ret => exact ⟨.ret, a', w', hw, harr⟩
  | exit id =>
    cases he : exitTo id t with
    | some k' =>
      simp only [he] at hw
      obtain ⟨e2, a2, w2, hq, harr2⟩ := hw b k cs hro hb hr
      exact ⟨e2, a2, w2, hq, .of_steps (harr.1 _ (exitTo_append k he)) harr2⟩
    | none =>
      simp only [he] at hw
      refine ⟨.exit id, a', w', hw, ?_⟩
      have h1 := harr.1
      have h2 := harr.2
      rw [exitTo_none k he] at h1 h2
      exact ⟨h1, h2⟩
  | goto l => exact hw.elim
  | panic ch => exact hw.elim
  | outgrown => exact hw.elim

theorem Keeps.trans' {A B T S : Nat → Prop} {a b c d : World} (h : Keeps A a b) (k : Keeps B b c) (l : Keeps S c d) (h1 : ∀ k, A k → T k) (h2 : ∀ k, B k → T k) (h3 : ∀ k, S k → T k) : Keeps T a d :=
  ((h.mono fun k _ e => h1 k e).trans (k.mono fun k _ e => h2 k e)).trans (l.mono fun k _ e => h3 k e)
/-! ### The session between a generator and a loop -/
abbrev BS := Nat → Prop
/-- A round changes no block but T; T' is what the loop has behind it. -/
structure RK (T : BS) (W : World) (T' : BS) (W' : World) : Prop where
  keeps : Keeps T W W'
  sub : ∀ k, T' k → T k ∨ W.heap.size ≤ k
  lt : ∀ k, T' k → k < W'.heap.size
/-- What may be said of the loop stays when the generator changes its own blocks, or lays new ones. -/
def GenOk {α : Type} (J : BS → BS → List α → World → Prop) : Prop :=
  ∀ {T G G' : BS} {pre : List α} {W W' : World}, J T G pre W → Keeps G W W' → (∀ k, G' k → G k ∨ W.heap.size ≤ k) → (∀ k, G' k → k < W'.heap.size) → J T G' pre W'
/-- The blocks of the two sides. -/
def TwoOk {α : Type} (J : BS → BS → List α → World → Prop) : Prop :=
  ∀ {T G : BS} {pre : List α} {W : World}, J T G pre W → (∀ k, T k → ¬ G k ∧ k < W.heap.size) ∧ ∀ k, G k → k < W.heap.size
structure Sess (P : Program) (l : Nat) {α : Type} (enc : α → Array Value) (pass : α → FP) (Pr : List α → Prop) (J Jx : BS → BS → List α → World → Prop) : Prop where
  gen : GenOk J
  genx : GenOk Jx
  two : TwoOk J
  twox : TwoOk Jx
  yld : ∀ {T G : BS} {pre : List α} {x : α} {W : World}, J T G pre W → Pr (pre ++ [x]) → (pass x).P (fun k => T k ∨ G k) W →
    YieldAt Fence.wide 1 P l (enc x) W fun e W' => ∃ T', RK T W T' W' ∧ ((e = .returned (.bool true) ∧ J T' G (pre ++ [x]) W') ∨ (e = .returned (.bool false) ∧ Jx T' G (pre ++ [x]) W'))
/-- The generator's word. -/
def GenSays (P : Program) (gf : FuncId) (lb : Array Value) {α : Type} (enc : α → Array Value) (pass : α → FP) (Pr R : List α → Prop) (T0 G0 : BS) (w : World) : Prop :=
  ∀ (l : Nat) (J Jx : BS → BS → List α → World → Prop) (T1 : BS) (w1 : World), Sess P l enc pass Pr J Jx → J T1 G0 [] w1 → Pure w w1 → (∀ k, T1 k → T0 k ∨ w.heap.size ≤ k) →
    CallsIn Fence.wide 2 P gf (#[.func (.yield l) #[] #[]] ++ lb) w1 fun e w' => (∃ v, e = .returned v) ∧ ((∃ xs T G, R xs ∧ J T G xs w') ∨ ∃ pre T G, Jx T G pre w')
/-- What a round of the loop l does to the world: T, and the loop's record, may change. -/
structure RL1 (l : Nat) (busy : Obj) (T : BS) (W : World) (T' : BS) (W' : World) : Prop where
  keeps : Keeps (fun k => T k ∨ k = l) W W'
  sub : ∀ k, T' k → T k ∨ W.heap.size ≤ k
  lt : ∀ k, T' k → k < W'.heap.size
  at_ : W'.heap[l]? = some busy
/-- How a round's body may be left. -/
def rndPost (l : Nat) (busy : Obj) {α : Type} (I : BS → BS → List α → World → Prop) (Ix : Option Nat → BS → BS → List α → World → Prop) (T G : BS) (xs : List α) (W : World) : Exit → Act → World → Prop
  | .normal, _, W' => ∃ T', RL1 l busy T W T' W' ∧ I T' G xs W'
  | .ret, _, W' => ∃ T', RL1 l busy T W T' W' ∧ Ix none T' G xs W'
  | .exit id, _, W' => ∃ T', RL1 l busy T W T' W' ∧ Ix (some id) T' G xs W'
  | _, _, _ => False
def jumpOf : Option Nat → Code
  | none => .ret
  | some id => .exit id
theorem putObj_size (W : World) (l : Nat) (o : Obj) : (W.putObj l o).heap.size = W.heap.size := by simp
theorem putObj_keeps (W : World) (l : Nat) (o : Obj) : Keeps (fun k => k = l) W (W.putObj l o) :=
  ⟨rfl, rfl, rfl, by simp, fun k hk hn => World.putObj_heap_other hn⟩
/-- Where a jump out of the loop leads. -/
def JumpTo (P : Program) (N : Nat) (t : List Item) (Q : Exit → Act → World → Prop) (E : Env) (ds : List Deferred) (w : World) : Option Nat → Prop
  | none => ∀ a, Rep N E ds a → Q .ret a w
  | some id => match exitTo id t with
    | some k' => WT Fence.wide 3 P N k' Q E ds w
    | none => ∀ a, Rep N E ds a → Q (.exit id) a w

theorem wpIn_iter {P : Program} {N : Nat} {Q : Exit → Act → World → Prop} {E : Env} {ds : List Deferred} {w : World} {t : List Item} {fo : Operand} {ps : Array Tmp} {assign body : Code} {gf : FuncId} {lb : Array Value} {a : Act}
    (hr : a.eval fo = .func (.func gf) #[] lb) (he : Enters P gf) {α : Type} {enc : α → Array Value} {pass : α → FP} {Pr R : List α → Prop} (hps : ∀ x, (enc x).size = ps.size)
    (T0 G0 : BS) (I : BS → BS → List α → World → Prop) (Ix : Option Nat → BS → BS → List α → World → Prop) (hI : GenOk I) (hI2 : TwoOk I) (hIx : ∀ c, GenOk (Ix c)) (hIx2 : ∀ c, TwoOk (Ix c)) (h0 : I T0 G0 [] w)
    (hgen : GenSays P gf lb enc pass Pr R T0 G0 w)
    (hround : ∀ (l : Nat) (T G : BS) (pre : List α) (x : α) (W : World) (rdy busy : Obj), I T G pre W → Pr (pre ++ [x]) → (pass x).P (fun k => T k ∨ G k) W → G l → W.heap[l]? = some rdy →
      assign.wpIn (Fence.wide.inRound l) 1 P (Exit.then (fun a1 W1 => W1.heap[l]? = some rdy ∧ ∀ W2, W2 = W1.putObj l busy → body.wpIn (Fence.wide.inRound l) 1 P (rndPost l busy I Ix T G (pre ++ [x]) W) a1 W2) (fun _ _ _ => False))
        { tmps := (ps.zip (enc x)).foldl (fun t (p, v) => t.setIfInBounds p v) a.tmps, defers := [] } W)
    (hdone : ∀ (D : Nat) (T G : BS) (xs : List α) (W : World), w.heap.size ≤ D → ¬ T D → G D → R xs → I T G xs W → W.heap[D]? = some (.deferred (some [])) → Q .normal { a with defers := { target := .collected D, args := #[] } :: a.defers } W)
    (hstop : ∀ (D : Nat) (T G : BS) (c : Option Nat) (xs : List α) (W : World), w.heap.size ≤ D → ¬ T D → G D → Ix c T G xs W → W.heap[D]? = some (.deferred (some [])) → (jumpOf c).wpIn Fence.wide 3 P Q { a with defers := { target := .collected D, args := #[] } :: a.defers } W) :
    (Code.rangeFunc fo ps assign body).wpIn Fence.wide 3 P Q a w := by
  refine wpIn_rangeFunc ?_
  intro fn hfn
  obtain ⟨D, hD⟩ : ∃ D, D = w.heap.size := ⟨_, rfl⟩
  obtain ⟨L, hL⟩ : ∃ L, L = w.heap.size + 1 := ⟨_, rfl⟩
  obtain ⟨rec, hrec⟩ : ∃ rec : LoopState → Option Code → Loop, rec = fun st pe => { state := st, pending := pe, fn, tmps := a.tmps, params := ps, assign, body, defers := w.heap.size } := ⟨_, rfl⟩
  obtain ⟨W1, hW1⟩ : ∃ W1, (w.alloc (.deferred (some []))).alloc (.loop (rec .ready none)) = W1 := ⟨_, rfl⟩
  have hL1 : W1.heap[L]? = some (.loop (rec .ready none)) := by
    rw [← hW1, hL]; have := World.alloc_heap_new (w.alloc (.deferred (some []))) (.loop (rec .ready none)); rwa [World.size_alloc] at this
  have hK1 : W1.heap[D]? = some (.deferred (some [])) := by
    rw [← hW1, hD]; exact (Below.heap_alloc _ _ _ (by simp)).trans (World.alloc_heap_new w _)
  have hP1 : Pure w W1 := by rw [← hW1]; exact ((Keeps.refl _ _).alloc _).alloc _
  have hs1 : W1.heap.size = w.heap.size + 2 := by rw [← hW1]; simp
  have two0 := hI2 h0
  refine ⟨L, [{ target := .collected D, args := #[] }], W1, { target := .fn (.func gf) lb, args := #[.func (.yield L) #[] #[]] }, W1, gf, #[.func (.yield L) #[] #[]] ++ lb, W1, ?_, ?_, fun _ _ => trivial, ?_, fun h => (by cases h), ?_⟩
  · rw [← hW1, hrec, hL, hD]; exact run_enterLoop_outer _ _ _ _ _
  · simp only [resolve, hr]
    simp [go_sem]
  · simp [invoke, go_sem, he _ _]
  · have key := hgen L
      (fun Tg G pre W => ∃ T, (∀ k, Tg k ↔ T k ∨ k = L ∨ k = D) ∧ I T (fun k => G k ∨ k = L ∨ k = D) pre W ∧ W.heap[L]? = some (.loop (rec .ready none)) ∧ W.heap[D]? = some (.deferred (some [])) ∧ ¬ G L ∧ ¬ G D ∧ ¬ T D)
      (fun Tg G pre W => ∃ T c, (∀ k, Tg k ↔ T k ∨ k = L ∨ k = D) ∧ Ix c T (fun k => G k ∨ k = L ∨ k = D) pre W ∧ W.heap[L]? = some (.loop (rec .done (some (jumpOf c)))) ∧ W.heap[D]? = some (.deferred (some [])) ∧ ¬ G L ∧ ¬ G D ∧ ¬ T D)
      (fun k => T0 k ∨ k = L ∨ k = D) W1 ⟨?_, ?_, ?_, ?_, ?_⟩ ⟨T0, fun _ => Iff.rfl, ?_, hL1, hK1, ?_, ?_, ?_⟩ hP1 (fun k hk => ?_)
    · refine (show CallsIn Fence.wide (3 - 1) P gf _ W1 _ from key).mono ?_
      rintro e W2 ⟨⟨v, rfl⟩, (⟨xs, Tg, G, hR, T, hT, hi, hl, hd, g1, g2, g3⟩ | ⟨pre, Tg, G, T, c, hT, hi, hl, hd, g1, g2, g3⟩)⟩
      · refine ⟨none, W2.putObj L (.loop { rec .ready none with state := .exhausted }), by have := run_endLoop (P := P) hl (by rw [hrec]; simp); rw [hrec] at this ⊢; exact this, ?_⟩
        have hLl : L < W2.heap.size := (Array.getElem?_eq_some_iff.1 hl).1
        have hlt := (hI2 hi).2
        exact hdone D T _ xs _ (by omega) g3 (.inr (.inr rfl)) hR (hI hi ((putObj_keeps _ _ _).mono fun k _ e => .inr (.inl e)) (fun k h => .inl h) (fun k h => by rw [putObj_size]; exact hlt k h)) ((World.putObj_heap_other (by omega)).trans hd)
      · refine ⟨some (jumpOf c), W2.putObj L (.loop { rec .done (some (jumpOf c)) with state := .exhausted }), by have := run_endLoop (P := P) hl (by rw [hrec]; simp); rw [hrec] at this ⊢; exact this, ?_⟩
        have hlt := (hIx2 c hi).2
        exact hstop D T _ c pre _ (by omega) g3 (.inr (.inr rfl)) (hIx c hi ((putObj_keeps _ _ _).mono fun k _ e => .inr (.inl e)) (fun k h => .inl h) (fun k h => by rw [putObj_size]; exact hlt k h)) ((World.putObj_heap_other (by omega)).trans hd)
    · -- the generator's steps
      rintro Tg G G' pre W W' ⟨T, hT, hi, hl, hd, g1, g2, g3⟩ hK hG hGl
      have lL := (Array.getElem?_eq_some_iff.1 hl).1
      have lD := (Array.getElem?_eq_some_iff.1 hd).1
      refine ⟨T, hT, hI hi (hK.mono fun k _ h => .inl h) (fun k h => ?_) (fun k h => ?_), (hK.block L lL g1).trans hl, (hK.block D lD g2).trans hd, fun h => ?_, fun h => ?_, g3⟩
      · rcases h with h | h
        · rcases hG k h with q | q
          · exact .inl (.inl q)
          · exact .inr q
        · exact .inl (.inr h)
      · rcases h with h | h | h
        · exact hGl k h
        · rw [h]; exact Nat.lt_of_lt_of_le lL hK.size
        · rw [h]; exact Nat.lt_of_lt_of_le lD hK.size
      · rcases hG L h with q | q
        · exact g1 q
        · omega
      · rcases hG D h with q | q
        · exact g2 q
        · omega
    · rintro Tg G G' pre W W' ⟨T, c, hT, hi, hl, hd, g1, g2, g3⟩ hK hG hGl
      have lL := (Array.getElem?_eq_some_iff.1 hl).1
      have lD := (Array.getElem?_eq_some_iff.1 hd).1
      refine ⟨T, c, hT, hIx c hi (hK.mono fun k _ h => .inl h) (fun k h => ?_) (fun k h => ?_), (hK.block L lL g1).trans hl, (hK.block D lD g2).trans hd, fun h => ?_, fun h => ?_, g3⟩
      · rcases h with h | h
        · rcases hG k h with q | q
          · exact .inl (.inl q)
          · exact .inr q
        · exact .inl (.inr h)
      · rcases h with h | h | h
        · exact hGl k h
        · rw [h]; exact Nat.lt_of_lt_of_le lL hK.size
        · rw [h]; exact Nat.lt_of_lt_of_le lD hK.size
      · rcases hG L h with q | q
        · exact g1 q
        · omega
      · rcases hG D h with q | q
        · exact g2 q
        · omega
    · rintro Tg G pre W ⟨T, hT, hi, hl, hd, g1, g2, g3⟩
      have lL := (Array.getElem?_eq_some_iff.1 hl).1
      refine ⟨fun k hk => ?_, fun k hk => (hI2 hi).2 k (.inl hk)⟩
      rcases (hT k).1 hk with q | q
      · exact ⟨fun hg => ((hI2 hi).1 k q).1 (.inl hg), ((hI2 hi).1 k q).2⟩
      · rcases q with q | q
        · rw [q]; exact ⟨g1, lL⟩
        · rw [q]; exact ⟨g2, (Array.getElem?_eq_some_iff.1 hd).1⟩
    · rintro Tg G pre W ⟨T, c, hT, hi, hl, hd, g1, g2, g3⟩
      have lL := (Array.getElem?_eq_some_iff.1 hl).1
      refine ⟨fun k hk => ?_, fun k hk => (hIx2 c hi).2 k (.inl hk)⟩
      rcases (hT k).1 hk with q | q
      · exact ⟨fun hg => ((hIx2 c hi).1 k q).1 (.inl hg), ((hIx2 c hi).1 k q).2⟩
      · rcases q with q | q
        · rw [q]; exact ⟨g1, lL⟩
        · rw [q]; exact ⟨g2, (Array.getElem?_eq_some_iff.1 hd).1⟩
    · -- one round
      rintro Tg G pre x W ⟨T, hT, hi, hl, hd, g1, g2, g3⟩ hPr hpass
      have lL := (Array.getElem?_eq_some_iff.1 hl).1
      have lD := (Array.getElem?_eq_some_iff.1 hd).1
      have hy := run_yield (P := P) (args := enc x) hl (by rw [hrec]; exact hps x)
      rw [hrec] at hy
      have hp2 : (pass x).P (fun k => T k ∨ (G k ∨ k = L ∨ k = D)) W := (pass x).sub hpass (fun k _ h => by
        rcases h with h | h | h
        · exact .inl ((hT k).2 (.inl h))
        · exact .inr h
        · exact .inl ((hT k).2 (.inr h)))
      refine ⟨fn, _, assign, body, hy, roundIn_of_wpIn hfn (wpIn_mono (hround L T _ pre x W _ (.loop { rec .ready none with state := .busy }) hi hPr hp2 (.inr (.inl rfl)) hl) ?_)⟩
      rintro e1 a1 V1 hq
      cases e1 with
      | exit id => exact hq.elim
      | ret => exact hq.elim
      | goto l => exact hq.elim
      | panic c => exact hq.elim
      | outgrown => exact hq.elim
      | normal =>
      obtain ⟨hl1, hb1⟩ := hq
      refine ⟨_, run_beginRound hl1 (by rw [hrec]), wpIn_mono (hb1 _ rfl) ?_⟩
      have fin : ∀ (T' : BS) (jump : Option Code) (W3 : World), RL1 L (.loop { rec .ready none with state := .busy }) T W T' W3 →
          (Instr.endRound L jump).run P W3 = .ok (.bool jump.isNone) (W3.putObj L (.loop (rec (if jump.isNone then .ready else .done) jump))) ∧
          (W3.putObj L (.loop (rec (if jump.isNone then .ready else .done) jump))).heap[L]? = some (.loop (rec (if jump.isNone then .ready else .done) jump)) ∧
          (W3.putObj L (.loop (rec (if jump.isNone then .ready else .done) jump))).heap[D]? = some (.deferred (some [])) ∧
          RK Tg W (fun k => T' k ∨ k = L ∨ k = D) (W3.putObj L (.loop (rec (if jump.isNone then .ready else .done) jump))) ∧ Keeps (fun k => k = L) W3 (W3.putObj L (.loop (rec (if jump.isNone then .ready else .done) jump))) ∧ L < W3.heap.size ∧ ¬ T' D := fun T' jump W3 hk3 => by
        have hl3 : W3.heap[L]? = some (.loop { rec .ready none with state := .busy }) := hk3.at_
        have hd3 : W3.heap[D]? = some (.deferred (some [])) := (hk3.keeps.block D (by omega) (fun h => h.elim g3 (fun e => by omega))).trans hd
        have lL3 := (Array.getElem?_eq_some_iff.1 hl3).1
        have hrun := run_endRound (P := P) jump hl3
        rw [hrec] at hrun ⊢
        have hkk := putObj_keeps W3 L (.loop ((fun st pe => ({ state := st, pending := pe, fn, tmps := a.tmps, params := ps, assign, body, defers := w.heap.size } : Loop)) (if jump.isNone then .ready else .done) jump))
        refine ⟨hrun, World.putObj_heap_same lL3, (World.putObj_heap_other (by omega)).trans hd3, ⟨(Keeps.refl (fun _ => False) W).trans' hk3.keeps hkk (T := Tg) (fun k e => e.elim) (fun k e => e.elim (fun e => (hT k).2 (.inl e)) (fun e => (hT k).2 (.inr (.inl e)))) (fun k e => (hT k).2 (.inr (.inl e))), fun k h => ?_, fun k h => ?_⟩, hkk, lL3, fun h => ?_⟩
        · rcases h with h | h
          · rcases hk3.sub k h with q | q
            · exact .inl ((hT k).2 (.inl q))
            · exact .inr (by omega)
          · exact .inl ((hT k).2 (.inr h))
        · rw [putObj_size]
          rcases h with h | h
          · exact hk3.lt k h
          · rcases h with h | h
            · rw [h]; exact lL3
            · rw [h]; exact (Array.getElem?_eq_some_iff.1 hd3).1
        · rcases hk3.sub D h with q | q
          · exact g3 q
          · omega
      rintro e a3 W3 hp
      cases e with
      | normal =>
        obtain ⟨T', hk3, hi3⟩ := hp
        obtain ⟨hr3, hl4, hd4, hrk, hkk, lL3, hTD⟩ := fin T' none W3 hk3
        exact ⟨_, _, hr3, _, hrk, .inl ⟨rfl, T', fun _ => Iff.rfl, hI hi3 (hkk.mono fun k _ e => .inr (.inl e)) (fun k h => .inl h) (fun k h => by rw [putObj_size]; exact (hI2 hi3).2 k h), hl4, hd4, g1, g2, hTD⟩⟩
      | ret =>
        obtain ⟨T', hk3, hi3⟩ := hp
        obtain ⟨hr3, hl4, hd4, hrk, hkk, lL3, hTD⟩ := fin T' (some .ret) W3 hk3
        exact ⟨_, _, hr3, _, hrk, .inr ⟨rfl, T', none, fun _ => Iff.rfl, hIx none hi3 (hkk.mono fun k _ e => .inr (.inl e)) (fun k h => .inl h) (fun k h => by rw [putObj_size]; exact (hIx2 none hi3).2 k h), hl4, hd4, g1, g2, hTD⟩⟩
      | exit id =>
        obtain ⟨T', hk3, hi3⟩ := hp
        obtain ⟨hr3, hl4, hd4, hrk, hkk, lL3, hTD⟩ := fin T' (some (.exit id)) W3 hk3
        exact ⟨_, _, hr3, _, hrk, .inr ⟨rfl, T', some id, fun _ => Iff.rfl, hIx (some id) hi3 (hkk.mono fun k _ e => .inr (.inl e)) (fun k h => .inl h) (fun k h => by rw [putObj_size]; exact (hIx2 (some id) hi3).2 k h), hl4, hd4, g1, g2, hTD⟩⟩
      | goto t => exact hp.elim
      | panic ch => exact hp.elim
      | outgrown => exact hp.elim
    · have hsz : ∀ k, G0 k → k < w.heap.size := two0.2
      exact hI h0 (G := G0) (hP1.mono fun k _ h => h.elim) (fun k h => h.elim .inl (fun e => .inr (by omega))) (fun k h => h.elim (fun h => by have := hsz k h; omega) (fun e => by omega))
    · intro h; have := two0.2 L h; omega
    · intro h; have := two0.2 D h; omega
    · intro h; have := (two0.1 D h).2; omega
    · rcases hk with h | h
      · exact .inl h
      · exact .inr (by omega)

theorem wt_iter {P : Program} {N : Nat} {Q : Exit → Act → World → Prop} {E : Env} {ds : List Deferred} {w : World} {t : List Item} {fo : Operand} {ps : Array Tmp} {assign body : Code} {gf : FuncId} {lb : Array Value}
    (hr : evE E fo = .func (.func gf) #[] lb) (he : Enters P gf) {α : Type} {val : α → Array Value} {pass : α → FP} {Pr R : List α → Prop} (hps : ∀ x, (val x).size = ps.size) (hpN : ps.toList.all (fun p => Nat.blt p N) = true)
    (T0 G0 : BS) (I : BS → BS → List α → World → Prop) (Ix : Option Nat → BS → BS → List α → World → Prop) (hI : GenOk I) (hI2 : TwoOk I) (hIx : ∀ c, GenOk (Ix c)) (hIx2 : ∀ c, TwoOk (Ix c)) (h0 : I T0 G0 [] w)
    (hgen : GenSays P gf lb val pass Pr R T0 G0 w)
    (hround : ∀ (l : Nat) (T G : BS) (pre : List α) (x : α) (W : World) (rdy busy : Obj), I T G pre W → Pr (pre ++ [x]) → (pass x).P (fun k => T k ∨ G k) W → G l → W.heap[l]? = some rdy →
      WT (Fence.wide.inRound l) 1 P N [.code assign] (fun e a1 W1 => e = .normal ∧ ∃ E1, Rep N E1 [] a1 ∧ W1.heap[l]? = some rdy ∧ ∀ W2, W2 = W1.putObj l busy → WT (Fence.wide.inRound l) 1 P N [.code body] (rndPost l busy I Ix T G (pre ++ [x]) W) E1 [] W2) (setE E (ps.toList.zip (val x).toList)) [] W)
    (hdone : ∀ (D : Nat) (T G : BS) (xs : List α) (W : World), w.heap.size ≤ D → ¬ T D → G D → R xs → I T G xs W → W.heap[D]? = some (.deferred (some [])) → WT Fence.wide 3 P N t Q E ({ target := .collected D, args := #[] } :: ds) W)
    (hstop : ∀ (D : Nat) (T G : BS) (c : Option Nat) (xs : List α) (W : World), w.heap.size ≤ D → ¬ T D → G D → Ix c T G xs W → W.heap[D]? = some (.deferred (some [])) → JumpTo P N t Q E ({ target := .collected D, args := #[] } :: ds) W c) :
    WT Fence.wide 3 P N (.code (.rangeFunc fo ps assign body) :: t) Q E ds w := by
  intro a ra
  let mk : Env → Act := fun E' => { tmps := Array.ofFn (n := N) fun i => E' i, defers := [] }
  have hmk : ∀ E' : Env, (∀ t, N ≤ t → E' t = undef) → Rep N E' [] (mk E') := by
    intro E' h
    refine ⟨by simp [mk], fun t => ?_, rfl⟩
    simp only [mk, Array.getD_eq_getD_getElem?]
    rcases Nat.lt_or_ge t N with ht | ht
    · simp [ht]
    · simp [ht, h t ht]
  have hun : ∀ {E' : Env} {ds' : List Deferred} {a' : Act}, Rep N E' ds' a' → ∀ t, N ≤ t → E' t = undef := by
    intro E' ds' a' h t ht
    rw [← h.get t]
    simp [Array.getD_eq_getD_getElem?, h.size, ht]
  have hpr : ∀ x, Rep N (setE E (ps.toList.zip (val x).toList)) [] { tmps := (ps.zip (val x)).foldl (fun t (p, v) => t.setIfInBounds p v) a.tmps, defers := [] } := by
    intro x
    have h1 : Rep N E [] { tmps := a.tmps, defers := [] } := ⟨ra.size, ra.get, rfl⟩
    have h2 := setE_rep (ps.toList.zip (val x).toList) E [] _ h1 (fun p hp => by
      have := List.all_eq_true.1 hpN p.1 (List.of_mem_zip hp).1
      simpa using this)
    have h3 : (ps.zip (val x)).foldl (fun t (p, v) => t.setIfInBounds p v) a.tmps = (ps.toList.zip (val x).toList).foldl (fun t p => t.setIfInBounds p.1 p.2) a.tmps := by
      rw [← Array.foldl_toList, Array.toList_zip]
    rw [h3]; exact h2
  refine WTa.ofx (wpIn_iter (N := N) (E := E) (ds := ds) (t := t) (a := a) (by rw [ra.eval, hr]) he hps T0 G0 I Ix hI hI2 hIx hIx2 h0 hgen ?_ ?_ ?_)
  · intro l T G pre x W rdy busy hi hp hq hg hl
    refine wpIn_mono (WTa.code (hround l T G pre x W rdy busy hi hp hq hg hl _ (hpr x))) ?_
    rintro e a1 W1 ⟨rfl, E1, r1, h1, h2⟩
    exact ⟨h1, fun W2 hW => WTa.code (h2 W2 hW _ r1)⟩
  · intro D T G xs W hD hT hG hR hi hd
    exact hdone D T G xs W hD hT hG hR hi hd _ ⟨ra.size, ra.get, by rw [ra.defers]⟩
  · intro D T G c xs W hD hT hG hi hd
    have hj := hstop D T G c xs W hD hT hG hi hd
    have ra2 : Rep N E ({ target := .collected D, args := #[] } :: ds) { a with defers := { target := .collected D, args := #[] } :: a.defers } := ⟨ra.size, ra.get, by rw [ra.defers]⟩
    cases c with
    | none => exact WTa.code (WTa.ret (hj _ ra2))
    | some id =>
      refine WTa.code (WTa.leave rfl ?_)
      unfold JumpTo at hj
      cases hq : exitTo id t with
      | none => simp only [hq] at hj ⊢; exact hj _ ra2
      | some k' => simp only [hq] at hj ⊢; exact hj _ ra2

/-! ### The two sides, each with its things -/
def OwnB (L : Hold) : BS := fun k => ∃ i, (L i).blk = some k
/-- The loop's side: G is away. -/
structure Two (w0 : World) (S O G : BS) (W : World) (L : Hold) : Prop where
  pure : Keeps S w0 W
  lt : ∀ k, O k → k < w0.heap.size ∧ ¬ S k
  g : ∀ k, G k → k < W.heap.size ∧ (w0.heap.size ≤ k ∨ S k) ∧ ∀ i, (L i).blk ≠ some k
  ok : ∀ i, (L i).ok 0 (Bl (fun k => O k ∨ G k) L) W
  bd : ∀ i k, (L i).blk = some k → w0.heap.size ≤ k ∨ S k
  nd : ∀ i j k, (L i).blk = some k → (L j).blk = some k → i = j
section
variable {w0 w w' W W' : World} {S O G G' T : BS} {L L' : Hold}
theorem rl_blk {js : List Nat} {i k : Nat} (h : (rl (js.map L) i).blk = some k) : ∃ j, js[i]? = some j ∧ (L j).blk = some k := by
  rw [rl_map] at h
  cases hq : js[i]? with
  | none => rw [hq] at h; cases h
  | some j => rw [hq] at h; exact ⟨j, rfl, h⟩
/-- Some things go to the generator, others stay. -/
theorem Sep.give (h : Sep w0 S O w L) (js gs : List Nat) (hj : js.Nodup) (hg : gs.Nodup) (hf : allJ (fun j => (j ∉ js) ∨ (L j).blk = none) gs) :
    Two w0 S O (OwnB (rl (gs.map L))) w (rl (js.map L)) ∧ Sep w (OwnB (rl (gs.map L))) (Bl O (rl (js.map L))) w (rl (gs.map L)) := by
  have hdis : ∀ a b k, (rl (js.map L) a).blk = some k → (rl (gs.map L) b).blk = some k → False := fun a b k ha hb => by
    obtain ⟨j1, e1, b1⟩ := rl_blk ha
    obtain ⟨j2, e2, b2⟩ := rl_blk hb
    have := h.nd j1 j2 k b1 b2
    subst this
    rcases hf.out j1 (List.mem_of_getElem? e2) with q | q
    · exact q (List.mem_of_getElem? e1)
    · rw [q] at b1; cases b1
  have hO : ∀ k, (OwnB L) k → ¬ O k := fun k ⟨i, hi⟩ hk => by
    have := h.lt k hk
    rcases h.bd i k hi with q | q
    · omega
    · exact this.2 q
  have hsz : ∀ i k, (L i).blk = some k → k < w.heap.size := fun i k hk => ((h.ok i).lt hk).2
  have ndl : ∀ (l : List Nat), l.Nodup → ∀ a b k, (rl (l.map L) a).blk = some k → (rl (l.map L) b).blk = some k → a = b := fun l hl a b k ha hb => by
    obtain ⟨j1, e1, b1⟩ := rl_blk ha
    obtain ⟨j2, e2, b2⟩ := rl_blk hb
    have := h.nd j1 j2 k b1 b2
    subst this
    obtain ⟨l1, q1⟩ := List.getElem?_eq_some_iff.1 e1
    obtain ⟨l2, q2⟩ := List.getElem?_eq_some_iff.1 e2
    exact (List.getElem_inj hl).1 (q1.trans q2.symm)
  have okl : ∀ (l : List Nat) (O' : BS), (∀ k, O' k → Bl O L k) → ∀ i, (rl (l.map L) i).ok 0 O' w := fun l O' ho i => by
    rw [rl_map]
    cases hq : l[i]? with
    | none => trivial
    | some j => exact (h.ok j).sub fun k _ hk => ho k hk
  have inl : ∀ (l : List Nat) k, OwnB (rl (l.map L)) k → OwnB L k := fun l k ⟨i, hi⟩ => by
    obtain ⟨j, _, hb⟩ := rl_blk hi
    exact ⟨j, hb⟩
  refine ⟨⟨h.pure, h.lt, fun k hk => ?_, ?_, fun i k hk => ?_, ndl js hj⟩, ⟨Keeps.refl _ _, fun k hk => ?_, ?_, fun i k hk => .inr ⟨i, hk⟩, ndl gs hg⟩⟩
  · obtain ⟨j, hb⟩ := inl gs k hk
    obtain ⟨i, hi⟩ := hk
    exact ⟨hsz j k hb, h.bd j k hb, fun a ha => hdis a i k ha hi⟩
  · refine okl js _ fun k hk => ?_
    rcases hk with (q | q) | q
    · exact .inl q
    · exact .inr (inl gs k q)
    · exact .inr (inl js k q)
  · obtain ⟨j, _, hb⟩ := rl_blk hk
    exact h.bd j k hb
  · rcases hk with q | ⟨i, q⟩
    · exact ⟨Nat.lt_of_lt_of_le (h.lt k q).1 h.pure.size, fun hg => hO k (inl gs k hg) q⟩
    · obtain ⟨j, _, hb⟩ := rl_blk q
      exact ⟨hsz j k hb, fun ⟨b, hb2⟩ => hdis i b k q hb2⟩
  · refine okl gs _ fun k hk => ?_
    rcases hk with (q | q) | q
    · exact .inl q
    · exact .inr (inl js k q)
    · exact .inr (inl gs k q)
theorem Two.gen (h : Two w0 S O G W L) (hK : Keeps G W W') (hG : ∀ k, G' k → G k ∨ W.heap.size ≤ k) (hl : ∀ k, G' k → k < W'.heap.size) : Two w0 S O G' W' L := by
  have hlt : ∀ i k, (L i).blk = some k → k < W.heap.size := fun i k hk => ((h.ok i).lt hk).2
  refine ⟨h.pure.then hK (fun k hk q => (h.g k q).2.1.elim (fun r => by omega) id), h.lt, fun k hk => ⟨hl k hk, ?_, fun i hi => ?_⟩, fun i => ?_, h.bd, h.nd⟩
  · rcases hG k hk with q | q
    · exact (h.g k q).2.1
    · exact .inl (Nat.le_trans h.pure.size q)
  · rcases hG k hk with q | q
    · exact (h.g k q).2.2 i hi
    · have := hlt i k hi; omega
  · refine (h.ok i).keep hK (fun k hk hg => (h.g k hg).2.2 i hk) (fun k _ hg => .inl (.inr hg)) fun k hk hO => ?_
    rcases hO with (q | q) | q
    · exact .inl (.inl q)
    · rcases hG k q with r | r
      · exact .inl (.inr r)
      · omega
    · exact .inr q
theorem Two.round (h : Two w0 S O G W L) : Sep W (OwnB L) (fun k => O k ∨ G k) W L := by
  refine ⟨Keeps.refl _ _, fun k hk => ?_, h.ok, fun i k hk => .inr ⟨i, hk⟩, h.nd⟩
  rcases hk with q | q
  · refine ⟨Nat.lt_of_lt_of_le (h.lt k q).1 h.pure.size, fun ⟨i, hi⟩ => ?_⟩
    rcases h.bd i k hi with r | r
    · have := (h.lt k q).1; omega
    · exact (h.lt k q).2 r
  · exact ⟨(h.g k q).1, fun ⟨i, hi⟩ => (h.g k q).2.2 i hi⟩
theorem Two.back (h : Two w0 S O G W L) (hS : Sep W (OwnB L) (fun k => O k ∨ G k) W' L') : Two w0 S O G W' L' ∧ RK (Bl O L) W (Bl O L') W' := by
  have hbd : ∀ i k, (L' i).blk = some k → OwnB L k ∨ W.heap.size ≤ k := fun i k hk => (hS.bd i k hk).symm
  refine ⟨⟨h.pure.then hS.pure (fun k hk ⟨i, hi⟩ => (h.bd i k hi).elim (fun r => by omega) id), h.lt, fun k hk => ⟨Nat.lt_of_lt_of_le (h.g k hk).1 hS.pure.size, (h.g k hk).2.1, fun i hi => ?_⟩, hS.ok, fun i k hk => ?_, hS.nd⟩, ⟨hS.pure.mono fun k _ q => .inr q, fun k hk => ?_, fun k hk => ?_⟩⟩
  · rcases hbd i k hi with ⟨j, q⟩ | q
    · exact (h.g k hk).2.2 j q
    · have := (h.g k hk).1; omega
  · rcases hbd i k hk with ⟨j, q⟩ | q
    · exact h.bd j k q
    · exact .inl (Nat.le_trans h.pure.size q)
  · rcases hk with q | ⟨i, q⟩
    · exact .inl (.inl q)
    · rcases hbd i k q with r | r
      · exact .inl (.inr r)
      · exact .inr r
  · rcases hk with q | ⟨i, q⟩
    · exact Nat.lt_of_lt_of_le (h.lt k q).1 (Nat.le_trans h.pure.size hS.pure.size)
    · exact ((hS.ok i).lt q).2
theorem Two.fin (h : Two w0 S O G W L) : Sep w0 S O W L := by
  refine ⟨h.pure, h.lt, fun i => (h.ok i).sub fun k _ hk => ?_, h.bd, h.nd⟩
  rcases hk with q | q
  · exact .inl (.inl q)
  · exact .inr q
end

/-- The loop's state: its things read as V says. -/
def IV {α : Type} (w0 : World) (S O : BS) (V : List α → List Res → Prop) : BS → BS → List α → World → Prop := fun T G pre W => ∃ LL, T = Bl O (rl LL) ∧ Two w0 S O G W (rl LL) ∧ V pre LL
theorem IV.gen {α : Type} (w0 : World) (S O : BS) (V : List α → List Res → Prop) : GenOk (IV w0 S O V) := by
  rintro T G G' pre W W' ⟨L, rfl, h, hV⟩ hK hG hl
  exact ⟨L, rfl, h.gen hK hG hl, hV⟩
theorem IV.two {α : Type} (w0 : World) (S O : BS) (V : List α → List Res → Prop) : TwoOk (IV w0 S O V) := by
  rintro T G pre W ⟨L, rfl, h, hV⟩
  refine ⟨fun k hk => ?_, fun k hk => (h.g k hk).1⟩
  rcases hk with q | ⟨i, q⟩
  · refine ⟨fun hg => ?_, Nat.lt_of_lt_of_le (h.lt k q).1 h.pure.size⟩
    rcases (h.g k hg).2.1 with r | r
    · have := (h.lt k q).1; omega
    · exact (h.lt k q).2 r
  · exact ⟨fun hg => (h.g k hg).2.2 i q, ((h.ok i).lt q).2⟩
def dfr (D : Nat) : Res := .obj D (.deferred (some []))
theorem rl_snoc : ∀ (LL : List Res) (r : Res), rl (LL ++ [r]) = stl (rl LL) LL.length r
  | [], r => by funext i; cases i <;> rfl
  | x :: t, r => by
    funext i
    cases i with
    | zero => rfl
    | succ i =>
      show rl (t ++ [r]) i = _
      rw [rl_snoc t r]
      by_cases e : i = t.length
      · subst e; rw [stl_same, List.length_cons, stl_same]
      · rw [stl_other _ _ e, List.length_cons, stl_other _ _ (by omega)]; rfl
theorem rl_end_gone : ∀ (LL : List Res), rl LL LL.length = .gone
  | [] => rfl
  | _ :: t => rl_end_gone t
/-- A block of the other side joins the things. -/
theorem Two.take {w0 W : World} {S O G : BS} {L : Hold} (h : Two w0 S O G W L) {D i : Nat} {o : Obj} (hi : L i = .gone) (hD : G D) (hd : W.heap[D]? = some o) :
    (∀ j, (stl L i (.obj D o) j).ok 0 (Bl (fun k => O k ∨ G k) L) W) ∧ (∀ k, Bl (fun k => O k ∨ (G k ∧ k ≠ D)) (stl L i (.obj D o)) k → Bl (fun k => O k ∨ G k) L k) ∧ (∀ a b k, (stl L i (.obj D o) a).blk = some k → (stl L i (.obj D o) b).blk = some k → a = b) ∧ ∀ j k, (stl L i (.obj D o) j).blk = some k → OwnB L k ∨ k = D := by
  refine ⟨fun j => ?_, ?_, fun a b k ha hb' => ?_, fun j k hk => ?_⟩
  · by_cases e : j = i
    · subst e; rw [stl_same]; exact ⟨Nat.zero_le _, hd⟩
    · rw [stl_other _ _ e]; exact h.ok j
  · rintro k ((q | q) | ⟨j, q⟩)
    · exact .inl (.inl q)
    · exact .inl (.inr q.1)
    · by_cases e : j = i
      · subst e; rw [stl_same] at q; cases q; exact .inl (.inr hD)
      · rw [stl_other _ _ e] at q; exact .inr ⟨j, q⟩
  · have key : ∀ a b, a ≠ i → b = i → (stl L i (.obj D o) a).blk = some k → (stl L i (.obj D o) b).blk = some k → False := fun a b h1 h2 ha hb' => by
      subst h2
      rw [stl_other _ _ h1] at ha
      rw [stl_same] at hb'
      cases hb'
      exact (h.g D hD).2.2 a ha
    by_cases e1 : a = i
    · by_cases e2 : b = i
      · omega
      · exact (key b a e2 e1 hb' ha).elim
    · by_cases e2 : b = i
      · exact (key a b e1 e2 ha hb').elim
      · rw [stl_other _ _ e1] at ha; rw [stl_other _ _ e2] at hb'; exact h.nd _ _ k ha hb'
  · by_cases e : j = i
    · subst e; rw [stl_same] at hk; cases hk; exact .inr rfl
    · rw [stl_other _ _ e] at hk; exact .inl ⟨j, hk⟩
/-- The mark joins the things. -/
theorem Two.mark {w0 W : World} {S O G : BS} {LL : List Res} (h : Two w0 S O G W (rl LL)) {D : Nat} (hD : G D) (hd : W.heap[D]? = some (.deferred (some []))) : Sep w0 S O W (rl (LL ++ [dfr D])) := by
  obtain ⟨h1, h2, h3, h4⟩ := h.take (rl_end_gone LL) hD hd
  rw [rl_snoc]
  refine ⟨h.pure, h.lt, fun j => (h1 j).sub fun k _ hk => h2 k (hk.elim (fun q => .inl (.inl q)) .inr), fun j k hk => ?_, h3⟩
  rcases h4 j k hk with ⟨i, q⟩ | q
  · exact h.bd i k q
  · rw [q]; exact (h.g D hD).2.1
theorem Two.open_ {w0 W : World} {S O G : BS} {LL : List Res} (h : Two w0 S O G W (rl LL)) {l : Nat} {o : Obj} (hG : G l) (hl : W.heap[l]? = some o) : Sep W (fun k => OwnB (rl LL) k ∨ k = l) (fun k => O k ∨ (G k ∧ k ≠ l)) W (rl (LL ++ [.obj l o])) := by
  obtain ⟨h1, h2, h3, h4⟩ := h.take (rl_end_gone LL) hG hl
  rw [rl_snoc]
  have hr := h.round
  refine ⟨Keeps.refl _ _, fun k hk => ?_, fun j => (h1 j).sub fun k _ hk => h2 k hk, fun j k hk => .inr (h4 j k hk), h3⟩
  rcases hk with q | q
  · have := hr.lt k (.inl q)
    refine ⟨this.1, fun h5 => h5.elim this.2 fun e => ?_⟩
    subst e
    rcases (h.g k hG).2.1 with r | r
    · have := (h.lt k q).1; omega
    · exact (h.lt k q).2 r
  · have := hr.lt k (.inr q.1)
    exact ⟨this.1, fun h5 => h5.elim this.2 q.2⟩
theorem Sep.flip {w0 w w' : World} {S O : BS} {L : Hold} (h : Sep w0 S O w L) (i : Nat) {l : Nat} {o : Obj} (hi : L i = .obj l o) (o' : Obj) (hw : w' = w.putObj l o') : Sep w0 S O w' (stl L i (.obj l o')) := by
  have hl : w.heap[l]? = some o := by have := h.ok i; rw [hi] at this; exact this.2
  subst hw
  exact h.upd i _ (T := fun k => k = l) (putObj_keeps _ _ _) (fun k _ e => by rw [hi, e]; rfl) (fun k hk => by cases hk; rw [hi]; exact .inl rfl) ⟨Nat.zero_le _, World.putObj_heap_same (Array.getElem?_eq_some_iff.1 hl).1⟩
theorem Two.close {w0 W W' : World} {S O G : BS} {LL LL' : List Res} (h : Two w0 S O G W (rl LL)) {l : Nat} {busy : Obj} (hG : G l)
    (hS : Sep W (fun k => OwnB (rl LL) k ∨ k = l) (fun k => O k ∨ (G k ∧ k ≠ l)) W' (rl (LL' ++ [.obj l busy]))) : Two w0 S O G W' (rl LL') ∧ RL1 l busy (Bl O (rl LL)) W (Bl O (rl LL')) W' := by
  rw [rl_snoc] at hS
  have ho : ∀ i, i ≠ LL'.length → stl (rl LL') LL'.length (.obj l busy) i = rl LL' i := fun i hi => stl_other _ _ hi
  have hne : ∀ i k, (rl LL' i).blk = some k → i ≠ LL'.length := fun i k hk e => by rw [e, rl_end_gone] at hk; cases hk
  have hbl : ∀ k, Bl (fun k => O k ∨ G k) (rl LL') k → Bl (fun k => O k ∨ (G k ∧ k ≠ l)) (stl (rl LL') LL'.length (.obj l busy)) k := by
    rintro k ((q | q) | ⟨j, q⟩)
    · exact .inl (.inl q)
    · by_cases e : k = l
      · exact .inr ⟨LL'.length, by rw [stl_same, e]; rfl⟩
      · exact .inl (.inr ⟨q, e⟩)
    · exact .inr ⟨j, by rw [ho j (hne j k q)]; exact q⟩
  have hnl : ∀ i k, (rl LL' i).blk = some k → k ≠ l := fun i k hk e => by
    subst e
    have := hS.nd i LL'.length k (by rw [ho i (hne i k hk)]; exact hk) (by rw [stl_same]; rfl)
    exact hne i k hk this
  have hbd : ∀ i k, (rl LL' i).blk = some k → OwnB (rl LL) k ∨ W.heap.size ≤ k := fun i k hk => by
    rcases hS.bd i k (by rw [ho i (hne i k hk)]; exact hk) with q | q | q
    · exact .inr q
    · exact .inl q
    · exact absurd q (hnl i k hk)
  have hok : ∀ i, (rl LL' i).ok 0 (Bl (fun k => O k ∨ G k) (rl LL')) W' := fun i => by
    by_cases e : i = LL'.length
    · rw [e, rl_end_gone]; trivial
    · have := hS.ok i
      rw [ho i e] at this
      exact this.sub fun k _ hk => hbl k hk
  have hat : W'.heap[l]? = some busy := by have := hS.ok LL'.length; rw [stl_same] at this; exact this.2
  refine ⟨⟨h.pure.then hS.pure (fun k hk q => ?_), h.lt, fun k hk => ⟨Nat.lt_of_lt_of_le (h.g k hk).1 hS.pure.size, (h.g k hk).2.1, fun i hi => ?_⟩, hok, fun i k hk => ?_, fun i j k hi hj => hS.nd i j k (by rw [ho i (hne i k hi)]; exact hi) (by rw [ho j (hne j k hj)]; exact hj)⟩, ⟨hS.pure.mono fun k _ q => q.elim (fun q => .inl (.inr q)) .inr, fun k hk => ?_, fun k hk => ?_, hat⟩⟩
  · rcases q with ⟨i, q⟩ | q
    · exact (h.bd i k q).elim (fun r => by omega) id
    · rw [q] at hk ⊢; exact (h.g l hG).2.1.elim (fun r => by omega) id
  · rcases hbd i k hi with ⟨j, q⟩ | q
    · exact (h.g k hk).2.2 j q
    · have := (h.g k hk).1; omega
  · rcases hbd i k hk with ⟨j, q⟩ | q
    · exact h.bd j k q
    · exact .inl (Nat.le_trans h.pure.size q)
  · rcases hk with q | ⟨i, q⟩
    · exact .inl (.inl q)
    · rcases hbd i k q with r | r
      · exact .inl (.inr r)
      · exact .inr r
  · rcases hk with q | ⟨i, q⟩
    · exact Nat.lt_of_lt_of_le (h.lt k q).1 (Nat.le_trans h.pure.size hS.pure.size)
    · exact ((hok i).lt q).2
def rndS {α : Type} (l : Nat) (busy : Obj) (W : World) (S O : BS) (V : List α → List Res → Prop) (Vx : Option Nat → List α → List Res → Prop) (xs : List α) : Exit → Act → World → Prop
  | .normal, _, W' => ∃ LL, V xs LL ∧ Sep W S O W' (rl (LL ++ [.obj l busy]))
  | .ret, _, W' => ∃ LL, Vx none xs LL ∧ Sep W S O W' (rl (LL ++ [.obj l busy]))
  | .exit id, _, W' => ∃ LL, Vx (some id) xs LL ∧ Sep W S O W' (rl (LL ++ [.obj l busy]))
  | _, _, _ => False

/-- The loop over an iterator, with its things. -/
theorem wt_iterS {P : Program} {N : Nat} {Q : Exit → Act → World → Prop} {E : Env} {ds : List Deferred} {w0 w : World} {S O : BS} {L : Hold} {t : List Item} {fo : Operand} {ps : Array Tmp} {assign body : Code} {gf : FuncId} {lb : Array Value}
    (hS : Sep w0 S O w L) (js gs : List Nat) (hj : js.Nodup) (hg : gs.Nodup) (hf : allJ (fun j => (j ∉ js) ∨ (L j).blk = none) gs)
    (hr : evE E fo = .func (.func gf) #[] lb) (he : Enters P gf) {α : Type} {val : α → Array Value} {pass : α → FP} {Pr R : List α → Prop} (hps : ∀ x, (val x).size = ps.size) (hpN : ps.toList.all (fun p => Nat.blt p N) = true)
    (V : List α → List Res → Prop) (Vx : Option Nat → List α → List Res → Prop) (h0 : V [] (js.map L))
    (hgen : ∀ T G, Sep w G T w (rl (gs.map L)) → GenSays P gf lb val pass Pr R T G w)
    (hround : ∀ (l : Nat) (rdy busy : Obj) (S1 O1 : BS) (pre : List α) (x : α) (W : World) (LL : List Res), V pre LL → Pr (pre ++ [x]) → (pass x).P (Bl O1 (rl (LL ++ [.obj l rdy]))) W → Sep W S1 O1 W (rl (LL ++ [.obj l rdy])) →
      WT (Fence.wide.inRound l) 1 P N [.code assign] (fun e a1 W1 => e = .normal ∧ ∃ E1 L1, Rep N E1 [] a1 ∧ Sep W S1 O1 W1 L1 ∧ (∃ i, L1 i = .obj l rdy) ∧ ∀ W2, W2 = W1.putObj l busy → WT (Fence.wide.inRound l) 1 P N [.code body] (rndS l busy W S1 O1 V Vx (pre ++ [x])) E1 [] W2) (setE E (ps.toList.zip (val x).toList)) [] W)
    (hdone : ∀ (D : Nat) (xs : List α) (W : World) (LL : List Res), R xs → V xs LL → Sep w0 S O W (rl (LL ++ [dfr D])) → WT Fence.wide 3 P N t Q E (mark D :: ds) W)
    (hstop : ∀ (D : Nat) (c : Option Nat) (xs : List α) (W : World) (LL : List Res), Vx c xs LL → Sep w0 S O W (rl (LL ++ [dfr D])) → JumpTo P N t Q E (mark D :: ds) W c) :
    WT Fence.wide 3 P N (.code (.rangeFunc fo ps assign body) :: t) Q E ds w := by
  obtain ⟨hT, hG⟩ := hS.give js gs hj hg hf
  refine wt_iter hr he hps hpN (Bl O (rl (js.map L))) (OwnB (rl (gs.map L))) (IV w0 S O V) (fun c => IV w0 S O (Vx c)) (IV.gen _ _ _ _) (IV.two _ _ _ _) (fun c => IV.gen _ _ _ _) (fun c => IV.two _ _ _ _) ⟨_, rfl, hT, h0⟩ (hgen _ _ hG) ?_ ?_ ?_
  · rintro l T G pre x W rdy busy ⟨LL, rfl, h, hV⟩ hPr hp hGl hl
    have hb := hround l rdy busy (fun k => OwnB (rl LL) k ∨ k = l) (fun k => O k ∨ (G k ∧ k ≠ l)) pre x W LL hV hPr ((pass x).sub hp fun k _ hk => by
      rw [rl_snoc] at hk
      rcases (h.take (rl_end_gone LL) hGl hl).2.1 k hk with (q | q) | q
      · exact .inl (.inl q)
      · exact .inr q
      · exact .inl (.inr q)) (h.open_ hGl hl)
    intro a ra b k cs h1 h2 h3
    obtain ⟨e, a', w', ⟨rfl, E1, L1, r1, s1, ⟨i, hi⟩, hq⟩, harr⟩ := hb a ra b k cs h1 h2 h3
    refine ⟨.normal, a', w', ⟨rfl, E1, r1, by have := s1.ok i; rw [hi] at this; exact this.2, fun W2 hW2 => ?_⟩, harr⟩
    intro a2 ra2 b2 k2 cs2 g1 g2 g3
    obtain ⟨e, a3, w3, hq, harr3⟩ := hq W2 hW2 a2 ra2 b2 k2 cs2 g1 g2 g3
    refine ⟨e, a3, w3, ?_, harr3⟩
    cases e with
    | normal => obtain ⟨L2, v2, s2⟩ := hq; obtain ⟨t2, r2⟩ := h.close hGl s2; exact ⟨_, r2, L2, rfl, t2, v2⟩
    | ret => obtain ⟨L2, v2, s2⟩ := hq; obtain ⟨t2, r2⟩ := h.close hGl s2; exact ⟨_, r2, L2, rfl, t2, v2⟩
    | exit id => obtain ⟨L2, v2, s2⟩ := hq; obtain ⟨t2, r2⟩ := h.close hGl s2; exact ⟨_, r2, L2, rfl, t2, v2⟩
    | goto t => exact hq.elim
    | panic ch => exact hq.elim
    | outgrown => exact hq.elim
  · rintro D T G xs W hD hTD hGD hR ⟨L', rfl, h, hV⟩ hd
    exact hdone D xs W L' hR hV (h.mark hGD hd)
  · rintro D T G c xs W hD hTD hGD ⟨L', rfl, h, hV⟩ hd
    exact hstop D c xs W L' hV (h.mark hGD hd)

/-! ### The generator's side -/
section
variable {P : Program} {l : Nat} {α : Type} {val : α → Array Value} {pass : α → FP} {Pr : List α → Prop} {J Jx K : BS → BS → List α → World → Prop}
/-- What another side changed. -/
theorem Sep.yielded {wb w W' : World} {G T T' : BS} {L : Hold} (h : Sep wb G T w L) (hr : RK T w T' W') : Sep W' (OwnB L) T' W' L := by
  have hlt : ∀ i k, (L i).blk = some k → k < w.heap.size := fun i k hk => ((h.ok i).lt hk).2
  have hnT : ∀ i k, (L i).blk = some k → ¬ T k := fun i k hk hT => by
    rcases h.bd i k hk with r | r
    · have := (h.lt k hT).1; omega
    · exact (h.lt k hT).2 r
  refine ⟨Keeps.refl _ _, fun k hk => ⟨hr.lt k hk, fun ⟨i, hi⟩ => ?_⟩, fun i => ?_, fun i k hk => .inr ⟨i, hk⟩, h.nd⟩
  · rcases hr.sub k hk with q | q
    · exact hnT i k hi q
    · have := hlt i k hi; omega
  · refine (h.ok i).keep hr.keeps (fun k hk => hnT i k hk) (fun k _ hk => .inl hk) fun k hk hO => ?_
    rcases hO with q | q
    · rcases hr.sub k q with r | r
      · exact .inl r
      · omega
    · exact .inr q
/-- A call of yield. -/
theorem gen_yield (hs : Sess P l val pass Pr J Jx) {T G : BS} {pre : List α} {x : α} {wb w : World} {L : Hold} (hJ : J T G pre wb) (hS : Sep wb G T w L) (hPr : Pr (pre ++ [x])) (hp : (pass x).P (Bl T L) w)
    {Rr : Ending → World → Prop} (h1 : ∀ T' W', J T' (OwnB L) (pre ++ [x]) W' → Sep W' (OwnB L) T' W' L → Rr (.returned (.bool true)) W') (h2 : ∀ T' W', Jx T' (OwnB L) (pre ++ [x]) W' → Sep W' (OwnB L) T' W' L → Rr (.returned (.bool false)) W') :
    YieldAt Fence.wide 1 P l (val x) w Rr := by
  have hJ2 : J T (OwnB L) pre w := hs.gen hJ hS.pure (fun k ⟨i, hi⟩ => (hS.bd i k hi).elim (fun q => .inr (by have := hS.pure.size; omega)) .inl) (fun k ⟨i, hi⟩ => ((hS.ok i).lt hi).2)
  obtain ⟨fn, tmps, assign, body, hy, hR⟩ := hs.yld hJ2 hPr hp
  refine ⟨fn, tmps, assign, body, hy, hR.mono ?_⟩
  rintro e W' ⟨T', hr, (⟨rfl, hj⟩ | ⟨rfl, hj⟩)⟩
  · exact h1 T' W' hj (hS.yielded hr)
  · exact h2 T' W' hj (hS.yielded hr)
/-- The generator's end. -/
theorem gen_end (hs : Sess P l val pass Pr J Jx) {T G : BS} {pre : List α} {wb w : World} {L : Hold} {R : List α → Prop} (hJ : J T G pre wb) (hS : Sep wb G T w L) (hR : R pre) :
    (∃ xs T G, R xs ∧ J T G xs w) ∨ ∃ pre T G, Jx T G pre w :=
  .inl ⟨pre, T, OwnB L, hR, hs.gen hJ hS.pure (fun k ⟨i, hi⟩ => (hS.bd i k hi).elim (fun q => .inr (by have := hS.pure.size; omega)) .inl) (fun k ⟨i, hi⟩ => ((hS.ok i).lt hi).2)⟩
theorem gen_endx (hs : Sess P l val pass Pr J Jx) {T G : BS} {pre : List α} {wb w : World} {L : Hold} {R : List α → Prop} (hJ : Jx T G pre wb) (hS : Sep wb G T w L) :
    (∃ xs T G, R xs ∧ J T G xs w) ∨ ∃ pre T G, Jx T G pre w :=
  .inr ⟨pre, T, OwnB L, hs.genx hJ hS.pure (fun k ⟨i, hi⟩ => (hS.bd i k hi).elim (fun q => .inr (by have := hS.pure.size; omega)) .inl) (fun k ⟨i, hi⟩ => ((hS.ok i).lt hi).2)⟩
end

theorem gen_start {P : Program} {l : Nat} {α : Type} {val : α → Array Value} {pass : α → FP} {Pr : List α → Prop} {J Jx : BS → BS → List α → World → Prop} {T T1 G : BS} {w w1 : World} {L : Hold}
    (h : Sep w G T w L) (hs : Sess P l val pass Pr J Jx) (hJ : J T1 G [] w1) (hp : Pure w w1) (hT : ∀ k, T1 k → T k ∨ w.heap.size ≤ k) : ∃ G1, J T1 G1 [] w1 ∧ Sep w1 G1 T1 w1 L := by
  have hS := h.yielded (T' := T1) ⟨hp.mono fun k _ q => q.elim, hT, fun k hk => ((hs.two hJ).1 k hk).2⟩
  refine ⟨OwnB L, hs.gen hJ (Keeps.refl _ _) (fun k ⟨i, hi⟩ => ?_) (fun k ⟨i, hi⟩ => ((hS.ok i).lt hi).2), hS⟩
  rcases h.bd i k hi with q | q
  · have := ((h.ok i).lt hi).2; omega
  · exact .inl q
theorem callsIn_gen {P : Program} {f : FuncId} {fn : Func} {c : Code} {args : Array Value} {l : List Value} {w : World} {R : Ending → World → Prop} {N : Nat} (hf : P.funcs[f]? = some fn) (hb : fn.body = some c) (hN : fn.ntmps = N) (hl : l.length ≤ N) (ha : args = l.toArray)
    (h : WT Fence.wide 2 P N [.code c] (bodyPost P fn R) (lenv l) [] w) : CallsIn Fence.wide 2 P f args w R := by
  subst ha
  refine callsIn_of_wp hf hb trivial (WTa.code (h _ ⟨?_, lenv_eq l _, rfl⟩)) rfl
  simp
  omega
/-- No fact. -/
def FP.tt : FP := ⟨fun _ _ => True, fun h _ => h, fun h _ => h⟩

/-! ### The end of a function that has marks -/
theorem leaves_marks2 {F : Fence} {n : Nat} {P : Program} {fn : Func} {tmps : Array Value} {R : Ending → World → Prop} : ∀ (rs : List Nat) (W : World), rs.Nodup → (∀ r ∈ rs, W.heap[r]? = some (Obj.deferred (some []))) →
    (∀ W' : World, Keeps (fun k => k ∈ rs) W W' → LeavesIn F n P fn tmps R [] .returning W') → LeavesInM F n P fn tmps R (rs.map mark) .returning W := by
  intro rs
  induction rs with
  | nil => intro W _ _ h; exact h W (Keeps.refl _ _)
  | cons r rs ih =>
    intro W hn hd h
    have hr := hd r (by simp)
    have hnr := List.nodup_cons.1 hn
    refine ⟨by simp, .inl ⟨r, _, rfl, run_takeDeferred hr, ?_⟩⟩
    refine ih (W.putObj r (.deferred none)) hnr.2 (fun q hq => ?_) fun W' hK => ?_
    · rw [World.putObj_heap_other (by rintro rfl; exact hnr.1 hq)]; exact hd q (by simp [hq])
    · exact h W' (((putObj_keeps W r _).mono fun k _ e => by subst e; simp).trans (hK.mono fun k _ e => by simp [e]))
/-- The marks are gone, some of the things are left. -/
theorem Sep.unmark {w0 w w' : World} {S O : BS} {L : Hold} (h : Sep w0 S O w L) {rs : List Nat} (is js : List Nat) (hj : js.Nodup) (hd : ∀ i ∈ is, i ∉ js) (hm : ∀ r ∈ rs, ∃ i ∈ is, (L i).blk = some r) (hK : Keeps (fun k => k ∈ rs) w w') : Sep w0 S O w' (rl (js.map L)) := by
  have h2 := h.step (w' := w') (L' := fun j => if j ∈ is then .gone else L j) (T := fun k => k ∈ rs) hK (fun k _ hk => by obtain ⟨i, _, hi⟩ := hm k hk; exact ⟨i, hi⟩)
    (fun j k hk => by
      by_cases e : j ∈ is
      · simp only [if_pos e] at hk; cases hk
      · simp only [if_neg e] at hk; exact .inl ⟨j, hk⟩)
    (fun j => by
      by_cases e : j ∈ is
      · simp only [if_pos e]; exact .inr trivial
      · refine .inl ⟨j, by simp only [if_neg e], fun k hk hr => ?_⟩
        obtain ⟨i, hi, hb⟩ := hm k hr
        have := h.nd i j k hb hk
        subst this
        exact e hi)
    (fun a b k ha hb => by
      by_cases e1 : a ∈ is
      · simp only [if_pos e1] at ha; cases ha
      · by_cases e2 : b ∈ is
        · simp only [if_pos e2] at hb; cases hb
        · simp only [if_neg e1] at ha; simp only [if_neg e2] at hb; exact h.nd a b k ha hb)
  have h3 := h2.sel js hj
  have e : js.map (fun j => if j ∈ is then Res.gone else L j) = js.map L := List.map_congr_left fun j hjj => by
    rw [if_neg fun q => hd j q hjj]
  rw [e] at h3
  exact h3
section
variable {P : Program} {fn : Func} {N : Nat} {t : List Item} {R : Ending → World → Prop} {E : Env} {w : World} {rs : List Nat} {a : Act}
theorem wt_retn (hn : rs.Nodup) (hd : ∀ r ∈ rs, w.heap[r]? = some (Obj.deferred (some []))) (h : ∀ a, Rep N E (rs.map mark) a → ∀ W', Keeps (fun k => k ∈ rs) w W' → LeavesIn Fence.wide 3 P fn a.tmps R [] .returning W') : WT Fence.wide 3 P N (.code .ret :: t) (bodyPostM Fence.wide 3 P fn R) E (rs.map mark) w :=
  wt_ret fun a r => by
    have hd' := r.defers
    show LeavesInM _ _ _ _ _ _ a.defers _ _
    rw [hd']
    exact leaves_marks2 rs w hn hd fun W' hk => h a r W' hk
theorem wt_retk1 {t1 : Tmp} {v1 : Value} (hn : rs.Nodup) (hd : ∀ r ∈ rs, w.heap[r]? = some (Obj.deferred (some []))) (hr : fn.results = #[.tmp t1]) (h1 : E t1 = v1) (h : ∀ w', Keeps (fun k => k ∈ rs) w w' → R (.returned v1) w') : WT Fence.wide 3 P N (.code .ret :: t) (bodyPostM Fence.wide 3 P fn R) E (rs.map mark) w :=
  wt_retn hn hd fun a r W' hk => ⟨_, results_tmp hr _ _ _, by rw [r.get, h1]; exact h W' hk⟩
theorem wt_retk2 {t1 t2 : Tmp} {v1 v2 : Value} (hn : rs.Nodup) (hd : ∀ r ∈ rs, w.heap[r]? = some (Obj.deferred (some []))) (hr : fn.results = #[.tmp t1, .tmp t2]) (h1 : E t1 = v1) (h2 : E t2 = v2) (h : ∀ w', Keeps (fun k => k ∈ rs) w w' → R (.returned (.tuple #[v1, v2])) w') : WT Fence.wide 3 P N (.code .ret :: t) (bodyPostM Fence.wide 3 P fn R) E (rs.map mark) w :=
  wt_retn hn hd fun a r W' hk => ⟨_, results_tmp2 hr _ _ _, by rw [r.get, r.get, h1, h2]; exact h W' hk⟩
theorem wt_retk3 {t1 t2 t3 : Tmp} {v1 v2 v3 : Value} (hn : rs.Nodup) (hd : ∀ r ∈ rs, w.heap[r]? = some (Obj.deferred (some []))) (hr : fn.results = #[.tmp t1, .tmp t2, .tmp t3]) (h1 : E t1 = v1) (h2 : E t2 = v2) (h3 : E t3 = v3) (h : ∀ w', Keeps (fun k => k ∈ rs) w w' → R (.returned (.tuple #[v1, v2, v3])) w') : WT Fence.wide 3 P N (.code .ret :: t) (bodyPostM Fence.wide 3 P fn R) E (rs.map mark) w :=
  wt_retn hn hd fun a r W' hk => ⟨_, results_tmp3 hr _ _ _, by rw [r.get, r.get, r.get, h1, h2, h3]; exact h W' hk⟩
end
theorem Sep.marked {w0 w : World} {S O : BS} {L : Hold} (h : Sep w0 S O w L) (i : Nat) {D : Nat} (hi : L i = dfr D) : ∀ r ∈ [D], w.heap[r]? = some (Obj.deferred (some [])) := fun r hr => by
  rw [List.mem_singleton] at hr
  subst hr
  have := h.ok i
  rw [hi] at this
  exact this.2
theorem unmark1 {L : Hold} (i : Nat) {D : Nat} (hi : L i = dfr D) : ∀ r ∈ [D], ∃ j ∈ [i], (L j).blk = some r := fun r hr => by
  rw [List.mem_singleton] at hr
  subst hr
  exact ⟨i, by simp, by rw [hi]; rfl⟩
/-! ### Results in memory -/
theorem results_cell2 {P : Program} {fn : Func} {p1 p2 : Tmp} {y1 y2 : TypeId} (h : fn.results = #[.cell p1 y1, .cell p2 y2]) {tmps : Array Value} {w : World} {a1 a2 : Addr} {v1 v2 : Value} {u1 u2 : TypeDesc} (h1 : tmps.getD p1 undef = .pointer (some a1)) (h2 : tmps.getD p2 undef = .pointer (some a2))
    (hu1 : P.underlying y1 = some u1) (hn1 : aggD u1 = false) (hu2 : P.underlying y2 = some u2) (hn2 : aggD u2 = false) (c1 : w.cell? a1 = some v1) (c2 : w.cell? a2 = some v2) : (results fn tmps).run P w = .ok (.tuple #[v1, v2]) w := by
  have l1 : (loadVar y1 a1).run P w = .ok v1 w := by
    simp only [loadVar, Sem.run_bind, Result.andThen, run_isAgg_no hu1 hn1, run_load a1 v1 c1, Bool.false_eq_true, if_false]
  have l2 : (loadVar y2 a2).run P w = .ok v2 w := by
    simp only [loadVar, Sem.run_bind, Result.andThen, run_isAgg_no hu2 hn2, run_load a2 v2 c2, Bool.false_eq_true, if_false]
  have g1 : tmps[p1]?.getD undef = .pointer (some a1) := by simpa using h1
  have g2 : tmps[p2]?.getD undef = .pointer (some a2) := by simpa using h2
  simp [results, h, g1, g2, asAddr, Sem.run_bind, Result.andThen, l1, l2]
section
variable {P : Program} {fn : Func} {N : Nat} {t : List Item} {R : Ending → World → Prop} {E : Env} {w : World} {rs : List Nat}
theorem q_retc2 {w0 : World} {S O : BS} {L : Hold} (hS : Sep w0 S O w L) {t1 t2 : Tmp} {y1 y2 : TypeId} {g1 g2 : Nat} {v1 v2 : Value} {u1 u2 : TypeDesc} {e1 e2 : TypeId} (i1 i2 : Nat) (hi1 : L i1 = .box e1 g1 [v1]) (hi2 : L i2 = .box e2 g2 [v2]) (is : List Nat) (hm : ∀ r ∈ rs, ∃ i ∈ is, (L i).blk = some r) (hd1 : i1 ∉ is) (hd2 : i2 ∉ is)
    (hn : rs.Nodup) (hd : ∀ r ∈ rs, w.heap[r]? = some (Obj.deferred (some []))) (hr : fn.results = #[.cell t1 y1, .cell t2 y2]) (h1 : E t1 = .pointer (some ⟨g1, 0, none⟩)) (h2 : E t2 = .pointer (some ⟨g2, 0, none⟩))
    (hu1 : P.underlying y1 = some u1) (hn1 : aggD u1 = false) (hu2 : P.underlying y2 = some u2) (hn2 : aggD u2 = false) (h : ∀ w', Keeps (fun k => k ∈ rs) w w' → R (.returned (.tuple #[v1, v2])) w') :
    ∀ a, Rep N E (rs.map mark) a → bodyPostM Fence.wide 3 P fn R .ret a w := fun a r => by
  have hd' := r.defers
  show LeavesInM _ _ _ _ _ _ a.defers _ _
  rw [hd']
  have hnot : ∀ i g e v, L i = .box e g [v] → i ∉ is → g ∉ rs := fun i g e v hi hni hg => by
    obtain ⟨j, hj, hb⟩ := hm g hg
    have := hS.nd i j g (by rw [hi]; rfl) hb
    subst this
    exact hni hj
  refine leaves_marks2 rs w hn hd fun W' hk => ⟨_, results_cell2 hr (by rw [r.get, h1]) (by rw [r.get, h2]) hu1 hn1 hu2 hn2 ?_ ?_, h W' hk⟩
  · exact hk.cell (hnot i1 g1 e1 v1 hi1 hd1) (Row.cell (hS.bx i1 hi1) (i := 0) rfl)
  · exact hk.cell (hnot i2 g2 e2 v2 hi2 hd2) (Row.cell (hS.bx i2 hi2) (i := 0) rfl)
end
end Go.Proofs.Ytbehbjfcenlaeaa

/- Pure forms of functions, made by program (pf.py), each with the proof that the code does so. -/
namespace Go.Proofs.Ytbehbjfcenlaeaa
open Go Go.RowKit Go.Shelf
set_option linter.unusedVariables false
set_option maxRecDepth 100000
set_option maxHeartbeats 1000000
/-- sandpile/effective.given: what it computes. -/
def pf_effective_given (g : Int) (g2 : List (Int × Int × Int)) (d : List Int) (R : Int → Prop) : Prop :=
pf_reduced_IsReduced g g2 0 d (fun (r : Bool) (r2 : Int) =>
R r2)
theorem pok_effective_given {O : Nat → Prop} {w : World} {g : Int} {g2 : List (Int × Int × Int)} {d : List Int} {Ag : Option Addr} {lg : Nat} {cg : Nat} {Ad : Option Addr} {ld : Nat} {cd : Nat} {R : Int → Prop} (h : pf_effective_given g g2 d R) (hO : ∀ k, O k → k < w.heap.size) (a0 : (FP.sl c3 Ag lg cg g2).P O w) (a1 : (FP.sl cI Ad ld cd d).P O w) :
    Calls Try.prog 61 #[(Value.agg #[(Value.int .i64 g), (Value.slice Ag lg cg)]), (Value.slice Ad ld cd)] w fun e w' => ∃ r3 : Int, e = .returned (Value.int .i64 r3) ∧ Sep w no O w' (rl []) ∧ R r3 := by
  unfold pf_effective_given at h
  have hS : Sep w no O w (rl [Res.ro (FP.sl c3 Ag lg cg g2), Res.ro (FP.sl cI Ad ld cd d)]) := Sep.startl hO [(FP.sl c3 Ag lg cg g2), (FP.sl cI Ad ld cd d)] ⟨a0, a1, trivial⟩
  refine calls_sh (l := [(Value.agg #[(Value.int .i64 g), (Value.slice Ag lg cg)]), (Value.slice Ad ld cd)]) Try.func61 rfl Try.ntmps61 (Nat.le_of_ble_eq_true rfl) ?_
  refine wt_seq ?_
  refine wl_region wd_wide ?_
  refine rl_n rfl rfl rfl rfl (n_box (v := (Value.agg #[(Value.int .i64 g), (Value.slice Ag lg cg)])) rfl ?_)
  intro g3 w2 hN
  replace hS : Sep w no O w2 (stl _ 2 (Res.box 24 g3 [(Value.int .i64 g), (Value.slice Ag lg cg)])) := hS.new 2 rfl hN
  clear hN
  refine ⟨Stb.none _, ?_⟩
  refine rl_q rfl rfl rfl (v_assign (v := (Value.int .i64 0)) rfl) ?_
  refine rl_end ?_
  refine wt_seq ?_
  refine wl_region wd_wide ?_
  refine rl_q rfl rfl rfl (v_loadn (vs := [(Value.int .i64 g), (Value.slice Ag lg cg)]) rfl Try.underlying24 rfl info_24 ⟨Row.cell (hS.bx 2 rfl) (i := 0) rfl, Row.cell (hS.bx 2 rfl) (i := 1) rfl, trivial⟩) ?_
  refine rl_q rfl rfl rfl (v_move (v := (Value.slice Ad ld cd)) rfl) ?_
  refine rl_n rfl rfl rfl rfl (n_call0 rfl (am3 rfl rfl rfl) enter_68 ((pok_reduced_IsReduced h (no_lt _) (hS.rdr 0 rfl) (hS.rdr 1 rfl)).mono ?_))
  rintro _ w3 ⟨r, r2, rfl, hC, h⟩
  replace hS := hS.pur hC.pure
  clear hC
  refine ⟨_, rfl, ?_⟩
  refine ⟨Stb.none _, ?_⟩
  refine rl_q rfl rfl rfl (v_move (v := (Value.tuple #[(Value.bool (r)), (Value.int .i64 r2)])) rfl) ?_
  refine rl_q rfl rfl rfl (v_extract (v := (Value.bool (r))) rfl rfl) ?_
  refine rl_q rfl rfl rfl (v_extract (v := (Value.int .i64 r2)) rfl rfl) ?_
  refine rl_q rfl rfl rfl (v_assign (v := (Value.bool (r))) rfl) ?_
  refine rl_q rfl rfl rfl (v_assign (v := (Value.int .i64 r2)) rfl) ?_
  refine rl_end ?_
  refine wt_seq ?_
  refine wl_region wd_wide ?_
  refine rl_q rfl rfl rfl (v_move (v := (Value.int .i64 r2)) rfl) ?_
  refine rl_q rfl rfl rfl (v_assign (v := (Value.int .i64 r2)) rfl) ?_
  refine rl_end ?_
  exact wt_ret1 rfl rfl ⟨_, rfl, (hS.sel [] (by decide)), h⟩

/-- sandpile/effective.Winnable: what it computes. -/
def pf_effective_Winnable (g : Int) (g2 : List (Int × Int × Int)) (d : List Int) (R : Bool → (List Int) → (List Int) → Int → Prop) : Prop :=
pf_reduced_Reduce g g2 0 d (fun (r : List Int) (r2 : List Int) (r3 : Int) =>
((r3 = 0 →
((0 ≤ (0 : Int) ∧ (0 : Int) < ((r.length : Nat) : Int)) ∧
R (decide (0 ≤ (gi r (0 : Int).toNat))) r r2 0)) ∧
(¬ (r3 = 0) →
R false ([]) ([]) r3)))
theorem pok_effective_Winnable {O : Nat → Prop} {w : World} {g : Int} {g2 : List (Int × Int × Int)} {d : List Int} {Ag : Option Addr} {lg : Nat} {cg : Nat} {Ad : Option Addr} {ld : Nat} {cd : Nat} {R : Bool → (List Int) → (List Int) → Int → Prop} (h : pf_effective_Winnable g g2 d R) (hO : ∀ k, O k → k < w.heap.size) (a0 : (FP.sl c3 Ag lg cg g2).P O w) (a1 : (FP.sl cI Ad ld cd d).P O w) :
    Calls Try.prog 30 #[(Value.agg #[(Value.int .i64 g), (Value.slice Ag lg cg)]), (Value.slice Ad ld cd)] w fun e w' => ∃ r4 : Bool, ∃ r5 : List Int, ∃ r6 : List Int, ∃ r7 : Int, ∃ Ar3 : Option Addr, ∃ lr3 : Nat, ∃ cr3 : Nat, ∃ Ar4 : Option Addr, ∃ lr4 : Nat, ∃ cr4 : Nat, e = .returned (Value.tuple #[(Value.bool (r4)), (Value.slice Ar3 lr3 cr3), (Value.slice Ar4 lr4 cr4), (Value.int .i64 r7)]) ∧ Sep w no O w' (rl [Res.own cI 3 Ar3 lr3 cr3 r5, Res.own cI 3 Ar4 lr4 cr4 r6]) ∧ R r4 r5 r6 r7 := by
  unfold pf_effective_Winnable at h
  have hS : Sep w no O w (rl [Res.ro (FP.sl c3 Ag lg cg g2), Res.ro (FP.sl cI Ad ld cd d)]) := Sep.startl hO [(FP.sl c3 Ag lg cg g2), (FP.sl cI Ad ld cd d)] ⟨a0, a1, trivial⟩
  refine calls_sh (l := [(Value.agg #[(Value.int .i64 g), (Value.slice Ag lg cg)]), (Value.slice Ad ld cd)]) Try.func30 rfl Try.ntmps30 (Nat.le_of_ble_eq_true rfl) ?_
  refine wt_seq ?_
  refine wl_region wd_wide ?_
  refine rl_n rfl rfl rfl rfl (n_box (v := (Value.agg #[(Value.int .i64 g), (Value.slice Ag lg cg)])) rfl ?_)
  intro g3 w2 hN
  replace hS : Sep w no O w2 (stl _ 2 (Res.box 24 g3 [(Value.int .i64 g), (Value.slice Ag lg cg)])) := hS.new 2 rfl hN
  clear hN
  refine ⟨Stb.none _, ?_⟩
  refine rl_q rfl rfl rfl (v_assign (v := (Value.bool (false))) rfl) ?_
  refine rl_q rfl rfl rfl (v_assign (v := (Value.slice none 0 0)) rfl) ?_
  refine rl_q rfl rfl rfl (v_assign (v := (Value.slice none 0 0)) rfl) ?_
  refine rl_q rfl rfl rfl (v_assign (v := (Value.int .i64 0)) rfl) ?_
  refine rl_end ?_
  refine wt_seq ?_
  refine wl_region wd_wide ?_
  refine rl_q rfl rfl rfl (v_loadn (vs := [(Value.int .i64 g), (Value.slice Ag lg cg)]) rfl Try.underlying24 rfl info_24 ⟨Row.cell (hS.bx 2 rfl) (i := 0) rfl, Row.cell (hS.bx 2 rfl) (i := 1) rfl, trivial⟩) ?_
  refine rl_q rfl rfl rfl (v_move (v := (Value.slice Ad ld cd)) rfl) ?_
  refine rl_n rfl rfl rfl rfl (n_call0 rfl (am3 rfl rfl rfl) enter_82 ((pok_reduced_Reduce h (no_lt _) (hS.rdr 0 rfl) (hS.rdr 1 rfl)).mono ?_))
  rintro _ w3 ⟨r, r2, r3, Ar, lr, cr, Ar2, lr2, cr2, rfl, hC, h⟩
  replace hS := hS.call2 (hC.widen (flatS (flat_own (fI .i64) _ _ _ _ _) (flatS (flat_own (fI .i64) _ _ _ _ _) flat0)) hS.blt) 3 0 4 1 rfl rfl (by decide) (by decide)
  clear hC
  refine ⟨_, rfl, ?_⟩
  refine ⟨Stb.none _, ?_⟩
  refine rl_q rfl rfl rfl (v_move (v := (Value.tuple #[(Value.slice Ar lr cr), (Value.slice Ar2 lr2 cr2), (Value.int .i64 r3)])) rfl) ?_
  refine rl_q rfl rfl rfl (v_extract (v := (Value.slice Ar lr cr)) rfl rfl) ?_
  refine rl_q rfl rfl rfl (v_extract (v := (Value.slice Ar2 lr2 cr2)) rfl rfl) ?_
  refine rl_q rfl rfl rfl (v_extract (v := (Value.int .i64 r3)) rfl rfl) ?_
  refine rl_q rfl rfl rfl (v_assign (v := (Value.slice Ar lr cr)) rfl) ?_
  refine rl_q rfl rfl rfl (v_assign (v := (Value.slice Ar2 lr2 cr2)) rfl) ?_
  refine rl_q rfl rfl rfl (v_assign (v := (Value.int .i64 r3)) rfl) ?_
  refine rl_end ?_
  refine wt_seq ?_
  refine wt_seq ?_
  refine wl_region wd_wide ?_
  refine rl_q rfl rfl rfl (v_move (v := (Value.int .i64 r3)) rfl) ?_
  refine rl_q rfl rfl rfl (v_neq rfl rfl) ?_
  refine rl_end ?_
  by_cases hp : r3 = 0
  · replace h := h.1 hp
    refine wt_cond_f (congrArg Value.bool (congrArg Bool.not (decide_eq_true hp))) ?_
    refine wt_skip ?_
    refine wt_seq ?_
    refine wl_region wd_wide ?_
    refine rl_q rfl rfl rfl (v_move (v := (Value.slice Ar lr cr)) rfl) ?_
    obtain ⟨hx, h⟩ := h
    refine rl_q rfl rfl rfl (v_iaddr rfl rfl Try.underlying26 info_3 (rd_ix (hS.rdo 3 rfl) hx)) ?_
    refine rl_q rfl rfl rfl (v_load (v := (Value.int .i64 (gi r (0 : Int).toNat))) rfl Try.underlying3 rfl (rd_1 (hS.rdo 3 rfl) hx (fun q => gi_some q) rfl)) ?_
    refine rl_q rfl rfl rfl (v_geq rfl rfl) ?_
    refine rl_q rfl rfl rfl (v_move (v := (Value.slice Ar lr cr)) rfl) ?_
    refine rl_q rfl rfl rfl (v_move (v := (Value.slice Ar2 lr2 cr2)) rfl) ?_
    refine rl_q rfl rfl rfl (v_assign (v := (Value.bool (decide (0 ≤ (gi r (0 : Int).toNat))))) rfl) ?_
    refine rl_q rfl rfl rfl (v_assign (v := (Value.slice Ar lr cr)) rfl) ?_
    refine rl_q rfl rfl rfl (v_assign (v := (Value.slice Ar2 lr2 cr2)) rfl) ?_
    refine rl_q rfl rfl rfl (v_assign (v := (Value.int .i64 0)) rfl) ?_
    refine rl_end ?_
    exact wt_ret4 rfl rfl rfl rfl rfl ⟨_, _, _, _, _, _, _, _, _, _, rfl, (hS.sel [3, 4] (by decide)), h⟩
  · replace h := h.2 hp
    refine wt_cond_t (congrArg Value.bool (congrArg Bool.not (decide_eq_false hp))) ?_
    refine wt_seq ?_
    refine wl_region wd_wide ?_
    refine rl_q rfl rfl rfl (v_move (v := (Value.int .i64 r3)) rfl) ?_
    refine rl_q rfl rfl rfl (v_assign (v := (Value.bool (false))) rfl) ?_
    refine rl_q rfl rfl rfl (v_assign (v := (Value.slice none 0 0)) rfl) ?_
    refine rl_q rfl rfl rfl (v_assign (v := (Value.slice none 0 0)) rfl) ?_
    refine rl_q rfl rfl rfl (v_assign (v := (Value.int .i64 r3)) rfl) ?_
    refine rl_end ?_
    replace hS := hS.nil 5 rfl cI 3
    replace hS := hS.nil 6 rfl cI 3
    exact wt_ret4 rfl rfl rfl rfl rfl ⟨_, _, _, _, _, _, _, _, _, _, rfl, (hS.sel [5, 6] (by decide)), h⟩

/-- sandpile/effective.price: what it computes. -/
def pf_effective_price (g : Int) (g2 : List (Int × Int × Int)) (d : List Int) (v : Int) (R : Int → Int → Prop) : Prop :=
pf_reduced_Reduce g g2 v d (fun (r : List Int) (r2 : List Int) (r3 : Int) =>
((r3 = 0 →
((0 ≤ v ∧ v < ((r.length : Nat) : Int)) ∧
(In64 (-(gi r v.toNat)) ∧
R (mxF 0 (-(gi r v.toNat))) 0))) ∧
(¬ (r3 = 0) →
R 0 r3)))
theorem pok_effective_price {O : Nat → Prop} {w : World} {g : Int} {g2 : List (Int × Int × Int)} {d : List Int} {v : Int} {Ag : Option Addr} {lg : Nat} {cg : Nat} {Ad : Option Addr} {ld : Nat} {cd : Nat} {R : Int → Int → Prop} (h : pf_effective_price g g2 d v R) (hO : ∀ k, O k → k < w.heap.size) (a0 : (FP.sl c3 Ag lg cg g2).P O w) (a1 : (FP.sl cI Ad ld cd d).P O w) :
    Calls Try.prog 74 #[(Value.agg #[(Value.int .i64 g), (Value.slice Ag lg cg)]), (Value.slice Ad ld cd), (Value.int .i64 v)] w fun e w' => ∃ r4 : Int, ∃ r5 : Int, e = .returned (Value.tuple #[(Value.int .i64 r4), (Value.int .i64 r5)]) ∧ Sep w no O w' (rl []) ∧ R r4 r5 := by
  unfold pf_effective_price at h
  have hS : Sep w no O w (rl [Res.ro (FP.sl c3 Ag lg cg g2), Res.ro (FP.sl cI Ad ld cd d)]) := Sep.startl hO [(FP.sl c3 Ag lg cg g2), (FP.sl cI Ad ld cd d)] ⟨a0, a1, trivial⟩
  refine calls_sh (l := [(Value.agg #[(Value.int .i64 g), (Value.slice Ag lg cg)]), (Value.slice Ad ld cd), (Value.int .i64 v)]) Try.func74 rfl Try.ntmps74 (Nat.le_of_ble_eq_true rfl) ?_
  refine wt_seq ?_
  refine wl_region wd_wide ?_
  refine rl_n rfl rfl rfl rfl (n_box (v := (Value.agg #[(Value.int .i64 g), (Value.slice Ag lg cg)])) rfl ?_)
  intro g3 w2 hN
  replace hS : Sep w no O w2 (stl _ 2 (Res.box 24 g3 [(Value.int .i64 g), (Value.slice Ag lg cg)])) := hS.new 2 rfl hN
  clear hN
  refine ⟨Stb.none _, ?_⟩
  refine rl_q rfl rfl rfl (v_assign (v := (Value.int .i64 0)) rfl) ?_
  refine rl_q rfl rfl rfl (v_assign (v := (Value.int .i64 0)) rfl) ?_
  refine rl_end ?_
  refine wt_seq ?_
  refine wl_region wd_wide ?_
  refine rl_q rfl rfl rfl (v_loadn (vs := [(Value.int .i64 g), (Value.slice Ag lg cg)]) rfl Try.underlying24 rfl info_24 ⟨Row.cell (hS.bx 2 rfl) (i := 0) rfl, Row.cell (hS.bx 2 rfl) (i := 1) rfl, trivial⟩) ?_
  refine rl_q rfl rfl rfl (v_move (v := (Value.int .i64 v)) rfl) ?_
  refine rl_q rfl rfl rfl (v_move (v := (Value.slice Ad ld cd)) rfl) ?_
  refine rl_n rfl rfl rfl rfl (n_call0 rfl (am3 rfl rfl rfl) enter_82 ((pok_reduced_Reduce h (no_lt _) (hS.rdr 0 rfl) (hS.rdr 1 rfl)).mono ?_))
  rintro _ w3 ⟨r, r2, r3, Ar, lr, cr, Ar2, lr2, cr2, rfl, hC, h⟩
  replace hS := hS.call2 (hC.widen (flatS (flat_own (fI .i64) _ _ _ _ _) (flatS (flat_own (fI .i64) _ _ _ _ _) flat0)) hS.blt) 3 0 4 1 rfl rfl (by decide) (by decide)
  clear hC
  refine ⟨_, rfl, ?_⟩
  refine ⟨Stb.none _, ?_⟩
  refine rl_q rfl rfl rfl (v_move (v := (Value.tuple #[(Value.slice Ar lr cr), (Value.slice Ar2 lr2 cr2), (Value.int .i64 r3)])) rfl) ?_
  refine rl_q rfl rfl rfl (v_extract (v := (Value.slice Ar lr cr)) rfl rfl) ?_
  refine rl_q rfl rfl rfl (v_extract (v := (Value.slice Ar2 lr2 cr2)) rfl rfl) ?_
  refine rl_q rfl rfl rfl (v_extract (v := (Value.int .i64 r3)) rfl rfl) ?_
  refine rl_q rfl rfl rfl (v_assign (v := (Value.slice Ar lr cr)) rfl) ?_
  refine rl_q rfl rfl rfl (v_assign (v := (Value.slice Ar2 lr2 cr2)) rfl) ?_
  refine rl_q rfl rfl rfl (v_assign (v := (Value.int .i64 r3)) rfl) ?_
  refine rl_end ?_
  refine wt_seq ?_
  refine wt_seq ?_
  refine wl_region wd_wide ?_
  refine rl_q rfl rfl rfl (v_move (v := (Value.int .i64 r3)) rfl) ?_
  refine rl_q rfl rfl rfl (v_neq rfl rfl) ?_
  refine rl_end ?_
  by_cases hp : r3 = 0
  · replace h := h.1 hp
    refine wt_cond_f (congrArg Value.bool (congrArg Bool.not (decide_eq_true hp))) ?_
    refine wt_skip ?_
    refine wt_seq ?_
    refine wl_region wd_wide ?_
    refine rl_q rfl rfl rfl (v_move (v := (Value.slice Ar lr cr)) rfl) ?_
    refine rl_q rfl rfl rfl (v_move (v := (Value.int .i64 v)) rfl) ?_
    obtain ⟨hx, h⟩ := h
    refine rl_q rfl rfl rfl (v_iaddr rfl rfl Try.underlying26 info_3 (rd_ix (hS.rdo 3 rfl) hx)) ?_
    refine rl_q rfl rfl rfl (v_load (v := (Value.int .i64 (gi r v.toNat))) rfl Try.underlying3 rfl (rd_1 (hS.rdo 3 rfl) hx (fun q => gi_some q) rfl)) ?_
    obtain ⟨hi, h⟩ := h
    refine rl_q rfl rfl rfl (v_neg rfl hi) ?_
    refine rl_q rfl rfl rfl (v_max2 rfl rfl) ?_
    refine rl_q rfl rfl rfl (v_assign (v := (Value.int .i64 (mxF 0 (-(gi r v.toNat))))) rfl) ?_
    refine rl_q rfl rfl rfl (v_assign (v := (Value.int .i64 0)) rfl) ?_
    refine rl_end ?_
    exact wt_ret2 rfl rfl rfl ⟨_, _, rfl, (hS.sel [] (by decide)), h⟩
  · replace h := h.2 hp
    refine wt_cond_t (congrArg Value.bool (congrArg Bool.not (decide_eq_false hp))) ?_
    refine wt_seq ?_
    refine wl_region wd_wide ?_
    refine rl_q rfl rfl rfl (v_move (v := (Value.int .i64 r3)) rfl) ?_
    refine rl_q rfl rfl rfl (v_assign (v := (Value.int .i64 0)) rfl) ?_
    refine rl_q rfl rfl rfl (v_assign (v := (Value.int .i64 r3)) rfl) ?_
    refine rl_end ?_
    exact wt_ret2 rfl rfl rfl ⟨_, _, rfl, (hS.sel [] (by decide)), h⟩

/-- sandpile/effective.prices: what it computes. -/
def pf_effective_prices (g : Int) (g2 : List (Int × Int × Int)) (d : List Int) (R : Prop) : Prop :=
R
theorem pok_effective_prices {O : Nat → Prop} {w : World} {g : Int} {g2 : List (Int × Int × Int)} {d : List Int} {Ag : Option Addr} {lg : Nat} {cg : Nat} {Ad : Option Addr} {ld : Nat} {cd : Nat} {R : Prop} (h : pf_effective_prices g g2 d R) (hO : ∀ k, O k → k < w.heap.size) (a0 : (FP.sl c3 Ag lg cg g2).P O w) (a1 : (FP.sl cI Ad ld cd d).P O w) :
    Calls Try.prog 78 #[(Value.agg #[(Value.int .i64 g), (Value.slice Ag lg cg)]), (Value.slice Ad ld cd)] w fun e w' => ∃ gr : Nat, ∃ gr2 : Nat, e = .returned (Value.func (Fn.func 126) #[] #[(Value.pointer (some (⟨gr, 0, none⟩ : Addr))), (Value.pointer (some (⟨gr2, 0, none⟩ : Addr)))]) ∧ Sep w no O w' (rl [Res.box 24 gr [(Value.int .i64 g), (Value.slice Ag lg cg)], Res.box 26 gr2 [(Value.slice Ad ld cd)]]) ∧ R := by
  unfold pf_effective_prices at h
  have hS : Sep w no O w (rl [Res.ro (FP.sl c3 Ag lg cg g2), Res.ro (FP.sl cI Ad ld cd d)]) := Sep.startl hO [(FP.sl c3 Ag lg cg g2), (FP.sl cI Ad ld cd d)] ⟨a0, a1, trivial⟩
  refine calls_sh (l := [(Value.agg #[(Value.int .i64 g), (Value.slice Ag lg cg)]), (Value.slice Ad ld cd)]) Try.func78 rfl Try.ntmps78 (Nat.le_of_ble_eq_true rfl) ?_
  refine wt_seq ?_
  refine wl_region wd_wide ?_
  refine rl_n rfl rfl rfl rfl (n_box (v := (Value.agg #[(Value.int .i64 g), (Value.slice Ag lg cg)])) rfl ?_)
  intro g3 w2 hN
  replace hS : Sep w no O w2 (stl _ 2 (Res.box 24 g3 [(Value.int .i64 g), (Value.slice Ag lg cg)])) := hS.new 2 rfl hN
  clear hN
  refine ⟨Stb.none _, ?_⟩
  refine rl_n rfl rfl rfl rfl (n_box (v := (Value.slice Ad ld cd)) rfl ?_)
  intro g4 w3 hN
  replace hS : Sep w no O w3 (stl _ 3 (Res.box 26 g4 [(Value.slice Ad ld cd)])) := hS.new 3 rfl hN
  clear hN
  refine ⟨Stb.none _, ?_⟩
  refine rl_q rfl rfl rfl (v_assign (v := Value.nilFunc) rfl) ?_
  refine rl_end ?_
  refine wt_seq ?_
  refine wl_region wd_wide ?_
  refine rl_q rfl rfl rfl (v_func (am0) (am2 rfl rfl)) ?_
  refine rl_q rfl rfl rfl (v_assign (v := (Value.func (Fn.func 126) #[] #[(Value.pointer (some (⟨g3, 0, none⟩ : Addr))), (Value.pointer (some (⟨g4, 0, none⟩ : Addr)))])) rfl) ?_
  refine rl_end ?_
  exact wt_ret1 rfl rfl ⟨_, _, rfl, (hS.sel [2, 3] (by decide)), h⟩

/-- sandpile/effective.Price: what it computes. -/
def pf_effective_Price (g : Int) (g2 : List (Int × Int × Int)) (d : List Int) (v : Int) (R : Int → Int → Prop) : Prop :=
pf_effective_given g g2 d (fun (r : Int) =>
((r = 0 →
(∃ J2 : Prop, (J2 → pf_effective_price g g2 d v (fun (r2 : Int) (r3 : Int) =>
R r2 r3)) ∧
((v < 0 →
R 0 2) ∧
(¬ (v < 0) →
((g ≤ v →
R 0 2) ∧
(¬ (g ≤ v) →
J2)))))) ∧
(¬ (r = 0) →
R 0 r)))
theorem pok_effective_Price {O : Nat → Prop} {w : World} {g : Int} {g2 : List (Int × Int × Int)} {d : List Int} {v : Int} {Ag : Option Addr} {lg : Nat} {cg : Nat} {Ad : Option Addr} {ld : Nat} {cd : Nat} {R : Int → Int → Prop} (h : pf_effective_Price g g2 d v R) (hO : ∀ k, O k → k < w.heap.size) (a0 : (FP.sl c3 Ag lg cg g2).P O w) (a1 : (FP.sl cI Ad ld cd d).P O w) :
    Calls Try.prog 24 #[(Value.agg #[(Value.int .i64 g), (Value.slice Ag lg cg)]), (Value.slice Ad ld cd), (Value.int .i64 v)] w fun e w' => ∃ r4 : Int, ∃ r5 : Int, e = .returned (Value.tuple #[(Value.int .i64 r4), (Value.int .i64 r5)]) ∧ Sep w no O w' (rl []) ∧ R r4 r5 := by
  unfold pf_effective_Price at h
  have hS : Sep w no O w (rl [Res.ro (FP.sl c3 Ag lg cg g2), Res.ro (FP.sl cI Ad ld cd d)]) := Sep.startl hO [(FP.sl c3 Ag lg cg g2), (FP.sl cI Ad ld cd d)] ⟨a0, a1, trivial⟩
  refine calls_sh (l := [(Value.agg #[(Value.int .i64 g), (Value.slice Ag lg cg)]), (Value.slice Ad ld cd), (Value.int .i64 v)]) Try.func24 rfl Try.ntmps24 (Nat.le_of_ble_eq_true rfl) ?_
  refine wt_seq ?_
  refine wl_region wd_wide ?_
  refine rl_n rfl rfl rfl rfl (n_box (v := (Value.agg #[(Value.int .i64 g), (Value.slice Ag lg cg)])) rfl ?_)
  intro g3 w2 hN
  replace hS : Sep w no O w2 (stl _ 2 (Res.box 24 g3 [(Value.int .i64 g), (Value.slice Ag lg cg)])) := hS.new 2 rfl hN
  clear hN
  refine ⟨Stb.none _, ?_⟩
  refine rl_q rfl rfl rfl (v_assign (v := (Value.int .i64 0)) rfl) ?_
  refine rl_q rfl rfl rfl (v_assign (v := (Value.int .i64 0)) rfl) ?_
  refine rl_end ?_
  refine wt_seq ?_
  refine wt_seq ?_
  refine wl_region wd_wide ?_
  refine rl_q rfl rfl rfl (v_loadn (vs := [(Value.int .i64 g), (Value.slice Ag lg cg)]) rfl Try.underlying24 rfl info_24 ⟨Row.cell (hS.bx 2 rfl) (i := 0) rfl, Row.cell (hS.bx 2 rfl) (i := 1) rfl, trivial⟩) ?_
  refine rl_q rfl rfl rfl (v_move (v := (Value.slice Ad ld cd)) rfl) ?_
  refine rl_n rfl rfl rfl rfl (n_call0 rfl (am2 rfl rfl) enter_61 ((pok_effective_given h (no_lt _) (hS.rdr 0 rfl) (hS.rdr 1 rfl)).mono ?_))
  rintro _ w3 ⟨r, rfl, hC, h⟩
  replace hS := hS.pur hC.pure
  clear hC
  refine ⟨_, rfl, ?_⟩
  refine ⟨Stb.none _, ?_⟩
  refine rl_q rfl rfl rfl (v_assign (v := (Value.int .i64 r)) rfl) ?_
  refine rl_end ?_
  refine wt_seq ?_
  refine wl_region wd_wide ?_
  refine rl_q rfl rfl rfl (v_move (v := (Value.int .i64 r)) rfl) ?_
  refine rl_q rfl rfl rfl (v_neq rfl rfl) ?_
  refine rl_end ?_
  by_cases hp : r = 0
  · replace h := h.1 hp
    refine wt_cond_f (congrArg Value.bool (congrArg Bool.not (decide_eq_true hp))) ?_
    refine wt_skip ?_
    refine wt_seq ?_
    refine wt_seq ?_
    obtain ⟨J2, hJ, h⟩ := h
    refine wt_cutT1 (fun E ds w' => J2 ∧ ds = [] ∧ E 1 = (Value.slice Ad ld cd) ∧ E 2 = (Value.int .i64 v) ∧ E 3 = (Value.pointer (some (⟨g3, 0, none⟩ : Addr))) ∧ Sep w no O w' (rl [Res.ro (FP.sl cI Ad ld cd d), Res.box 24 g3 [(Value.int .i64 g), (Value.slice Ag lg cg)], Res.ro (FP.sl c3 Ag lg cg g2)])) ?_ ?_
    · clear h hS
      rintro E ds w4 ⟨h, rfl, hE1, hE2, hE3, hS⟩
      replace h := hJ h
      refine wt_seq ?_
      refine wl_region wd_wide ?_
      refine rl_q rfl rfl rfl (v_loadn (vs := [(Value.int .i64 g), (Value.slice Ag lg cg)]) hE3 Try.underlying24 rfl info_24 ⟨Row.cell (hS.bx 1 rfl) (i := 0) rfl, Row.cell (hS.bx 1 rfl) (i := 1) rfl, trivial⟩) ?_
      refine rl_q rfl rfl rfl (v_move (v := (Value.slice Ad ld cd)) hE1) ?_
      refine rl_q rfl rfl rfl (v_move (v := (Value.int .i64 v)) hE2) ?_
      refine rl_n rfl rfl rfl rfl (n_call0 rfl (am3 rfl rfl rfl) enter_74 ((pok_effective_price h (no_lt _) (hS.rdr 2 rfl) (hS.rdr 0 rfl)).mono ?_))
      rintro _ w5 ⟨r2, r3, rfl, hC, h⟩
      replace hS := hS.pur hC.pure
      clear hC
      refine ⟨_, rfl, ?_⟩
      refine ⟨Stb.none _, ?_⟩
      refine rl_q rfl rfl rfl (v_extract (v := (Value.int .i64 r2)) rfl rfl) ?_
      refine rl_q rfl rfl rfl (v_extract (v := (Value.int .i64 r3)) rfl rfl) ?_
      refine rl_q rfl rfl rfl (v_assign (v := (Value.int .i64 r2)) rfl) ?_
      refine rl_q rfl rfl rfl (v_assign (v := (Value.int .i64 r3)) rfl) ?_
      refine rl_end ?_
      exact wt_ret2 rfl rfl rfl ⟨_, _, rfl, (hS.sel [] (by decide)), h⟩
    clear hJ
    intro j
    refine wl_region wd_wide ?_
    refine rl_q rfl rfl rfl (v_move (v := (Value.int .i64 v)) rfl) ?_
    refine rl_q rfl rfl rfl (v_lss rfl rfl) ?_
    refine rl_q rfl rfl rfl (v_move (v := (Value.bool (decide (v < 0)))) rfl) ?_
    by_cases hp2 : v < 0
    · replace h := h.1 hp2
      refine rl_p (wanted_n rfl (yE_of rfl (congrArg Value.bool (decide_eq_true hp2))) rfl) rfl ?_
      refine rl_p (wanted_n rfl (yE_of rfl (congrArg Value.bool (decide_eq_true hp2))) rfl) rfl ?_
      refine rl_p (wanted_n rfl (yE_of rfl (congrArg Value.bool (decide_eq_true hp2))) rfl) rfl ?_
      refine rl_p (wanted_n rfl (yE_of rfl (congrArg Value.bool (decide_eq_true hp2))) rfl) rfl ?_
      refine rl_q rfl rfl rfl (v_pick_t (v := (Value.bool (true))) (congrArg Value.bool (decide_eq_true hp2)) rfl) ?_
      refine rl_end ?_
      refine wt_cond_t rfl ?_
      refine wt_seq ?_
      refine wl_region wd_wide ?_
      refine rl_q rfl rfl rfl (v_assign (v := (Value.int .i64 0)) rfl) ?_
      refine rl_q rfl rfl rfl (v_assign (v := (Value.int .i64 2)) rfl) ?_
      refine rl_end ?_
      exact wt_ret2 rfl rfl rfl ⟨_, _, rfl, (hS.sel [] (by decide)), h⟩
    · replace h := h.2 hp2
      refine rl_q (wanted_g rfl (yE_of rfl (congrArg Value.bool (decide_eq_false hp2)))) rfl rfl (v_move (v := (Value.int .i64 v)) rfl) ?_
      refine rl_q (wanted_g rfl (yE_of rfl (congrArg Value.bool (decide_eq_false hp2)))) rfl rfl (v_faddr rfl Try.underlying24 rfl info_3) ?_
      refine rl_q (wanted_g rfl (yE_of rfl (congrArg Value.bool (decide_eq_false hp2)))) rfl rfl (v_load rfl Try.underlying3 rfl (Row.cell (hS.bx 2 rfl) (i := 0) rfl)) ?_
      refine rl_q (wanted_g rfl (yE_of rfl (congrArg Value.bool (decide_eq_false hp2)))) rfl rfl (v_geq rfl rfl) ?_
      refine rl_q rfl rfl rfl (v_pick_f (v := (Value.bool (decide (g ≤ v)))) (congrArg Value.bool (decide_eq_false hp2)) rfl) ?_
      refine rl_end ?_
      by_cases hp3 : g ≤ v
      · replace h := h.1 hp3
        refine wt_cond_t (congrArg Value.bool (decide_eq_true hp3)) ?_
        refine wt_seq ?_
        refine wl_region wd_wide ?_
        refine rl_q rfl rfl rfl (v_assign (v := (Value.int .i64 0)) rfl) ?_
        refine rl_q rfl rfl rfl (v_assign (v := (Value.int .i64 2)) rfl) ?_
        refine rl_end ?_
        exact wt_ret2 rfl rfl rfl ⟨_, _, rfl, (hS.sel [] (by decide)), h⟩
      · replace h := h.2 hp3
        refine wt_cond_f (congrArg Value.bool (decide_eq_false hp3)) ?_
        refine wt_skip ?_
        exact j _ _ _ ⟨h, rfl, rfl, rfl, rfl, (hS.sel [1, 2, 0] (by decide))⟩
  · replace h := h.2 hp
    refine wt_cond_t (congrArg Value.bool (congrArg Bool.not (decide_eq_false hp))) ?_
    refine wt_seq ?_
    refine wl_region wd_wide ?_
    refine rl_q rfl rfl rfl (v_move (v := (Value.int .i64 r)) rfl) ?_
    refine rl_q rfl rfl rfl (v_assign (v := (Value.int .i64 0)) rfl) ?_
    refine rl_q rfl rfl rfl (v_assign (v := (Value.int .i64 r)) rfl) ?_
    refine rl_end ?_
    exact wt_ret2 rfl rfl rfl ⟨_, _, rfl, (hS.sel [] (by decide)), h⟩

/-- sandpile/effective.prices$1: what it yields. -/
def pf_effective_prices_1 (cap : Int) (cap2 : List (Int × Int × Int)) (cap3 : List Int) (Pr R : List (Int × Int) → Prop) : Prop :=
(∃ I2 : Nat → (List (Int × Int)) → Int → Prop, (∃ m0, I2 m0 ([]) 0) ∧ ∀ (m2 : Nat) (pre2 : List (Int × Int)) (v : Int), I2 m2 pre2 v → 
((v < cap →
pf_effective_price cap cap2 cap3 v (fun (r : Int) (r2 : Int) =>
(Pr (pre2 ++ [(r, r2)]) ∧
(((r2 = 0 →
(In64 (v + 1) ∧
∃ m3, m3 < m2 ∧ I2 m3 (pre2 ++ [(r, r2)]) (v + 1))) ∧
(¬ (r2 = 0) →
R (pre2 ++ [(r, r2)]))) ∧
True)))) ∧
(¬ (v < cap) →
R pre2)))
theorem pok_effective_prices_1 {w : World} {T0 G0 : BS} {cap : Int} {cap2 : List (Int × Int × Int)} {cap3 : List Int} {gc : Nat} {Acap : Option Addr} {lcap : Nat} {ccap : Nat} {gc2 : Nat} {Acap2 : Option Addr} {lcap2 : Nat} {ccap2 : Nat} {Pr R : List (Int × Int) → Prop} (h : pf_effective_prices_1 cap cap2 cap3 Pr R) (hS0 : Sep w G0 T0 w (rl [Res.box 24 gc [(Value.int .i64 cap), (Value.slice Acap lcap ccap)], Res.ro (FP.sl c3 Acap lcap ccap cap2), Res.box 26 gc2 [(Value.slice Acap2 lcap2 ccap2)], Res.ro (FP.sl cI Acap2 lcap2 ccap2 cap3)])) :
    GenSays Try.prog 126 #[(Value.pointer (some (⟨gc, 0, none⟩ : Addr))), (Value.pointer (some (⟨gc2, 0, none⟩ : Addr)))] (fun x : Int × Int => #[(Value.int .i64 x.1), (Value.int .i64 x.2)]) (fun _ => FP.tt) Pr R T0 G0 w := by
  unfold pf_effective_prices_1 at h
  intro l J Jx T1 w1 hs hJ hp hT
  obtain ⟨G, hJ, hS⟩ := gen_start hS0 hs hJ hp hT
  clear hS0 hp hT
  refine callsIn_gen (l := [(Value.func (.yield l) #[] #[]), (Value.pointer (some (⟨gc, 0, none⟩ : Addr))), (Value.pointer (some (⟨gc2, 0, none⟩ : Addr)))]) Try.func126 rfl Try.ntmps126 (Nat.le_of_ble_eq_true rfl) rfl ?_
  refine wt_seq ?_
  refine wl_region wd_wide ?_
  refine rl_q rfl rfl rfl (v_faddr rfl Try.underlying24 rfl info_3) ?_
  refine rl_q rfl rfl rfl (v_load rfl Try.underlying3 rfl (Row.cell (hS.bx 0 rfl) (i := 0) rfl)) ?_
  refine rl_q rfl rfl rfl (v_move (v := (Value.int .i64 0)) rfl) ?_
  refine rl_end ?_
  refine wt_block ?_
  obtain ⟨I2, ⟨m0, h0⟩, hr⟩ := h
  refine wt_loop (fun m E ds w' => ∃ pre2 : List (Int × Int), ∃ v : Int, ∃ T2 : BS, ∃ G2 : BS, ∃ wb2 : World, I2 m pre2 v ∧ ds = [] ∧ E 0 = (Value.func (.yield l) #[] #[]) ∧ E 1 = (Value.pointer (some (⟨gc, 0, none⟩ : Addr))) ∧ E 2 = (Value.pointer (some (⟨gc2, 0, none⟩ : Addr))) ∧ E 8 = (Value.int .i64 cap) ∧ E 9 = (Value.int .i64 v) ∧ J T2 G2 pre2 wb2 ∧ Sep wb2 G2 T2 w' (rl [Res.box 24 gc [(Value.int .i64 cap), (Value.slice Acap lcap ccap)], Res.ro (FP.sl c3 Acap lcap ccap cap2), Res.box 26 gc2 [(Value.slice Acap2 lcap2 ccap2)], Res.ro (FP.sl cI Acap2 lcap2 ccap2 cap3)])) m0 ⟨_, _, _, _, _, h0, rfl, rfl, rfl, rfl, rfl, rfl, hJ, (hS.sel [0, 1, 2, 3] (by decide))⟩ ?_
  clear h0 hS hJ
  rintro m2 E ds w2 ⟨pre2, v, T2, G2, wb2, h, rfl, hE0, hE1, hE2, hE8, hE9, hJ, hS⟩ again
  replace h := hr m2 pre2 v h
  clear hr
  refine wt_seq ?_
  refine wl_region wd_wide ?_
  refine rl_q rfl rfl rfl (v_lss hE9 hE8) ?_
  refine rl_end ?_
  refine wt_seq ?_
  by_cases hp : v < cap
  · replace h := h.1 hp
    refine wt_cond_t (congrArg Value.bool (decide_eq_true hp)) ?_
    refine wt_skip ?_
    refine wt_seq ?_
    refine wt_block ?_
    refine wt_seq ?_
    refine wl_region wd_wide ?_
    refine rl_q rfl rfl rfl (v_move (v := (Value.int .i64 v)) hE9) ?_
    refine rl_q rfl rfl rfl (v_assign (v := (Value.int .i64 v)) rfl) ?_
    refine rl_end ?_
    refine wt_seq ?_
    refine wl_region wd_wide ?_
    refine rl_q rfl rfl rfl (v_loadn (vs := [(Value.int .i64 cap), (Value.slice Acap lcap ccap)]) hE1 Try.underlying24 rfl info_24 ⟨Row.cell (hS.bx 0 rfl) (i := 0) rfl, Row.cell (hS.bx 0 rfl) (i := 1) rfl, trivial⟩) ?_
    refine rl_q rfl rfl rfl (v_load hE2 Try.underlying26 rfl (Row.cell (hS.bx 2 rfl) (i := 0) rfl)) ?_
    refine rl_q rfl rfl rfl (v_move (v := (Value.int .i64 v)) rfl) ?_
    refine rl_n rfl rfl rfl rfl (n_call0 rfl (am3 rfl rfl rfl) enter_74 ((pok_effective_price h (no_lt _) (hS.rdr 1 rfl) (hS.rdr 3 rfl)).mono ?_))
    rintro _ w3 ⟨r, r2, rfl, hC, h⟩
    replace hS := hS.pur hC.pure
    clear hC
    refine ⟨_, rfl, ?_⟩
    refine ⟨Stb.none _, ?_⟩
    refine rl_q rfl rfl rfl (v_move (v := (Value.tuple #[(Value.int .i64 r), (Value.int .i64 r2)])) rfl) ?_
    refine rl_q rfl rfl rfl (v_extract (v := (Value.int .i64 r)) rfl rfl) ?_
    refine rl_q rfl rfl rfl (v_extract (v := (Value.int .i64 r2)) rfl rfl) ?_
    refine rl_q rfl rfl rfl (v_assign (v := (Value.int .i64 r)) rfl) ?_
    refine rl_q rfl rfl rfl (v_assign (v := (Value.int .i64 r2)) rfl) ?_
    refine rl_end ?_
    refine wt_seq ?_
    refine wl_region wd_wide ?_
    refine rl_q rfl rfl rfl (v_move (v := (Value.func (.yield l) #[] #[])) hE0) ?_
    refine rl_q rfl rfl rfl (v_move (v := (Value.int .i64 r)) rfl) ?_
    refine rl_q rfl rfl rfl (v_move (v := (Value.int .i64 r2)) rfl) ?_
    obtain ⟨hPr, hyes, hno⟩ := h
    refine rl_n rfl rfl rfl rfl (n_yield (m := 1) rfl (am2 rfl rfl) (gen_yield (x := (r, r2)) hs hJ hS hPr trivial ?_ ?_))
    · clear hno hJ hS
      have h := hyes
      clear hyes
      intro T3 w4 hJ hS
      generalize OwnB _ = G3 at hJ hS
      refine ⟨_, rfl, ?_⟩
      refine ⟨Stb.none _, ?_⟩
      refine rl_q rfl rfl rfl (v_not rfl) ?_
      refine rl_q rfl rfl rfl (v_move (v := (Value.bool (!(true)))) rfl) ?_
      refine rl_q (wanted_g rfl (yE_of rfl (congrArg Value.bool (congrArg Bool.not rfl)))) rfl rfl (v_move (v := (Value.int .i64 r2)) rfl) ?_
      refine rl_q (wanted_g rfl (yE_of rfl (congrArg Value.bool (congrArg Bool.not rfl)))) rfl rfl (v_neq rfl rfl) ?_
      refine rl_q rfl rfl rfl (v_pick_f (v := (Value.bool (!(decide (r2 = 0))))) (congrArg Value.bool (congrArg Bool.not rfl)) rfl) ?_
      refine rl_end ?_
      by_cases hp2 : r2 = 0
      · replace h := h.1 hp2
        refine wt_cond_f (congrArg Value.bool (congrArg Bool.not (decide_eq_true hp2))) ?_
        refine wt_skip ?_
        refine wt_inBlock ?_
        refine wl_region wd_wide ?_
        obtain ⟨hi, h⟩ := h
        refine rl_q rfl rfl rfl (v_add hE9 rfl hi) ?_
        refine rl_q rfl rfl rfl (v_move (v := (Value.int .i64 (v + 1))) rfl) ?_
        refine rl_end ?_
        obtain ⟨mq, hlt, h⟩ := h
        exact again mq _ _ _ ⟨_, _, _, _, _, h, rfl, hE0, hE1, hE2, hE8, rfl, hJ, (hS.sel [0, 1, 2, 3] (by decide))⟩ hlt
      · replace h := h.2 hp2
        refine wt_cond_t (congrArg Value.bool (congrArg Bool.not (decide_eq_false hp2))) ?_
        exact wt_ret0 rfl ⟨⟨_, rfl⟩, gen_end hs hJ hS h⟩
    · clear hyes hJ hS
      have h := hno
      clear hno
      intro T4 w5 hJ hS
      generalize OwnB _ = G4 at hJ hS
      refine ⟨_, rfl, ?_⟩
      refine ⟨Stb.none _, ?_⟩
      refine rl_q rfl rfl rfl (v_not rfl) ?_
      refine rl_q rfl rfl rfl (v_move (v := (Value.bool (!(false)))) rfl) ?_
      refine rl_p (wanted_n rfl (yE_of rfl (congrArg Value.bool (congrArg Bool.not rfl))) rfl) rfl ?_
      refine rl_p (wanted_n rfl (yE_of rfl (congrArg Value.bool (congrArg Bool.not rfl))) rfl) rfl ?_
      refine rl_q rfl rfl rfl (v_pick_t (v := (Value.bool (true))) (congrArg Value.bool (congrArg Bool.not rfl)) rfl) ?_
      refine rl_end ?_
      refine wt_cond_t rfl ?_
      exact wt_ret0 rfl ⟨⟨_, rfl⟩, gen_endx hs hJ hS⟩
  · replace h := h.2 hp
    refine wt_cond_f (congrArg Value.bool (decide_eq_false hp)) ?_
    refine wt_exit rfl ?_
    exact wt_end0 rfl ⟨⟨_, rfl⟩, gen_end hs hJ hS h⟩

/-- sandpile/effective.Needy: what it computes. -/
def pf_effective_Needy (g : Int) (g2 : List (Int × Int × Int)) (d : List Int) (R : (List Int) → Int → Prop) : Prop :=
pf_effective_Winnable g g2 d (fun (r : Bool) (r2 : List Int) (r3 : List Int) (r4 : Int) =>
((r4 = 0 →
((r = true →
R ([]) 15) ∧
(¬ (r = true) →
pf_effective_prices g g2 d ((∃ Pr Rr : List (Int × Int) → Prop, pf_effective_prices_1 g g2 d Pr Rr ∧
(∃ I2 : List (Int × Int) → (List Int) → Int → Prop, I2 [] ([]) 0 ∧
(∀ (pre : List (Int × Int)) (y : Int) (y2 : Int) (out : List Int) (v : Int), I2 pre out v → Pr (pre ++ [(y, y2)]) →
((y2 = 0 →
((y = 1 →
(out.length + 1 ≤ 1000000000 ∧
(In64 (v + 1) ∧
I2 (pre ++ [(y, y2)]) (out ++ [v]) (v + 1)))) ∧
(¬ (y = 1) →
(In64 (v + 1) ∧
I2 (pre ++ [(y, y2)]) out (v + 1))))) ∧
(¬ (y2 = 0) →
R ([]) y2))) ∧
(∀ (ys : List (Int × Int)) (out : List Int) (v : Int), I2 ys out v → Rr ys →
R out 0))))))) ∧
(¬ (r4 = 0) →
R ([]) r4)))
theorem pok_effective_Needy {O : Nat → Prop} {w : World} {g : Int} {g2 : List (Int × Int × Int)} {d : List Int} {Ag : Option Addr} {lg : Nat} {cg : Nat} {Ad : Option Addr} {ld : Nat} {cd : Nat} {R : (List Int) → Int → Prop} (h : pf_effective_Needy g g2 d R) (hO : ∀ k, O k → k < w.heap.size) (a0 : (FP.sl c3 Ag lg cg g2).P O w) (a1 : (FP.sl cI Ad ld cd d).P O w) :
    Calls Try.prog 26 #[(Value.agg #[(Value.int .i64 g), (Value.slice Ag lg cg)]), (Value.slice Ad ld cd)] w fun e w' => ∃ r9 : List Int, ∃ r10 : Int, ∃ Ar5 : Option Addr, ∃ lr5 : Nat, ∃ cr5 : Nat, e = .returned (Value.tuple #[(Value.slice Ar5 lr5 cr5), (Value.int .i64 r10)]) ∧ Sep w no O w' (rl [Res.own cI 3 Ar5 lr5 cr5 r9]) ∧ R r9 r10 := by
  unfold pf_effective_Needy at h
  have hS : Sep w no O w (rl [Res.ro (FP.sl c3 Ag lg cg g2), Res.ro (FP.sl cI Ad ld cd d)]) := Sep.startl hO [(FP.sl c3 Ag lg cg g2), (FP.sl cI Ad ld cd d)] ⟨a0, a1, trivial⟩
  refine calls_shm (l := [(Value.agg #[(Value.int .i64 g), (Value.slice Ag lg cg)]), (Value.slice Ad ld cd)]) Try.func26 rfl Try.ntmps26 (Nat.le_of_ble_eq_true rfl) ?_
  refine wt_seq ?_
  refine wl_region wd_wide ?_
  refine rl_n rfl rfl rfl rfl (n_box (v := (Value.agg #[(Value.int .i64 g), (Value.slice Ag lg cg)])) rfl ?_)
  intro g3 w2 hN
  replace hS : Sep w no O w2 (stl _ 2 (Res.box 24 g3 [(Value.int .i64 g), (Value.slice Ag lg cg)])) := hS.new 2 rfl hN
  clear hN
  refine ⟨Stb.none _, ?_⟩
  refine rl_n rfl rfl rfl rfl (n_alloc info_25 ?_)
  intro g4 w3 hN
  replace hS : Sep w no O w3 (stl _ 3 (Res.box 25 g4 [(Value.slice none 0 0)])) := hS.new 3 rfl hN
  clear hN
  refine ⟨Stb.none _, ?_⟩
  refine rl_n rfl rfl rfl rfl (n_alloc info_32 ?_)
  intro g5 w4 hN
  replace hS : Sep w no O w4 (stl _ 4 (Res.box 32 g5 [(Value.int .i64 0)])) := hS.new 4 rfl hN
  clear hN
  refine ⟨Stb.none _, ?_⟩
  refine rl_end ?_
  refine wt_seq ?_
  refine wl_region wd_wide ?_
  refine rl_q rfl rfl rfl (v_loadn (vs := [(Value.int .i64 g), (Value.slice Ag lg cg)]) rfl Try.underlying24 rfl info_24 ⟨Row.cell (hS.bx 2 rfl) (i := 0) rfl, Row.cell (hS.bx 2 rfl) (i := 1) rfl, trivial⟩) ?_
  refine rl_q rfl rfl rfl (v_move (v := (Value.slice Ad ld cd)) rfl) ?_
  refine rl_n rfl rfl rfl rfl (n_call0 rfl (am2 rfl rfl) enter_30 ((pok_effective_Winnable h (no_lt _) (hS.rdr 0 rfl) (hS.rdr 1 rfl)).mono ?_))
  rintro _ w5 ⟨r, r2, r3, r4, Ar, lr, cr, Ar2, lr2, cr2, rfl, hC, h⟩
  replace hS := hS.call2 (hC.widen (flatS (flat_own (fI .i64) _ _ _ _ _) (flatS (flat_own (fI .i64) _ _ _ _ _) flat0)) hS.blt) 5 0 6 1 rfl rfl (by decide) (by decide)
  clear hC
  refine ⟨_, rfl, ?_⟩
  refine ⟨Stb.none _, ?_⟩
  refine rl_q rfl rfl rfl (v_move (v := (Value.tuple #[(Value.bool (r)), (Value.slice Ar lr cr), (Value.slice Ar2 lr2 cr2), (Value.int .i64 r4)])) rfl) ?_
  refine rl_q rfl rfl rfl (v_extract (v := (Value.bool (r))) rfl rfl) ?_
  refine rl_q rfl rfl rfl (v_extract (v := (Value.slice Ar lr cr)) rfl rfl) ?_
  refine rl_q rfl rfl rfl (v_extract (v := (Value.slice Ar2 lr2 cr2)) rfl rfl) ?_
  refine rl_q rfl rfl rfl (v_extract (v := (Value.int .i64 r4)) rfl rfl) ?_
  refine rl_q rfl rfl rfl (v_assign (v := (Value.bool (r))) rfl) ?_
  refine rl_q rfl rfl rfl (v_assign (v := (Value.slice Ar lr cr)) rfl) ?_
  refine rl_q rfl rfl rfl (v_assign (v := (Value.slice Ar2 lr2 cr2)) rfl) ?_
  refine rl_q rfl rfl rfl (v_assign (v := (Value.int .i64 r4)) rfl) ?_
  refine rl_end ?_
  refine wt_seq ?_
  refine wt_block ?_
  refine wt_seq ?_
  refine wl_region wd_wide ?_
  refine rl_q rfl rfl rfl (v_move (v := (Value.int .i64 r4)) rfl) ?_
  refine rl_q rfl rfl rfl (v_neq rfl rfl) ?_
  refine rl_q rfl rfl rfl (v_assign (v := (Value.bool (!(decide (r4 = 0))))) rfl) ?_
  refine rl_end ?_
  by_cases hp : r4 = 0
  · replace h := h.1 hp
    refine wt_cond_f (congrArg Value.bool (congrArg Bool.not (decide_eq_true hp))) ?_
    refine wt_seq ?_
    refine wl_region wd_wide ?_
    refine rl_q rfl rfl rfl (v_move (v := (Value.bool (r))) rfl) ?_
    refine rl_q rfl rfl rfl (v_assign (v := (Value.bool (r))) rfl) ?_
    refine rl_end ?_
    by_cases hp2 : r = true
    · replace h := h.1 hp2
      refine wt_cond_t (congrArg Value.bool hp2) ?_
      refine wt_seq ?_
      refine wl_region wd_wide ?_
      refine rl_n0 rfl rfl rfl (n_store (v := (Value.slice none 0 0)) rfl rfl rfl info_25 (hS.bwr 3 rfl (j := 0) rfl) ?_)
      intro w6 e1
      replace hS := hS.bst 3 rfl 0 (Value.slice none 0 0) e1
      clear e1
      refine ⟨Stb.none _, ?_⟩
      refine rl_n0 rfl rfl rfl (n_store (v := (Value.int .i64 15)) rfl rfl rfl info_32 (hS.bwr 4 rfl (j := 0) rfl) ?_)
      intro w7 e1
      replace hS := hS.bst 4 rfl 0 (Value.int .i64 15) e1
      clear e1
      refine ⟨Stb.none _, ?_⟩
      refine rl_end ?_
      replace hS := hS.nil 7 rfl cI 3
      exact wt_ret (q_retc2 (rs := []) hS 3 4 rfl rfl [] (by simp) (by decide) (by decide) (by simp) (by simp) rfl rfl rfl Try.underlying25 rfl Try.underlying32 rfl (fun w9 hk => ⟨_, _, _, _, _, rfl, (hS.unmark [] [7] (by decide) (by decide) (by simp) hk), h⟩))
    · replace h := h.2 hp2
      refine wt_cond_f (congrArg Value.bool (Bool.eq_false_iff.2 hp2)) ?_
      refine wt_skip ?_
      refine wt_inBlock ?_
      refine wt_seq ?_
      refine wl_region wd_wide ?_
      refine rl_n rfl rfl rfl rfl (n_alloc info_25 ?_)
      intro g6 w8 hN
      replace hS : Sep w no O w8 (stl _ 7 (Res.box 25 g6 [(Value.slice none 0 0)])) := hS.new 7 rfl hN
      clear hN
      refine ⟨Stb.none _, ?_⟩
      refine rl_end ?_
      refine wt_seq ?_
      refine wl_region wd_wide ?_
      refine rl_n rfl rfl rfl rfl (n_alloc info_3 ?_)
      intro g7 w9 hN
      replace hS : Sep w no O w9 (stl _ 8 (Res.box 3 g7 [(Value.int .i64 0)])) := hS.new 8 rfl hN
      clear hN
      refine ⟨Stb.none _, ?_⟩
      refine rl_n0 rfl rfl rfl (n_store (v := (Value.int .i64 0)) rfl rfl rfl info_3 (hS.bwr 8 rfl (j := 0) rfl) ?_)
      intro w10 e1
      replace hS := hS.bst 8 rfl 0 (Value.int .i64 0) e1
      clear e1
      refine ⟨Stb.none _, ?_⟩
      refine rl_end ?_
      refine wt_seq ?_
      refine wt_seq ?_
      refine wl_region wd_wide ?_
      refine rl_q rfl rfl rfl (v_loadn (vs := [(Value.int .i64 g), (Value.slice Ag lg cg)]) rfl Try.underlying24 rfl info_24 ⟨Row.cell (hS.bx 2 rfl) (i := 0) rfl, Row.cell (hS.bx 2 rfl) (i := 1) rfl, trivial⟩) ?_
      refine rl_q rfl rfl rfl (v_move (v := (Value.slice Ad ld cd)) rfl) ?_
      refine rl_n rfl rfl rfl rfl (n_call0 rfl (am2 rfl rfl) enter_78 ((pok_effective_prices h hS.blt (hS.ro 0 rfl) (hS.ro 1 rfl)).mono ?_))
      rintro _ w11 ⟨gc, gc2, rfl, hC, h⟩
      replace hS := hS.call2 hC 9 0 10 1 rfl rfl (by decide) (by decide)
      clear hC
      refine ⟨_, rfl, ?_⟩
      refine ⟨Stb.none _, ?_⟩
      refine rl_end ?_
      refine wt_block ?_
      replace hS := hS.nil 11 rfl cI 3
      obtain ⟨Pr, Rr, hgp, I2, h0, hb, h⟩ := h
      refine wt_iterS hS [3, 4, 7, 11, 8] [9, 0, 10, 1] (by decide) (by decide) ⟨.inl (by decide), .inr rfl, .inl (by decide), .inr rfl, trivial⟩ rfl enter_126 (val := (fun x : Int × Int => #[(Value.int .i64 x.1), (Value.int .i64 x.2)])) (pass := fun _ => FP.tt) (Pr := Pr) (R := Rr) (fun _ => rfl) rfl (fun pr LL => ∃ out : List Int, ∃ v : Int, ∃ Aout : Option Addr, ∃ lout : Nat, ∃ cout : Nat, I2 pr out v ∧ LL = [Res.box 25 g4 [(Value.slice none 0 0)], Res.box 32 g5 [(Value.int .i64 0)], Res.box 25 g6 [(Value.slice Aout lout cout)], Res.own cI 3 Aout lout cout out, Res.box 3 g7 [(Value.int .i64 v)]]) (fun c ys LL => c = none ∧ ∃ r7 : List Int, ∃ r8 : Int, ∃ Ar4 : Option Addr, ∃ lr4 : Nat, ∃ cr4 : Nat, LL = [Res.box 25 g4 [(Value.slice Ar4 lr4 cr4)], Res.box 32 g5 [(Value.int .i64 r8)], Res.own cI 3 Ar4 lr4 cr4 r7] ∧ R r7 r8) ⟨_, _, _, _, _, h0, rfl⟩ (fun T G hG => pok_effective_prices_1 hgp hG) ?_ ?_ ?_
      · clear h h0 hS hgp
        rintro ll rdy busy S O2 pre ⟨y, y2⟩ w12 _ ⟨out, v, Aout, lout, cout, hI, rfl⟩ hPr hpass hS
        have h := hb pre y y2 out v hI hPr
        clear hb hI hPr hpass
        refine wt_seq ?_
        refine wl_region (wd_round ll) ?_
        refine rl_q rfl rfl rfl (v_assign (v := (Value.int .i64 y)) rfl) ?_
        refine rl_end ?_
        refine wl_region (wd_round ll) ?_
        refine rl_q rfl rfl rfl (v_assign (v := (Value.int .i64 y2)) rfl) ?_
        refine rl_end ?_
        refine wt_nil fun a ra => ⟨rfl, _, _, ra, hS, ⟨5, rfl⟩, ?_⟩
        intro w14 hw
        replace hS := hS.flip 5 rfl busy hw
        clear hw ra a
        refine wt_block ?_
        refine wt_seq ?_
        refine wt_seq ?_
        refine wl_region (wd_round ll) ?_
        refine rl_q rfl rfl rfl (v_move (v := (Value.int .i64 y2)) rfl) ?_
        refine rl_q rfl rfl rfl (v_neq rfl rfl) ?_
        refine rl_end ?_
        by_cases hp3 : y2 = 0
        · replace h := h.1 hp3
          refine wt_cond_f (congrArg Value.bool (congrArg Bool.not (decide_eq_true hp3))) ?_
          refine wt_skip ?_
          refine wt_seq ?_
          refine wt_seq ?_
          refine wl_region (wd_round ll) ?_
          refine rl_q rfl rfl rfl (v_move (v := (Value.int .i64 y)) rfl) ?_
          refine rl_q rfl rfl rfl (v_eql rfl rfl) ?_
          refine rl_end ?_
          by_cases hp4 : y = 1
          · replace h := h.1 hp4
            refine wt_cond_t (congrArg Value.bool (decide_eq_true hp4)) ?_
            refine wl_region (wd_round ll) ?_
            refine rl_q rfl rfl rfl (v_load rfl Try.underlying25 rfl (Row.cell (hS.bx 2 rfl) (i := 0) rfl)) ?_
            refine rl_q rfl rfl rfl (v_load rfl Try.underlying3 rfl (Row.cell (hS.bx 4 rfl) (i := 0) rfl)) ?_
            refine rl_n rfl rfl rfl rfl (n_bslice (l := [(0, (Value.int .i64 v))]) (cells := [(Value.int .i64 v)]) (bp1 rfl) Try.underlying25 info_3 rfl rfl ?_)
            intro g8 w15 hN
            replace hS := hS.litf (n := 1) 6 rfl (fI .i64) hN ([v] : List Int) rfl (by decide) rfl
            clear hN
            refine ⟨Stb.none _, ?_⟩
            obtain ⟨hx, h⟩ := h
            refine rl_n rfl rfl rfl rfl (n_app (c := cI) rfl rfl Try.underlying25 Try.underlying25 info_3 rfl rfl (by decide) hS 3 rfl (hS.yo 6 rfl) hx ?_)
            clear hS
            intro A c w16 hS
            refine ⟨Stb.none _, ?_⟩
            refine rl_n0 rfl rfl rfl (n_store (v := (Value.slice A (lout + 1) c)) rfl rfl rfl info_25 (hS.bwr 2 rfl (j := 0) rfl) ?_)
            intro w17 e1
            replace hS := hS.bst 2 rfl 0 (Value.slice A (lout + 1) c) e1
            clear e1
            refine ⟨Stb.none _, ?_⟩
            refine rl_end ?_
            refine wl_region (wd_round ll) ?_
            refine rl_q rfl rfl rfl (v_load rfl Try.underlying3 rfl (Row.cell (hS.bx 4 rfl) (i := 0) rfl)) ?_
            obtain ⟨hi, h⟩ := h
            refine rl_q rfl rfl rfl (v_add rfl rfl hi) ?_
            refine rl_n0 rfl rfl rfl (n_store (v := (Value.int .i64 (v + 1))) rfl rfl rfl info_3 (hS.bwr 4 rfl (j := 0) rfl) ?_)
            intro w18 e1
            replace hS := hS.bst 4 rfl 0 (Value.int .i64 (v + 1)) e1
            clear e1
            refine ⟨Stb.none _, ?_⟩
            refine rl_end ?_
            refine wt_inBlock ?_
            exact wt_nil fun a r => ⟨_, ⟨_, _, _, _, _, h, rfl⟩, (hS.sel [0, 1, 2, 3, 4, 5] (by decide))⟩
          · replace h := h.2 hp4
            refine wt_cond_f (congrArg Value.bool (decide_eq_false hp4)) ?_
            refine wt_skip ?_
            refine wl_region (wd_round ll) ?_
            refine rl_q rfl rfl rfl (v_load rfl Try.underlying3 rfl (Row.cell (hS.bx 4 rfl) (i := 0) rfl)) ?_
            obtain ⟨hi2, h⟩ := h
            refine rl_q rfl rfl rfl (v_add rfl rfl hi2) ?_
            refine rl_n0 rfl rfl rfl (n_store (v := (Value.int .i64 (v + 1))) rfl rfl rfl info_3 (hS.bwr 4 rfl (j := 0) rfl) ?_)
            intro w19 e1
            replace hS := hS.bst 4 rfl 0 (Value.int .i64 (v + 1)) e1
            clear e1
            refine ⟨Stb.none _, ?_⟩
            refine rl_end ?_
            refine wt_inBlock ?_
            exact wt_nil fun a r => ⟨_, ⟨_, _, _, _, _, h, rfl⟩, (hS.sel [0, 1, 2, 3, 4, 5] (by decide))⟩
        · replace h := h.2 hp3
          refine wt_cond_t (congrArg Value.bool (congrArg Bool.not (decide_eq_false hp3))) ?_
          refine wt_seq ?_
          refine wl_region (wd_round ll) ?_
          refine rl_q rfl rfl rfl (v_move (v := (Value.int .i64 y2)) rfl) ?_
          refine rl_n0 rfl rfl rfl (n_store (v := (Value.slice none 0 0)) rfl rfl rfl info_25 (hS.bwr 0 rfl (j := 0) rfl) ?_)
          intro w20 e1
          replace hS := hS.bst 0 rfl 0 (Value.slice none 0 0) e1
          clear e1
          refine ⟨Stb.none _, ?_⟩
          refine rl_n0 rfl rfl rfl (n_store (v := (Value.int .i64 y2)) rfl rfl rfl info_32 (hS.bwr 1 rfl (j := 0) rfl) ?_)
          intro w21 e1
          replace hS := hS.bst 1 rfl 0 (Value.int .i64 y2) e1
          clear e1
          refine ⟨Stb.none _, ?_⟩
          refine rl_end ?_
          replace hS := hS.nil 6 rfl cI 3
          exact wt_ret fun a r => ⟨_, ⟨rfl, ([]), y2, none, 0, 0, rfl, h⟩, (hS.sel [0, 1, 6, 5] (by decide))⟩
      · clear hb h0 hS hgp
        rintro D ys w13 _ hRr ⟨out, v, Aout, lout, cout, hI, rfl⟩ hS
        replace h := h ys out v hI hRr
        clear hI hRr
        refine wt_inBlock ?_
        refine wt_seq ?_
        refine wl_region wd_wide ?_
        refine rl_q rfl rfl rfl (v_load rfl Try.underlying25 rfl (Row.cell (hS.bx 2 rfl) (i := 0) rfl)) ?_
        refine rl_n0 rfl rfl rfl (n_store (v := (Value.slice Aout lout cout)) rfl rfl rfl info_25 (hS.bwr 0 rfl (j := 0) rfl) ?_)
        intro w22 e1
        replace hS := hS.bst 0 rfl 0 (Value.slice Aout lout cout) e1
        clear e1
        refine ⟨Stb.none _, ?_⟩
        refine rl_n0 rfl rfl rfl (n_store (v := (Value.int .i64 0)) rfl rfl rfl info_32 (hS.bwr 1 rfl (j := 0) rfl) ?_)
        intro w23 e1
        replace hS := hS.bst 1 rfl 0 (Value.int .i64 0) e1
        clear e1
        refine ⟨Stb.none _, ?_⟩
        refine rl_end ?_
        exact wt_ret (q_retc2 (rs := [D]) hS 0 1 rfl rfl [5] (unmark1 5 rfl) (by decide) (by decide) (by simp) (hS.marked 5 rfl) rfl rfl rfl Try.underlying25 rfl Try.underlying32 rfl (fun w9 hk => ⟨_, _, _, _, _, rfl, (hS.unmark [5] [3] (by decide) (by decide) (unmark1 5 rfl) hk), h⟩))
      · clear h hb h0 hS hgp
        rintro D2 c ys W9 _ ⟨rfl, r7, r8, Ar4, lr4, cr4, rfl, h⟩ hS
        exact q_retc2 (rs := [D2]) hS 0 1 rfl rfl [3] (unmark1 3 rfl) (by decide) (by decide) (by simp) (hS.marked 3 rfl) rfl rfl rfl Try.underlying25 rfl Try.underlying32 rfl (fun w9 hk => ⟨_, _, _, _, _, rfl, (hS.unmark [3] [2] (by decide) (by decide) (unmark1 3 rfl) hk), h⟩)
  · replace h := h.2 hp
    refine wt_cond_t (congrArg Value.bool (congrArg Bool.not (decide_eq_false hp))) ?_
    refine wt_seq ?_
    refine wl_region wd_wide ?_
    refine rl_q rfl rfl rfl (v_move (v := (Value.int .i64 r4)) rfl) ?_
    refine rl_n0 rfl rfl rfl (n_store (v := (Value.slice none 0 0)) rfl rfl rfl info_25 (hS.bwr 3 rfl (j := 0) rfl) ?_)
    intro w24 e1
    replace hS := hS.bst 3 rfl 0 (Value.slice none 0 0) e1
    clear e1
    refine ⟨Stb.none _, ?_⟩
    refine rl_n0 rfl rfl rfl (n_store (v := (Value.int .i64 r4)) rfl rfl rfl info_32 (hS.bwr 4 rfl (j := 0) rfl) ?_)
    intro w25 e1
    replace hS := hS.bst 4 rfl 0 (Value.int .i64 r4) e1
    clear e1
    refine ⟨Stb.none _, ?_⟩
    refine rl_end ?_
    replace hS := hS.nil 7 rfl cI 3
    exact wt_ret (q_retc2 (rs := []) hS 3 4 rfl rfl [] (by simp) (by decide) (by decide) (by simp) (by simp) rfl rfl rfl Try.underlying25 rfl Try.underlying32 rfl (fun w9 hk => ⟨_, _, _, _, _, rfl, (hS.unmark [] [7] (by decide) (by decide) (by simp) hk), h⟩))

/-- sandpile/effective.led: what it computes. -/
def pf_effective_led (g : Int) (g2 : List (Int × Int × Int)) (d : List Int) (s : List Int) (R : (List Int) → Prop) : Prop :=
pf_slices_Clone_Divisor d (fun (r : List Int) =>
(∃ I2 : Nat → Int → (List Int) → Prop, (∃ m0, I2 m0 0 r) ∧ ∀ (m2 : Nat) (v : Int) (out : List Int), I2 m2 v out → 
((v < ((g2.length : Nat) : Int) →
((0 ≤ v ∧ v < ((g2.length : Nat) : Int)) ∧
((0 ≤ ((ge g2 v.toNat).1) ∧ ((ge g2 v.toNat).1) < ((s.length : Nat) : Int)) ∧
((0 ≤ ((ge g2 v.toNat).2.1) ∧ ((ge g2 v.toNat).2.1) < ((s.length : Nat) : Int)) ∧
(In64 ((gi s ((ge g2 v.toNat).1).toNat) - (gi s ((ge g2 v.toNat).2.1).toNat)) ∧
(In64 (((ge g2 v.toNat).2.2) * ((gi s ((ge g2 v.toNat).1).toNat) - (gi s ((ge g2 v.toNat).2.1).toNat))) ∧
((0 ≤ ((ge g2 v.toNat).1) ∧ ((ge g2 v.toNat).1) < ((out.length : Nat) : Int)) ∧
(In64 ((gi out ((ge g2 v.toNat).1).toNat) - (((ge g2 v.toNat).2.2) * ((gi s ((ge g2 v.toNat).1).toNat) - (gi s ((ge g2 v.toNat).2.1).toNat)))) ∧
((0 ≤ ((ge g2 v.toNat).2.1) ∧ ((ge g2 v.toNat).2.1) < (((out.set ((ge g2 v.toNat).1).toNat ((gi out ((ge g2 v.toNat).1).toNat) - (((ge g2 v.toNat).2.2) * ((gi s ((ge g2 v.toNat).1).toNat) - (gi s ((ge g2 v.toNat).2.1).toNat))))).length : Nat) : Int)) ∧
(In64 ((gi (out.set ((ge g2 v.toNat).1).toNat ((gi out ((ge g2 v.toNat).1).toNat) - (((ge g2 v.toNat).2.2) * ((gi s ((ge g2 v.toNat).1).toNat) - (gi s ((ge g2 v.toNat).2.1).toNat))))) ((ge g2 v.toNat).2.1).toNat) + (((ge g2 v.toNat).2.2) * ((gi s ((ge g2 v.toNat).1).toNat) - (gi s ((ge g2 v.toNat).2.1).toNat)))) ∧
(In64 (v + 1) ∧
∃ m3, m3 < m2 ∧ I2 m3 (v + 1) ((out.set ((ge g2 v.toNat).1).toNat ((gi out ((ge g2 v.toNat).1).toNat) - (((ge g2 v.toNat).2.2) * ((gi s ((ge g2 v.toNat).1).toNat) - (gi s ((ge g2 v.toNat).2.1).toNat))))).set ((ge g2 v.toNat).2.1).toNat ((gi (out.set ((ge g2 v.toNat).1).toNat ((gi out ((ge g2 v.toNat).1).toNat) - (((ge g2 v.toNat).2.2) * ((gi s ((ge g2 v.toNat).1).toNat) - (gi s ((ge g2 v.toNat).2.1).toNat))))) ((ge g2 v.toNat).2.1).toNat) + (((ge g2 v.toNat).2.2) * ((gi s ((ge g2 v.toNat).1).toNat) - (gi s ((ge g2 v.toNat).2.1).toNat)))))))))))))))) ∧
(¬ (v < ((g2.length : Nat) : Int)) →
R out))))
theorem pok_effective_led {O : Nat → Prop} {w : World} {g : Int} {g2 : List (Int × Int × Int)} {d : List Int} {s : List Int} {Ag : Option Addr} {lg : Nat} {cg : Nat} {Ad : Option Addr} {ld : Nat} {cd : Nat} {As : Option Addr} {ls : Nat} {cs : Nat} {R : (List Int) → Prop} (h : pf_effective_led g g2 d s R) (hO : ∀ k, O k → k < w.heap.size) (a0 : (FP.sl c3 Ag lg cg g2).P O w) (a1 : (FP.sl cI Ad ld cd d).P O w) (a2 : (FP.sl cI As ls cs s).P O w) :
    Calls Try.prog 114 #[(Value.agg #[(Value.int .i64 g), (Value.slice Ag lg cg)]), (Value.slice Ad ld cd), (Value.slice As ls cs)] w fun e w' => ∃ r2 : List Int, ∃ Ar2 : Option Addr, ∃ lr2 : Nat, ∃ cr2 : Nat, e = .returned (Value.slice Ar2 lr2 cr2) ∧ Sep w no O w' (rl [Res.own cI 3 Ar2 lr2 cr2 r2]) ∧ R r2 := by
  unfold pf_effective_led at h
  have hS : Sep w no O w (rl [Res.ro (FP.sl c3 Ag lg cg g2), Res.ro (FP.sl cI Ad ld cd d), Res.ro (FP.sl cI As ls cs s)]) := Sep.startl hO [(FP.sl c3 Ag lg cg g2), (FP.sl cI Ad ld cd d), (FP.sl cI As ls cs s)] ⟨a0, a1, a2, trivial⟩
  refine calls_sh (l := [(Value.agg #[(Value.int .i64 g), (Value.slice Ag lg cg)]), (Value.slice Ad ld cd), (Value.slice As ls cs)]) Try.func114 rfl Try.ntmps114 (Nat.le_of_ble_eq_true rfl) ?_
  refine wt_seq ?_
  refine wl_region wd_wide ?_
  refine rl_n rfl rfl rfl rfl (n_box (v := (Value.agg #[(Value.int .i64 g), (Value.slice Ag lg cg)])) rfl ?_)
  intro g3 w2 hN
  replace hS : Sep w no O w2 (stl _ 3 (Res.box 24 g3 [(Value.int .i64 g), (Value.slice Ag lg cg)])) := hS.new 3 rfl hN
  clear hN
  refine ⟨Stb.none _, ?_⟩
  refine rl_q rfl rfl rfl (v_assign (v := (Value.slice none 0 0)) rfl) ?_
  refine rl_end ?_
  refine wt_seq ?_
  refine wl_region wd_wide ?_
  refine rl_q rfl rfl rfl (v_move (v := (Value.slice Ad ld cd)) rfl) ?_
  refine rl_n rfl rfl rfl rfl (n_call0 rfl (am1 rfl) enter_31 ((pok_slices_Clone_Divisor h (no_lt _) (hS.rdr 1 rfl)).mono ?_))
  rintro _ w3 ⟨r, Ar, lr, cr, rfl, hC, h⟩
  replace hS := hS.call1 (hC.widen (flatS (flat_own (fI .i64) _ _ _ _ _) flat0) hS.blt) 4 0 rfl
  clear hC
  refine ⟨_, rfl, ?_⟩
  refine ⟨Stb.none _, ?_⟩
  refine rl_q rfl rfl rfl (v_assign (v := (Value.slice Ar lr cr)) rfl) ?_
  refine rl_end ?_
  refine wt_seq ?_
  refine wt_seq ?_
  refine wl_region wd_wide ?_
  refine rl_q rfl rfl rfl (v_faddr rfl Try.underlying24 rfl info_22) ?_
  refine rl_q rfl rfl rfl (v_load rfl Try.underlying22 rfl (Row.cell (hS.bx 3 rfl) (i := 1) rfl)) ?_
  refine rl_q rfl rfl rfl (v_lenx (n := g2.length) rfl Try.underlying22 (rd_len (hS.rdr 0 rfl))) ?_
  refine rl_q rfl rfl rfl (v_move (v := (Value.int .i64 0)) rfl) ?_
  refine rl_end ?_
  refine wt_block ?_
  obtain ⟨I2, ⟨m0, h0⟩, hr⟩ := h
  refine wt_loop (fun m E ds w' => ∃ v : Int, ∃ out : List Int, ∃ Aout : Option Addr, ∃ lout : Nat, ∃ cout : Nat, I2 m v out ∧ ds = [] ∧ E 2 = (Value.slice As ls cs) ∧ E 7 = (Value.slice Aout lout cout) ∧ E 14 = (Value.slice Ag lg cg) ∧ E 15 = (Value.int .i64 ((g2.length : Nat) : Int)) ∧ E 16 = (Value.int .i64 v) ∧ Sep w no O w' (rl [Res.ro (FP.sl cI As ls cs s), Res.own cI 3 Aout lout cout out, Res.ro (FP.sl c3 Ag lg cg g2)])) m0 ⟨_, _, _, _, _, h0, rfl, rfl, rfl, rfl, rfl, rfl, (hS.sel [2, 4, 0] (by decide))⟩ ?_
  clear h0 hS
  rintro m2 E ds w4 ⟨v, out, Aout, lout, cout, h, rfl, hE2, hE7, hE14, hE15, hE16, hS⟩ again
  replace h := hr m2 v out h
  clear hr
  refine wt_seq ?_
  refine wl_region wd_wide ?_
  refine rl_q rfl rfl rfl (v_lss hE16 hE15) ?_
  refine rl_end ?_
  refine wt_seq ?_
  by_cases hp : v < ((g2.length : Nat) : Int)
  · replace h := h.1 hp
    refine wt_cond_t (congrArg Value.bool (decide_eq_true hp)) ?_
    refine wt_skip ?_
    refine wt_seq ?_
    refine wt_block ?_
    refine wt_seq ?_
    refine wl_region wd_wide ?_
    obtain ⟨hx, h⟩ := h
    refine rl_q rfl rfl rfl (v_iaddr hE14 hE16 Try.underlying22 info_63 (rd_ix (hS.rdr 2 rfl) hx)) ?_
    refine rl_q rfl rfl rfl (v_loadn (vs := [(Value.int .i64 ((ge g2 v.toNat).1)), (Value.int .i64 ((ge g2 v.toNat).2.1)), (Value.int .i64 ((ge g2 v.toNat).2.2))]) rfl Try.underlying63 rfl info_63 (rd_fs (hS.rdr 2 rfl) hx (fun q => ge_some q))) ?_
    refine rl_n rfl rfl rfl rfl (n_alloc info_63 ?_)
    intro g4 w5 hN
    replace hS : Sep w no O w5 (stl _ 3 (Res.box 63 g4 [(Value.int .i64 0), (Value.int .i64 0), (Value.int .i64 0)])) := hS.new 3 rfl hN
    clear hN
    refine ⟨Stb.none _, ?_⟩
    refine rl_n0 rfl rfl rfl (n_storen (b := g4) (o := 0) (cells := #[(Value.int .i64 ((ge g2 v.toNat).1)), (Value.int .i64 ((ge g2 v.toNat).2.1)), (Value.int .i64 ((ge g2 v.toNat).2.2))]) rfl rfl info_63 rfl rfl (there_row (hS.bx 3 rfl) (Nat.le_of_ble_eq_true rfl)) ?_)
    intro w6 e1
    replace hS := hS.bstn 3 rfl 0 [(Value.int .i64 ((ge g2 v.toNat).1)), (Value.int .i64 ((ge g2 v.toNat).2.1)), (Value.int .i64 ((ge g2 v.toNat).2.2))] e1
    clear e1
    refine ⟨Stb.none _, ?_⟩
    refine rl_end ?_
    refine wt_seq ?_
    refine wp_draw [0, 1, 2, 3, 4, 5, 6, 7, 8, 9, 10, 11, 12, 13, 14] st0 wd_wide (by kernel_rfl) (by kernel_rfl) ?_
    replace hS := hS.drew
    refine rp_q rfl rfl rfl (v_faddr rfl Try.underlying63 rfl info_3) ?_
    refine rp_q rfl rfl rfl (v_load rfl Try.underlying3 rfl (Row.cell (hS.bx 3 rfl) (i := 2) rfl)) ?_
    refine rp_q rfl rfl rfl (v_move (v := (Value.slice As ls cs)) hE2) ?_
    refine rp_q rfl rfl rfl (v_faddr rfl Try.underlying63 rfl info_3) ?_
    refine rp_q rfl rfl rfl (v_load rfl Try.underlying3 rfl (Row.cell (hS.bx 3 rfl) (i := 0) rfl)) ?_
    obtain ⟨hx2, h⟩ := h
    refine rp_q rfl rfl rfl (v_iaddr rfl rfl Try.underlying27 info_3 (rd_ix (hS.rdr 0 rfl) hx2)) ?_
    refine rp_q rfl rfl rfl (v_load (v := (Value.int .i64 (gi s ((ge g2 v.toNat).1).toNat))) rfl Try.underlying3 rfl (rd_1 (hS.rdr 0 rfl) hx2 (fun q => gi_some q) rfl)) ?_
    refine rp_q rfl rfl rfl (v_move (v := (Value.slice As ls cs)) hE2) ?_
    refine rp_q rfl rfl rfl (v_faddr rfl Try.underlying63 rfl info_3) ?_
    refine rp_q rfl rfl rfl (v_load rfl Try.underlying3 rfl (Row.cell (hS.bx 3 rfl) (i := 1) rfl)) ?_
    obtain ⟨hx3, h⟩ := h
    refine rp_q rfl rfl rfl (v_iaddr rfl rfl Try.underlying27 info_3 (rd_ix (hS.rdr 0 rfl) hx3)) ?_
    refine rp_q rfl rfl rfl (v_load (v := (Value.int .i64 (gi s ((ge g2 v.toNat).2.1).toNat))) rfl Try.underlying3 rfl (rd_1 (hS.rdr 0 rfl) hx3 (fun q => gi_some q) rfl)) ?_
    obtain ⟨hi, h⟩ := h
    refine rp_q rfl rfl rfl (v_sub rfl rfl hi) ?_
    obtain ⟨hi2, h⟩ := h
    refine rp_q rfl rfl rfl (v_mul rfl rfl hi2) ?_
    refine rp_q rfl rfl rfl (v_assign (v := (Value.int .i64 (((ge g2 v.toNat).2.2) * ((gi s ((ge g2 v.toNat).1).toNat) - (gi s ((ge g2 v.toNat).2.1).toNat))))) rfl) ?_
    refine rp_end ?_
    refine wt_seq ?_
    refine wl_region wd_wide ?_
    refine rl_q rfl rfl rfl (v_move (v := (Value.slice Aout lout cout)) hE7) ?_
    refine rl_q rfl rfl rfl (v_faddr rfl Try.underlying63 rfl info_3) ?_
    refine rl_q rfl rfl rfl (v_load rfl Try.underlying3 rfl (Row.cell (hS.bx 3 rfl) (i := 0) rfl)) ?_
    obtain ⟨hx4, h⟩ := h
    refine rl_q rfl rfl rfl (v_iaddr rfl rfl Try.underlying26 info_3 (rd_ix (hS.rdo 1 rfl) hx4)) ?_
    refine rl_q rfl rfl rfl (v_load (v := (Value.int .i64 (gi out ((ge g2 v.toNat).1).toNat))) rfl Try.underlying3 rfl (rd_1 (hS.rdo 1 rfl) hx4 (fun q => gi_some q) rfl)) ?_
    refine rl_q rfl rfl rfl (v_move (v := (Value.int .i64 (((ge g2 v.toNat).2.2) * ((gi s ((ge g2 v.toNat).1).toNat) - (gi s ((ge g2 v.toNat).2.1).toNat))))) rfl) ?_
    obtain ⟨hi3, h⟩ := h
    refine rl_q rfl rfl rfl (v_sub rfl rfl hi3) ?_
    refine rl_q rfl rfl rfl (v_iaddr rfl rfl Try.underlying26 info_3 (rd_ix (hS.rdo 1 rfl) hx4)) ?_
    refine rl_n0 rfl rfl rfl (n_store (v := (Value.int .i64 ((gi out ((ge g2 v.toNat).1).toNat) - (((ge g2 v.toNat).2.2) * ((gi s ((ge g2 v.toNat).1).toNat) - (gi s ((ge g2 v.toNat).2.1).toNat)))))) rfl rfl rfl info_3 (hS.wr 1 rfl rfl hx4) ?_)
    intro w7 e1
    replace hS := hS.st 1 rfl rfl hx4 (x := (gi out ((ge g2 v.toNat).1).toNat) - (((ge g2 v.toNat).2.2) * ((gi s ((ge g2 v.toNat).1).toNat) - (gi s ((ge g2 v.toNat).2.1).toNat)))) rfl e1
    clear e1
    refine ⟨Stb.none _, ?_⟩
    refine rl_end ?_
    refine wl_region wd_wide ?_
    refine rl_q rfl rfl rfl (v_move (v := (Value.slice Aout lout cout)) hE7) ?_
    refine rl_q rfl rfl rfl (v_faddr rfl Try.underlying63 rfl info_3) ?_
    refine rl_q rfl rfl rfl (v_load rfl Try.underlying3 rfl (Row.cell (hS.bx 3 rfl) (i := 1) rfl)) ?_
    obtain ⟨hx5, h⟩ := h
    refine rl_q rfl rfl rfl (v_iaddr rfl rfl Try.underlying26 info_3 (rd_ix (hS.rdo 1 rfl) hx5)) ?_
    refine rl_q rfl rfl rfl (v_load (v := (Value.int .i64 (gi (out.set ((ge g2 v.toNat).1).toNat ((gi out ((ge g2 v.toNat).1).toNat) - (((ge g2 v.toNat).2.2) * ((gi s ((ge g2 v.toNat).1).toNat) - (gi s ((ge g2 v.toNat).2.1).toNat))))) ((ge g2 v.toNat).2.1).toNat))) rfl Try.underlying3 rfl (rd_1 (hS.rdo 1 rfl) hx5 (fun q => gi_some q) rfl)) ?_
    refine rl_q rfl rfl rfl (v_move (v := (Value.int .i64 (((ge g2 v.toNat).2.2) * ((gi s ((ge g2 v.toNat).1).toNat) - (gi s ((ge g2 v.toNat).2.1).toNat))))) rfl) ?_
    obtain ⟨hi4, h⟩ := h
    refine rl_q rfl rfl rfl (v_add rfl rfl hi4) ?_
    refine rl_q rfl rfl rfl (v_iaddr rfl rfl Try.underlying26 info_3 (rd_ix (hS.rdo 1 rfl) hx5)) ?_
    refine rl_n0 rfl rfl rfl (n_store (v := (Value.int .i64 ((gi (out.set ((ge g2 v.toNat).1).toNat ((gi out ((ge g2 v.toNat).1).toNat) - (((ge g2 v.toNat).2.2) * ((gi s ((ge g2 v.toNat).1).toNat) - (gi s ((ge g2 v.toNat).2.1).toNat))))) ((ge g2 v.toNat).2.1).toNat) + (((ge g2 v.toNat).2.2) * ((gi s ((ge g2 v.toNat).1).toNat) - (gi s ((ge g2 v.toNat).2.1).toNat)))))) rfl rfl rfl info_3 (hS.wr 1 rfl rfl hx5) ?_)
    intro w8 e1
    replace hS := hS.st 1 rfl rfl hx5 (x := (gi (out.set ((ge g2 v.toNat).1).toNat ((gi out ((ge g2 v.toNat).1).toNat) - (((ge g2 v.toNat).2.2) * ((gi s ((ge g2 v.toNat).1).toNat) - (gi s ((ge g2 v.toNat).2.1).toNat))))) ((ge g2 v.toNat).2.1).toNat) + (((ge g2 v.toNat).2.2) * ((gi s ((ge g2 v.toNat).1).toNat) - (gi s ((ge g2 v.toNat).2.1).toNat)))) rfl e1
    clear e1
    refine ⟨Stb.none _, ?_⟩
    refine rl_end ?_
    refine wt_inBlock ?_
    refine wl_region wd_wide ?_
    obtain ⟨hi5, h⟩ := h
    refine rl_q rfl rfl rfl (v_add hE16 rfl hi5) ?_
    refine rl_q rfl rfl rfl (v_move (v := (Value.int .i64 (v + 1))) rfl) ?_
    refine rl_end ?_
    obtain ⟨mq, hlt, h⟩ := h
    exact again mq _ _ _ ⟨_, _, _, _, _, h, rfl, hE2, hE7, hE14, hE15, rfl, (hS.sel [0, 1, 2] (by decide))⟩ hlt
  · replace h := h.2 hp
    refine wt_cond_f (congrArg Value.bool (decide_eq_false hp)) ?_
    refine wt_exit rfl ?_
    refine wt_seq ?_
    refine wl_region wd_wide ?_
    refine rl_q rfl rfl rfl (v_move (v := (Value.slice Aout lout cout)) hE7) ?_
    refine rl_q rfl rfl rfl (v_assign (v := (Value.slice Aout lout cout)) rfl) ?_
    refine rl_end ?_
    exact wt_ret1 rfl rfl ⟨_, _, _, _, rfl, (hS.sel [1] (by decide)), h⟩

/-- (sandpile/effective.proof).check: what it computes. -/
def pf_effective_proof_check (Fp : (List Int) → (Bool → Prop) → Prop) (g : Int) (g2 : List (Int × Int × Int)) (d : List Int) (s : List Int) (R : Int → Prop) : Prop :=
pf_firing_Check g g2 s (fun (r : Int) =>
((r = 0 →
pf_effective_led g g2 d s (fun (r2 : List Int) =>
Fp r2 (fun (r3 : Bool) =>
((r3 = true →
R 0) ∧
(¬ (r3 = true) →
R 16))))) ∧
(¬ (r = 0) →
R r)))
theorem pok_effective_proof_check {O : Nat → Prop} {w : World} {Fp : (List Int) → (Bool → Prop) → Prop} {g : Int} {g2 : List (Int × Int × Int)} {d : List Int} {s : List Int} {p : Value} {Ag : Option Addr} {lg : Nat} {cg : Nat} {Ad : Option Addr} {ld : Nat} {cd : Nat} {As : Option Addr} {ls : Nat} {cs : Nat} {R : Int → Prop} (h : pf_effective_proof_check Fp g g2 d s R) (hO : ∀ k, O k → k < w.heap.size) (a0 : (FP.st fun w' => ∃ (fid : Nat) (us : Array Value), p = Value.func (.func fid) #[] us ∧ Enters Try.prog fid ∧ ∀ (x0 : List Int) (Ax0 : Option Addr) (lx0 : Nat) (cx0 : Nat) (R : Bool → Prop), Fp x0 R → (FP.sl cI Ax0 lx0 cx0 x0).P no w' → Calls Try.prog fid (#[(Value.slice Ax0 lx0 cx0)] ++ us) w' fun e w'' => ∃ r0 : Bool, e = .returned (Value.bool (r0)) ∧ Sep w' no no w'' (rl []) ∧ R r0).P O w) (a1 : (FP.sl c3 Ag lg cg g2).P O w) (a2 : (FP.sl cI Ad ld cd d).P O w) (a3 : (FP.sl cI As ls cs s).P O w) :
    Calls Try.prog 63 #[(Value.agg #[p]), (Value.agg #[(Value.int .i64 g), (Value.slice Ag lg cg)]), (Value.slice Ad ld cd), (Value.slice As ls cs)] w fun e w' => ∃ r4 : Int, e = .returned (Value.int .i64 r4) ∧ Sep w no O w' (rl []) ∧ R r4 := by
  unfold pf_effective_proof_check at h
  have hS : Sep w no O w (rl [Res.ro (FP.st fun w' => ∃ (fid : Nat) (us : Array Value), p = Value.func (.func fid) #[] us ∧ Enters Try.prog fid ∧ ∀ (x0 : List Int) (Ax0 : Option Addr) (lx0 : Nat) (cx0 : Nat) (R : Bool → Prop), Fp x0 R → (FP.sl cI Ax0 lx0 cx0 x0).P no w' → Calls Try.prog fid (#[(Value.slice Ax0 lx0 cx0)] ++ us) w' fun e w'' => ∃ r0 : Bool, e = .returned (Value.bool (r0)) ∧ Sep w' no no w'' (rl []) ∧ R r0), Res.ro (FP.sl c3 Ag lg cg g2), Res.ro (FP.sl cI Ad ld cd d), Res.ro (FP.sl cI As ls cs s)]) := Sep.startl hO [(FP.st fun w' => ∃ (fid : Nat) (us : Array Value), p = Value.func (.func fid) #[] us ∧ Enters Try.prog fid ∧ ∀ (x0 : List Int) (Ax0 : Option Addr) (lx0 : Nat) (cx0 : Nat) (R : Bool → Prop), Fp x0 R → (FP.sl cI Ax0 lx0 cx0 x0).P no w' → Calls Try.prog fid (#[(Value.slice Ax0 lx0 cx0)] ++ us) w' fun e w'' => ∃ r0 : Bool, e = .returned (Value.bool (r0)) ∧ Sep w' no no w'' (rl []) ∧ R r0), (FP.sl c3 Ag lg cg g2), (FP.sl cI Ad ld cd d), (FP.sl cI As ls cs s)] ⟨a0, a1, a2, a3, trivial⟩
  refine calls_sh (l := [(Value.agg #[p]), (Value.agg #[(Value.int .i64 g), (Value.slice Ag lg cg)]), (Value.slice Ad ld cd), (Value.slice As ls cs)]) Try.func63 rfl Try.ntmps63 (Nat.le_of_ble_eq_true rfl) ?_
  refine wt_seq ?_
  refine wl_region wd_wide ?_
  refine rl_n rfl rfl rfl rfl (n_box (v := (Value.agg #[p])) rfl ?_)
  intro g3 w2 hN
  replace hS : Sep w no O w2 (stl _ 4 (Res.box 98 g3 [p])) := hS.new 4 rfl hN
  clear hN
  refine ⟨Stb.none _, ?_⟩
  refine rl_n rfl rfl rfl rfl (n_box (v := (Value.agg #[(Value.int .i64 g), (Value.slice Ag lg cg)])) rfl ?_)
  intro g4 w3 hN
  replace hS : Sep w no O w3 (stl _ 5 (Res.box 24 g4 [(Value.int .i64 g), (Value.slice Ag lg cg)])) := hS.new 5 rfl hN
  clear hN
  refine ⟨Stb.none _, ?_⟩
  refine rl_q rfl rfl rfl (v_assign (v := (Value.int .i64 0)) rfl) ?_
  refine rl_end ?_
  refine wt_seq ?_
  refine wt_seq ?_
  refine wl_region wd_wide ?_
  refine rl_q rfl rfl rfl (v_loadn (vs := [(Value.int .i64 g), (Value.slice Ag lg cg)]) rfl Try.underlying24 rfl info_24 ⟨Row.cell (hS.bx 5 rfl) (i := 0) rfl, Row.cell (hS.bx 5 rfl) (i := 1) rfl, trivial⟩) ?_
  refine rl_q rfl rfl rfl (v_move (v := (Value.slice As ls cs)) rfl) ?_
  refine rl_n rfl rfl rfl rfl (n_call0 rfl (am2 rfl rfl) enter_84 ((pok_firing_Check h (no_lt _) (hS.rdr 1 rfl) (hS.rdr 3 rfl)).mono ?_))
  rintro _ w4 ⟨r, rfl, hC, h⟩
  replace hS := hS.pur hC.pure
  clear hC
  refine ⟨_, rfl, ?_⟩
  refine ⟨Stb.none _, ?_⟩
  refine rl_q rfl rfl rfl (v_assign (v := (Value.int .i64 r)) rfl) ?_
  refine rl_end ?_
  refine wt_seq ?_
  refine wl_region wd_wide ?_
  refine rl_q rfl rfl rfl (v_move (v := (Value.int .i64 r)) rfl) ?_
  refine rl_q rfl rfl rfl (v_neq rfl rfl) ?_
  refine rl_end ?_
  by_cases hp : r = 0
  · replace h := h.1 hp
    refine wt_cond_f (congrArg Value.bool (congrArg Bool.not (decide_eq_true hp))) ?_
    refine wt_skip ?_
    refine wt_seq ?_
    refine wt_seq ?_
    refine wp_draw [0, 1, 2, 3, 4, 5, 6, 7] (fun i => match i with | 5 => [0, 1] | _ => []) wd_wide (by kernel_rfl) (by kernel_rfl) ?_
    replace hS := hS.drew
    refine rp_q rfl rfl rfl (v_faddr rfl Try.underlying98 rfl info_39) ?_
    refine rp_q rfl rfl rfl (v_load rfl Try.underlying39 rfl (Row.cell (hS.bx 4 rfl) (i := 0) rfl)) ?_
    refine rp_q rfl rfl rfl (v_loadn (vs := [(Value.int .i64 g), (Value.slice Ag lg cg)]) rfl Try.underlying24 rfl info_24 ⟨Row.cell (hS.bx 5 rfl) (i := 0) rfl, Row.cell (hS.bx 5 rfl) (i := 1) rfl, trivial⟩) ?_
    refine rp_q rfl rfl rfl (v_move (v := (Value.slice Ad ld cd)) rfl) ?_
    refine rp_q rfl rfl rfl (v_move (v := (Value.slice As ls cs)) rfl) ?_
    refine rp_n rfl rfl rfl rfl (n_call0 rfl (am3 rfl rfl rfl) enter_114 ((pok_effective_led h (no_lt _) (hS.rdr 1 rfl) (hS.rdr 2 rfl) (hS.rdr 3 rfl)).mono ?_))
    rintro _ w5 ⟨r2, Ar, lr, cr, rfl, hC, h⟩
    replace hS := hS.call1 (hC.widen (flatS (flat_own (fI .i64) _ _ _ _ _) flat0) hS.blt) 6 0 rfl
    clear hC
    refine ⟨_, rfl, ?_⟩
    refine ⟨⟨fun hh => Bool.noConfusion (show false = true from hh), ⟨fun hh => Bool.noConfusion (show false = true from hh), ⟨fun hh => Bool.noConfusion (show false = true from hh), ⟨fun _ => (v_load rfl Try.underlying39 rfl (Row.cell (hS.bx 4 rfl) (i := 0) rfl)), ⟨fun _ => (v_faddr rfl Try.underlying98 rfl info_39), trivial⟩⟩⟩⟩⟩, ?_⟩
    obtain ⟨fid, us, hf, he, hcl⟩ := hS.ro 0 rfl _ (Keeps.refl _ _)
    replace h := hcl _ _ _ _ _ h (hS.rdo 6 rfl)
    clear hcl
    refine rp_n rfl rfl rfl rfl (n_call (hf) (am1 rfl) he (h.mono ?_))
    clear hf he
    rintro _ w6 ⟨r3, rfl, hC, h⟩
    replace hS := hS.pur hC.pure
    clear hC
    refine ⟨_, rfl, ?_⟩
    refine ⟨Stb.none _, ?_⟩
    refine rp_q rfl rfl rfl (v_not rfl) ?_
    refine rp_end ?_
    by_cases hp2 : r3 = true
    · replace h := h.1 hp2
      refine wt_cond_f (congrArg Value.bool (congrArg Bool.not hp2)) ?_
      refine wt_skip ?_
      refine wt_seq ?_
      refine wl_region wd_wide ?_
      refine rl_q rfl rfl rfl (v_assign (v := (Value.int .i64 0)) rfl) ?_
      refine rl_end ?_
      exact wt_ret1 rfl rfl ⟨_, rfl, (hS.sel [] (by decide)), h⟩
    · replace h := h.2 hp2
      refine wt_cond_t (congrArg Value.bool (congrArg Bool.not (Bool.eq_false_iff.2 hp2))) ?_
      refine wt_seq ?_
      refine wl_region wd_wide ?_
      refine rl_q rfl rfl rfl (v_assign (v := (Value.int .i64 16)) rfl) ?_
      refine rl_end ?_
      exact wt_ret1 rfl rfl ⟨_, rfl, (hS.sel [] (by decide)), h⟩
  · replace h := h.2 hp
    refine wt_cond_t (congrArg Value.bool (congrArg Bool.not (decide_eq_false hp))) ?_
    refine wt_seq ?_
    refine wl_region wd_wide ?_
    refine rl_q rfl rfl rfl (v_move (v := (Value.int .i64 r)) rfl) ?_
    refine rl_q rfl rfl rfl (v_assign (v := (Value.int .i64 r)) rfl) ?_
    refine rl_end ?_
    exact wt_ret1 rfl rfl ⟨_, rfl, (hS.sel [] (by decide)), h⟩

/-- sandpile/effective.paid: what it computes. -/
def pf_effective_paid_v2 (d : List Int) (R : Bool → Prop) : Prop :=
pf_slices_Min_Divisor d (fun (r : Int) =>
R (decide (0 ≤ r)))
theorem pok_effective_paid_v2 {O : Nat → Prop} {w : World} {d : List Int} {Ad : Option Addr} {ld : Nat} {cd : Nat} {R : Bool → Prop} (h : pf_effective_paid_v2 d R) (hO : ∀ k, O k → k < w.heap.size) (a0 : (FP.sl cI Ad ld cd d).P O w) :
    Calls Try.prog 62 #[(Value.slice Ad ld cd)] w fun e w' => ∃ r2 : Bool, e = .returned (Value.bool (r2)) ∧ Sep w no O w' (rl []) ∧ R r2 := by
  unfold pf_effective_paid_v2 at h
  have hS : Sep w no O w (rl [Res.ro (FP.sl cI Ad ld cd d)]) := Sep.startl hO [(FP.sl cI Ad ld cd d)] ⟨a0, trivial⟩
  refine calls_sh (l := [(Value.slice Ad ld cd)]) Try.func62 rfl Try.ntmps62 (Nat.le_of_ble_eq_true rfl) ?_
  refine wt_seq ?_
  refine wl_region wd_wide ?_
  refine rl_q rfl rfl rfl (v_assign (v := (Value.bool (false))) rfl) ?_
  refine rl_end ?_
  refine wt_seq ?_
  refine wl_region wd_wide ?_
  refine rl_q rfl rfl rfl (v_move (v := (Value.slice Ad ld cd)) rfl) ?_
  refine rl_n rfl rfl rfl rfl (n_call0 rfl (am1 rfl) enter_105 ((pok_slices_Min_Divisor h (no_lt _) (hS.rdr 0 rfl)).mono ?_))
  rintro _ w2 ⟨r, rfl, hC, h⟩
  replace hS := hS.pur hC.pure
  clear hC
  refine ⟨_, rfl, ?_⟩
  refine ⟨Stb.none _, ?_⟩
  refine rl_q rfl rfl rfl (v_geq rfl rfl) ?_
  refine rl_q rfl rfl rfl (v_assign (v := (Value.bool (decide (0 ≤ r)))) rfl) ?_
  refine rl_end ?_
  exact wt_ret1 rfl rfl ⟨_, rfl, (hS.sel [] (by decide)), h⟩

/-- sandpile/effective.VerifyWin: what it computes. -/
def pf_effective_VerifyWin (g : Int) (g2 : List (Int × Int × Int)) (d : List Int) (s : List Int) (R : Int → Prop) : Prop :=
pf_effective_given g g2 d (fun (r : Int) =>
((r = 0 →
pf_effective_proof_check (fun x R => pf_effective_paid_v2 x R) g g2 d s (fun (r2 : Int) =>
R r2)) ∧
(¬ (r = 0) →
R r)))
theorem pok_effective_VerifyWin {O : Nat → Prop} {w : World} {g : Int} {g2 : List (Int × Int × Int)} {d : List Int} {s : List Int} {Ag : Option Addr} {lg : Nat} {cg : Nat} {Ad : Option Addr} {ld : Nat} {cd : Nat} {As : Option Addr} {ls : Nat} {cs : Nat} {R : Int → Prop} (h : pf_effective_VerifyWin g g2 d s R) (hO : ∀ k, O k → k < w.heap.size) (a0 : (FP.sl c3 Ag lg cg g2).P O w) (a1 : (FP.sl cI Ad ld cd d).P O w) (a2 : (FP.sl cI As ls cs s).P O w) :
    Calls Try.prog 18 #[(Value.agg #[(Value.int .i64 g), (Value.slice Ag lg cg)]), (Value.slice Ad ld cd), (Value.slice As ls cs)] w fun e w' => ∃ r3 : Int, e = .returned (Value.int .i64 r3) ∧ Sep w no O w' (rl []) ∧ R r3 := by
  unfold pf_effective_VerifyWin at h
  have hS : Sep w no O w (rl [Res.ro (FP.sl c3 Ag lg cg g2), Res.ro (FP.sl cI Ad ld cd d), Res.ro (FP.sl cI As ls cs s)]) := Sep.startl hO [(FP.sl c3 Ag lg cg g2), (FP.sl cI Ad ld cd d), (FP.sl cI As ls cs s)] ⟨a0, a1, a2, trivial⟩
  refine calls_sh (l := [(Value.agg #[(Value.int .i64 g), (Value.slice Ag lg cg)]), (Value.slice Ad ld cd), (Value.slice As ls cs)]) Try.func18 rfl Try.ntmps18 (Nat.le_of_ble_eq_true rfl) ?_
  refine wt_seq ?_
  refine wl_region wd_wide ?_
  refine rl_n rfl rfl rfl rfl (n_box (v := (Value.agg #[(Value.int .i64 g), (Value.slice Ag lg cg)])) rfl ?_)
  intro g3 w2 hN
  replace hS : Sep w no O w2 (stl _ 3 (Res.box 24 g3 [(Value.int .i64 g), (Value.slice Ag lg cg)])) := hS.new 3 rfl hN
  clear hN
  refine ⟨Stb.none _, ?_⟩
  refine rl_q rfl rfl rfl (v_assign (v := (Value.int .i64 0)) rfl) ?_
  refine rl_end ?_
  refine wt_seq ?_
  refine wt_seq ?_
  refine wl_region wd_wide ?_
  refine rl_q rfl rfl rfl (v_loadn (vs := [(Value.int .i64 g), (Value.slice Ag lg cg)]) rfl Try.underlying24 rfl info_24 ⟨Row.cell (hS.bx 3 rfl) (i := 0) rfl, Row.cell (hS.bx 3 rfl) (i := 1) rfl, trivial⟩) ?_
  refine rl_q rfl rfl rfl (v_move (v := (Value.slice Ad ld cd)) rfl) ?_
  refine rl_n rfl rfl rfl rfl (n_call0 rfl (am2 rfl rfl) enter_61 ((pok_effective_given h (no_lt _) (hS.rdr 0 rfl) (hS.rdr 1 rfl)).mono ?_))
  rintro _ w3 ⟨r, rfl, hC, h⟩
  replace hS := hS.pur hC.pure
  clear hC
  refine ⟨_, rfl, ?_⟩
  refine ⟨Stb.none _, ?_⟩
  refine rl_q rfl rfl rfl (v_assign (v := (Value.int .i64 r)) rfl) ?_
  refine rl_end ?_
  refine wt_seq ?_
  refine wl_region wd_wide ?_
  refine rl_q rfl rfl rfl (v_move (v := (Value.int .i64 r)) rfl) ?_
  refine rl_q rfl rfl rfl (v_neq rfl rfl) ?_
  refine rl_end ?_
  by_cases hp : r = 0
  · replace h := h.1 hp
    refine wt_cond_f (congrArg Value.bool (congrArg Bool.not (decide_eq_true hp))) ?_
    refine wt_skip ?_
    refine wt_seq ?_
    refine wl_region wd_wide ?_
    refine rl_n rfl rfl rfl rfl (n_build (l := [(0, (Value.func (Fn.func 62) #[] #[]))]) (cells := [(Value.func (Fn.func 62) #[] #[])]) (places := [(0, 1)]) (bp1 rfl) Try.underlying98 info_98 (by kernel_rfl) rfl ?_)
    refine ⟨Stb.none _, ?_⟩
    refine rl_q rfl rfl rfl (v_loadn (vs := [(Value.int .i64 g), (Value.slice Ag lg cg)]) rfl Try.underlying24 rfl info_24 ⟨Row.cell (hS.bx 3 rfl) (i := 0) rfl, Row.cell (hS.bx 3 rfl) (i := 1) rfl, trivial⟩) ?_
    refine rl_q rfl rfl rfl (v_move (v := (Value.slice Ad ld cd)) rfl) ?_
    refine rl_q rfl rfl rfl (v_move (v := (Value.slice As ls cs)) rfl) ?_
    refine rl_n rfl rfl rfl rfl (n_call0 rfl (am4 rfl rfl rfl rfl) enter_63 ((pok_effective_proof_check h (no_lt _) (fun w' hk => ⟨62, #[], rfl, enter_62, fun x Ax lx cx R hF hz0 => cast_calls (by simp) (pok_effective_paid_v2 hF (no_lt _) hz0)⟩) (hS.rdr 0 rfl) (hS.rdr 1 rfl) (hS.rdr 2 rfl)).mono ?_))
    rintro _ w4 ⟨r2, rfl, hC, h⟩
    replace hS := hS.pur hC.pure
    clear hC
    refine ⟨_, rfl, ?_⟩
    refine ⟨Stb.none _, ?_⟩
    refine rl_q rfl rfl rfl (v_assign (v := (Value.int .i64 r2)) rfl) ?_
    refine rl_end ?_
    exact wt_ret1 rfl rfl ⟨_, rfl, (hS.sel [] (by decide)), h⟩
  · replace h := h.2 hp
    refine wt_cond_t (congrArg Value.bool (congrArg Bool.not (decide_eq_false hp))) ?_
    refine wt_seq ?_
    refine wl_region wd_wide ?_
    refine rl_q rfl rfl rfl (v_move (v := (Value.int .i64 r)) rfl) ?_
    refine rl_q rfl rfl rfl (v_assign (v := (Value.int .i64 r)) rfl) ?_
    refine rl_end ?_
    exact wt_ret1 rfl rfl ⟨_, rfl, (hS.sel [] (by decide)), h⟩

/-- sandpile/effective.VerifyLoss$1: what it computes. -/
def pf_effective_VerifyLoss_1_v2 (x : List Int) (cap : Int) (cap2 : Int) (cap3 : List (Int × Int × Int)) (R : Bool → (List Int) → Prop) : Prop :=
((0 ≤ cap ∧ cap < ((x.length : Nat) : Int)) ∧
pf_reduced_IsReduced cap2 cap3 cap (x.set cap.toNat 0) (fun (r : Bool) (r2 : Int) =>
(((gi x cap.toNat) < 0 →
((r = true →
R (decide (r2 = 0)) (x.set cap.toNat 0)) ∧
(¬ (r = true) →
R false (x.set cap.toNat 0)))) ∧
(¬ ((gi x cap.toNat) < 0) →
R false (x.set cap.toNat 0)))))
theorem pok_effective_VerifyLoss_1_v2 {S O : Nat → Prop} {w : World} {x : List Int} {cap : Int} {cap2 : Int} {cap3 : List (Int × Int × Int)} {Ax : Option Addr} {lx : Nat} {cx : Nat} {gc : Nat} {gc2 : Nat} {Acap : Option Addr} {lcap : Nat} {ccap : Nat} {R : Bool → (List Int) → Prop} (h : pf_effective_VerifyLoss_1_v2 x cap cap2 cap3 R) (hS : Sep w S O w (rl [Res.own cI 3 Ax lx cx x, Res.box 3 gc [(Value.int .i64 cap)], Res.box 24 gc2 [(Value.int .i64 cap2), (Value.slice Acap lcap ccap)], Res.ro (FP.sl c3 Acap lcap ccap cap3)])) :
    Calls Try.prog 69 #[(Value.slice Ax lx cx), (Value.pointer (some (⟨gc, 0, none⟩ : Addr))), (Value.pointer (some (⟨gc2, 0, none⟩ : Addr)))] w fun e w' => ∃ r3 : Bool, ∃ z : List Int, ∃ Az : Option Addr, ∃ lz : Nat, ∃ cz : Nat, e = .returned (Value.bool (r3)) ∧ Sep w S O w' (rl [Res.own cI 3 Az lz cz z, Res.box 3 gc [(Value.int .i64 cap)], Res.box 24 gc2 [(Value.int .i64 cap2), (Value.slice Acap lcap ccap)]]) ∧ R r3 z := by
  unfold pf_effective_VerifyLoss_1_v2 at h
  refine calls_sh (l := [(Value.slice Ax lx cx), (Value.pointer (some (⟨gc, 0, none⟩ : Addr))), (Value.pointer (some (⟨gc2, 0, none⟩ : Addr)))]) Try.func69 rfl Try.ntmps69 (Nat.le_of_ble_eq_true rfl) ?_
  refine wt_seq ?_
  refine wl_region wd_wide ?_
  refine rl_q rfl rfl rfl (v_assign (v := (Value.bool (false))) rfl) ?_
  refine rl_end ?_
  refine wt_seq ?_
  refine wl_region wd_wide ?_
  refine rl_q rfl rfl rfl (v_move (v := (Value.slice Ax lx cx)) rfl) ?_
  refine rl_q rfl rfl rfl (v_load rfl Try.underlying3 rfl (Row.cell (hS.bx 1 rfl) (i := 0) rfl)) ?_
  obtain ⟨hx, h⟩ := h
  refine rl_q rfl rfl rfl (v_iaddr rfl rfl Try.underlying26 info_3 (rd_ix (hS.rdo 0 rfl) hx)) ?_
  refine rl_q rfl rfl rfl (v_load (v := (Value.int .i64 (gi x cap.toNat))) rfl Try.underlying3 rfl (rd_1 (hS.rdo 0 rfl) hx (fun q => gi_some q) rfl)) ?_
  refine rl_q rfl rfl rfl (v_lss rfl rfl) ?_
  refine rl_q rfl rfl rfl (v_assign (v := (Value.bool (decide ((gi x cap.toNat) < 0)))) rfl) ?_
  refine rl_end ?_
  refine wt_seq ?_
  refine wl_region wd_wide ?_
  refine rl_q rfl rfl rfl (v_move (v := (Value.slice Ax lx cx)) rfl) ?_
  refine rl_q rfl rfl rfl (v_load rfl Try.underlying3 rfl (Row.cell (hS.bx 1 rfl) (i := 0) rfl)) ?_
  refine rl_q rfl rfl rfl (v_iaddr rfl rfl Try.underlying26 info_3 (rd_ix (hS.rdo 0 rfl) hx)) ?_
  refine rl_n0 rfl rfl rfl (n_store (v := (Value.int .i64 0)) rfl rfl rfl info_3 (hS.wr 0 rfl rfl hx) ?_)
  intro w2 e1
  replace hS := hS.st 0 rfl rfl hx (x := 0) rfl e1
  clear e1
  refine ⟨Stb.none _, ?_⟩
  refine rl_end ?_
  refine wt_seq ?_
  refine wl_region wd_wide ?_
  refine rl_q rfl rfl rfl (v_loadn (vs := [(Value.int .i64 cap2), (Value.slice Acap lcap ccap)]) rfl Try.underlying24 rfl info_24 ⟨Row.cell (hS.bx 2 rfl) (i := 0) rfl, Row.cell (hS.bx 2 rfl) (i := 1) rfl, trivial⟩) ?_
  refine rl_q rfl rfl rfl (v_load rfl Try.underlying3 rfl (Row.cell (hS.bx 1 rfl) (i := 0) rfl)) ?_
  refine rl_q rfl rfl rfl (v_move (v := (Value.slice Ax lx cx)) rfl) ?_
  refine rl_n rfl rfl rfl rfl (n_call0 rfl (am3 rfl rfl rfl) enter_68 ((pok_reduced_IsReduced h (no_lt _) (hS.rdr 3 rfl) (hS.rdo 0 rfl)).mono ?_))
  rintro _ w3 ⟨r, r2, rfl, hC, h⟩
  replace hS := hS.pur hC.pure
  clear hC
  refine ⟨_, rfl, ?_⟩
  refine ⟨Stb.none _, ?_⟩
  refine rl_q rfl rfl rfl (v_move (v := (Value.tuple #[(Value.bool (r)), (Value.int .i64 r2)])) rfl) ?_
  refine rl_q rfl rfl rfl (v_extract (v := (Value.bool (r))) rfl rfl) ?_
  refine rl_q rfl rfl rfl (v_extract (v := (Value.int .i64 r2)) rfl rfl) ?_
  refine rl_q rfl rfl rfl (v_assign (v := (Value.bool (r))) rfl) ?_
  refine rl_q rfl rfl rfl (v_assign (v := (Value.int .i64 r2)) rfl) ?_
  refine rl_end ?_
  refine wt_seq ?_
  refine wl_region wd_wide ?_
  refine rl_q rfl rfl rfl (v_move (v := (Value.bool (decide ((gi x cap.toNat) < 0)))) rfl) ?_
  refine rl_q rfl rfl rfl (v_move (v := (Value.bool (decide ((gi x cap.toNat) < 0)))) rfl) ?_
  by_cases hp : (gi x cap.toNat) < 0
  · replace h := h.1 hp
    refine rl_q (wanted_g rfl (yE_of rfl (congrArg Value.bool (decide_eq_true hp)))) rfl rfl (v_move (v := (Value.bool (r))) rfl) ?_
    refine rl_q rfl rfl rfl (v_pick_t (v := (Value.bool (r))) (congrArg Value.bool (decide_eq_true hp)) rfl) ?_
    refine rl_q rfl rfl rfl (v_move (v := (Value.bool (r))) rfl) ?_
    by_cases hp2 : r = true
    · replace h := h.1 hp2
      refine rl_q (wanted_g rfl (yE_of rfl (congrArg Value.bool hp2))) rfl rfl (v_move (v := (Value.int .i64 r2)) rfl) ?_
      refine rl_q (wanted_g rfl (yE_of rfl (congrArg Value.bool hp2))) rfl rfl (v_eql rfl rfl) ?_
      refine rl_q rfl rfl rfl (v_pick_t (v := (Value.bool (decide (r2 = 0)))) (congrArg Value.bool hp2) rfl) ?_
      refine rl_q rfl rfl rfl (v_assign (v := (Value.bool (decide (r2 = 0)))) rfl) ?_
      refine rl_end ?_
      exact wt_ret1 rfl rfl ⟨_, _, _, _, _, rfl, (hS.sel [0, 1, 2] (by decide)), h⟩
    · replace h := h.2 hp2
      refine rl_p (wanted_n rfl (yE_of rfl (congrArg Value.bool (Bool.eq_false_iff.2 hp2))) rfl) rfl ?_
      refine rl_p (wanted_n rfl (yE_of rfl (congrArg Value.bool (Bool.eq_false_iff.2 hp2))) rfl) rfl ?_
      refine rl_q rfl rfl rfl (v_pick_f (v := (Value.bool (false))) (congrArg Value.bool (Bool.eq_false_iff.2 hp2)) rfl) ?_
      refine rl_q rfl rfl rfl (v_assign (v := (Value.bool (false))) rfl) ?_
      refine rl_end ?_
      exact wt_ret1 rfl rfl ⟨_, _, _, _, _, rfl, (hS.sel [0, 1, 2] (by decide)), h⟩
  · replace h := h.2 hp
    refine rl_p (wanted_n rfl (yE_of rfl (congrArg Value.bool (decide_eq_false hp))) rfl) rfl ?_
    refine rl_q rfl rfl rfl (v_pick_f (v := (Value.bool (false))) (congrArg Value.bool (decide_eq_false hp)) rfl) ?_
    refine rl_q rfl rfl rfl (v_move (v := (Value.bool (false))) rfl) ?_
    refine rl_p (wanted_n rfl (yE_of rfl rfl) rfl) rfl ?_
    refine rl_p (wanted_n rfl (yE_of rfl rfl) rfl) rfl ?_
    refine rl_q rfl rfl rfl (v_pick_f (v := (Value.bool (false))) rfl rfl) ?_
    refine rl_q rfl rfl rfl (v_assign (v := (Value.bool (false))) rfl) ?_
    refine rl_end ?_
    exact wt_ret1 rfl rfl ⟨_, _, _, _, _, rfl, (hS.sel [0, 1, 2] (by decide)), h⟩

/-- (sandpile/effective.proof).check: what it computes. -/
def pf_effective_proof_check_v2 (p : Int) (p2 : Int) (p3 : List (Int × Int × Int)) (g : Int) (g2 : List (Int × Int × Int)) (d : List Int) (s : List Int) (R : Int → Prop) : Prop :=
pf_firing_Check g g2 s (fun (r : Int) =>
((r = 0 →
pf_effective_led g g2 d s (fun (r2 : List Int) =>
pf_effective_VerifyLoss_1_v2 r2 p p2 p3 (fun (r3 : Bool) (y : List Int) =>
((r3 = true →
R 0) ∧
(¬ (r3 = true) →
R 16))))) ∧
(¬ (r = 0) →
R r)))
theorem pok_effective_proof_check_v2 {S O : Nat → Prop} {w : World} {p : Int} {p2 : Int} {p3 : List (Int × Int × Int)} {g : Int} {g2 : List (Int × Int × Int)} {d : List Int} {s : List Int} {gc : Nat} {gc2 : Nat} {Ap : Option Addr} {lp : Nat} {cp : Nat} {Ag : Option Addr} {lg : Nat} {cg : Nat} {Ad : Option Addr} {ld : Nat} {cd : Nat} {As : Option Addr} {ls : Nat} {cs : Nat} {R : Int → Prop} (h : pf_effective_proof_check_v2 p p2 p3 g g2 d s R) (hS : Sep w S O w (rl [Res.box 3 gc [(Value.int .i64 p)], Res.box 24 gc2 [(Value.int .i64 p2), (Value.slice Ap lp cp)], Res.ro (FP.sl c3 Ap lp cp p3), Res.ro (FP.sl c3 Ag lg cg g2), Res.ro (FP.sl cI Ad ld cd d), Res.ro (FP.sl cI As ls cs s)])) :
    Calls Try.prog 63 #[(Value.agg #[(Value.func (Fn.func 69) #[] #[(Value.pointer (some (⟨gc, 0, none⟩ : Addr))), (Value.pointer (some (⟨gc2, 0, none⟩ : Addr)))])]), (Value.agg #[(Value.int .i64 g), (Value.slice Ag lg cg)]), (Value.slice Ad ld cd), (Value.slice As ls cs)] w fun e w' => ∃ r4 : Int, e = .returned (Value.int .i64 r4) ∧ Sep w S O w' (rl [Res.box 3 gc [(Value.int .i64 p)], Res.box 24 gc2 [(Value.int .i64 p2), (Value.slice Ap lp cp)]]) ∧ R r4 := by
  unfold pf_effective_proof_check_v2 at h
  refine calls_sh (l := [(Value.agg #[(Value.func (Fn.func 69) #[] #[(Value.pointer (some (⟨gc, 0, none⟩ : Addr))), (Value.pointer (some (⟨gc2, 0, none⟩ : Addr)))])]), (Value.agg #[(Value.int .i64 g), (Value.slice Ag lg cg)]), (Value.slice Ad ld cd), (Value.slice As ls cs)]) Try.func63 rfl Try.ntmps63 (Nat.le_of_ble_eq_true rfl) ?_
  refine wt_seq ?_
  refine wl_region wd_wide ?_
  refine rl_n rfl rfl rfl rfl (n_box (v := (Value.agg #[(Value.func (Fn.func 69) #[] #[(Value.pointer (some (⟨gc, 0, none⟩ : Addr))), (Value.pointer (some (⟨gc2, 0, none⟩ : Addr)))])])) rfl ?_)
  intro g3 w2 hN
  replace hS : Sep w S O w2 (stl _ 6 (Res.box 98 g3 [(Value.func (Fn.func 69) #[] #[(Value.pointer (some (⟨gc, 0, none⟩ : Addr))), (Value.pointer (some (⟨gc2, 0, none⟩ : Addr)))])])) := hS.new 6 rfl hN
  clear hN
  refine ⟨Stb.none _, ?_⟩
  refine rl_n rfl rfl rfl rfl (n_box (v := (Value.agg #[(Value.int .i64 g), (Value.slice Ag lg cg)])) rfl ?_)
  intro g4 w3 hN
  replace hS : Sep w S O w3 (stl _ 7 (Res.box 24 g4 [(Value.int .i64 g), (Value.slice Ag lg cg)])) := hS.new 7 rfl hN
  clear hN
  refine ⟨Stb.none _, ?_⟩
  refine rl_q rfl rfl rfl (v_assign (v := (Value.int .i64 0)) rfl) ?_
  refine rl_end ?_
  refine wt_seq ?_
  refine wt_seq ?_
  refine wl_region wd_wide ?_
  refine rl_q rfl rfl rfl (v_loadn (vs := [(Value.int .i64 g), (Value.slice Ag lg cg)]) rfl Try.underlying24 rfl info_24 ⟨Row.cell (hS.bx 7 rfl) (i := 0) rfl, Row.cell (hS.bx 7 rfl) (i := 1) rfl, trivial⟩) ?_
  refine rl_q rfl rfl rfl (v_move (v := (Value.slice As ls cs)) rfl) ?_
  refine rl_n rfl rfl rfl rfl (n_call0 rfl (am2 rfl rfl) enter_84 ((pok_firing_Check h (no_lt _) (hS.rdr 3 rfl) (hS.rdr 5 rfl)).mono ?_))
  rintro _ w4 ⟨r, rfl, hC, h⟩
  replace hS := hS.pur hC.pure
  clear hC
  refine ⟨_, rfl, ?_⟩
  refine ⟨Stb.none _, ?_⟩
  refine rl_q rfl rfl rfl (v_assign (v := (Value.int .i64 r)) rfl) ?_
  refine rl_end ?_
  refine wt_seq ?_
  refine wl_region wd_wide ?_
  refine rl_q rfl rfl rfl (v_move (v := (Value.int .i64 r)) rfl) ?_
  refine rl_q rfl rfl rfl (v_neq rfl rfl) ?_
  refine rl_end ?_
  by_cases hp : r = 0
  · replace h := h.1 hp
    refine wt_cond_f (congrArg Value.bool (congrArg Bool.not (decide_eq_true hp))) ?_
    refine wt_skip ?_
    refine wt_seq ?_
    refine wt_seq ?_
    refine wp_draw [0, 1, 2, 3, 4, 5, 6, 7] (fun i => match i with | 5 => [0, 1] | _ => []) wd_wide (by kernel_rfl) (by kernel_rfl) ?_
    replace hS := hS.drew
    refine rp_q rfl rfl rfl (v_faddr rfl Try.underlying98 rfl info_39) ?_
    refine rp_q rfl rfl rfl (v_load rfl Try.underlying39 rfl (Row.cell (hS.bx 6 rfl) (i := 0) rfl)) ?_
    refine rp_q rfl rfl rfl (v_loadn (vs := [(Value.int .i64 g), (Value.slice Ag lg cg)]) rfl Try.underlying24 rfl info_24 ⟨Row.cell (hS.bx 7 rfl) (i := 0) rfl, Row.cell (hS.bx 7 rfl) (i := 1) rfl, trivial⟩) ?_
    refine rp_q rfl rfl rfl (v_move (v := (Value.slice Ad ld cd)) rfl) ?_
    refine rp_q rfl rfl rfl (v_move (v := (Value.slice As ls cs)) rfl) ?_
    refine rp_n rfl rfl rfl rfl (n_call0 rfl (am3 rfl rfl rfl) enter_114 ((pok_effective_led h (no_lt _) (hS.rdr 3 rfl) (hS.rdr 4 rfl) (hS.rdr 5 rfl)).mono ?_))
    rintro _ w5 ⟨r2, Ar, lr, cr, rfl, hC, h⟩
    replace hS := hS.call1 (hC.widen (flatS (flat_own (fI .i64) _ _ _ _ _) flat0) hS.blt) 8 0 rfl
    clear hC
    refine ⟨_, rfl, ?_⟩
    refine ⟨⟨fun hh => Bool.noConfusion (show false = true from hh), ⟨fun hh => Bool.noConfusion (show false = true from hh), ⟨fun hh => Bool.noConfusion (show false = true from hh), ⟨fun _ => (v_load rfl Try.underlying39 rfl (Row.cell (hS.bx 6 rfl) (i := 0) rfl)), ⟨fun _ => (v_faddr rfl Try.underlying98 rfl info_39), trivial⟩⟩⟩⟩⟩, ?_⟩
    have hB := hS.lend (asc [(8, 0), (0, 1), (1, 2)]) [8, 0, 1, 2] (by decide) ⟨.inl (ne_none rfl), .inl (ne_none rfl), .inl (ne_none rfl), .inr rfl, trivial⟩
    refine rp_n rfl rfl rfl rfl (n_call (vs := #[(Value.slice Ar lr cr)]) (us := #[(Value.pointer (some (⟨gc, 0, none⟩ : Addr))), (Value.pointer (some (⟨gc2, 0, none⟩ : Addr)))]) rfl (am1 rfl) enter_69 ((cast_calls (by simp) (pok_effective_VerifyLoss_1_v2 h hB)).mono ?_))
    rintro _ w6 ⟨r3, y, A, l, c, rfl, hC, h⟩
    replace hS := hS.back (asc [(8, 0), (0, 1), (1, 2)]) (asc_inj (by decide)) hC
    clear hC hB
    refine ⟨_, rfl, ?_⟩
    refine ⟨Stb.none _, ?_⟩
    refine rp_q rfl rfl rfl (v_not rfl) ?_
    refine rp_end ?_
    by_cases hp2 : r3 = true
    · replace h := h.1 hp2
      refine wt_cond_f (congrArg Value.bool (congrArg Bool.not hp2)) ?_
      refine wt_skip ?_
      refine wt_seq ?_
      refine wl_region wd_wide ?_
      refine rl_q rfl rfl rfl (v_assign (v := (Value.int .i64 0)) rfl) ?_
      refine rl_end ?_
      exact wt_ret1 rfl rfl ⟨_, rfl, (hS.sel [0, 1] (by decide)), h⟩
    · replace h := h.2 hp2
      refine wt_cond_t (congrArg Value.bool (congrArg Bool.not (Bool.eq_false_iff.2 hp2))) ?_
      refine wt_seq ?_
      refine wl_region wd_wide ?_
      refine rl_q rfl rfl rfl (v_assign (v := (Value.int .i64 16)) rfl) ?_
      refine rl_end ?_
      exact wt_ret1 rfl rfl ⟨_, rfl, (hS.sel [0, 1] (by decide)), h⟩
  · replace h := h.2 hp
    refine wt_cond_t (congrArg Value.bool (congrArg Bool.not (decide_eq_false hp))) ?_
    refine wt_seq ?_
    refine wl_region wd_wide ?_
    refine rl_q rfl rfl rfl (v_move (v := (Value.int .i64 r)) rfl) ?_
    refine rl_q rfl rfl rfl (v_assign (v := (Value.int .i64 r)) rfl) ?_
    refine rl_end ?_
    exact wt_ret1 rfl rfl ⟨_, rfl, (hS.sel [0, 1] (by decide)), h⟩

/-- sandpile/effective.VerifyLoss: what it computes. -/
def pf_effective_VerifyLoss (g : Int) (g2 : List (Int × Int × Int)) (q : Int) (d : List Int) (s : List Int) (R : Int → Prop) : Prop :=
pf_reduced_IsReduced g g2 q d (fun (r : Bool) (r2 : Int) =>
((r2 = 0 →
pf_effective_proof_check_v2 q g g2 g g2 d s (fun (r3 : Int) =>
R r3)) ∧
(¬ (r2 = 0) →
R r2)))
theorem pok_effective_VerifyLoss {O : Nat → Prop} {w : World} {g : Int} {g2 : List (Int × Int × Int)} {q : Int} {d : List Int} {s : List Int} {Ag : Option Addr} {lg : Nat} {cg : Nat} {Ad : Option Addr} {ld : Nat} {cd : Nat} {As : Option Addr} {ls : Nat} {cs : Nat} {R : Int → Prop} (h : pf_effective_VerifyLoss g g2 q d s R) (hO : ∀ k, O k → k < w.heap.size) (a0 : (FP.sl c3 Ag lg cg g2).P O w) (a1 : (FP.sl cI Ad ld cd d).P O w) (a2 : (FP.sl cI As ls cs s).P O w) :
    Calls Try.prog 20 #[(Value.agg #[(Value.int .i64 g), (Value.slice Ag lg cg)]), (Value.int .i64 q), (Value.slice Ad ld cd), (Value.slice As ls cs)] w fun e w' => ∃ r4 : Int, e = .returned (Value.int .i64 r4) ∧ Sep w no O w' (rl []) ∧ R r4 := by
  unfold pf_effective_VerifyLoss at h
  have hS : Sep w no O w (rl [Res.ro (FP.sl c3 Ag lg cg g2), Res.ro (FP.sl cI Ad ld cd d), Res.ro (FP.sl cI As ls cs s)]) := Sep.startl hO [(FP.sl c3 Ag lg cg g2), (FP.sl cI Ad ld cd d), (FP.sl cI As ls cs s)] ⟨a0, a1, a2, trivial⟩
  refine calls_sh (l := [(Value.agg #[(Value.int .i64 g), (Value.slice Ag lg cg)]), (Value.int .i64 q), (Value.slice Ad ld cd), (Value.slice As ls cs)]) Try.func20 rfl Try.ntmps20 (Nat.le_of_ble_eq_true rfl) ?_
  refine wt_seq ?_
  refine wl_region wd_wide ?_
  refine rl_n rfl rfl rfl rfl (n_box (v := (Value.agg #[(Value.int .i64 g), (Value.slice Ag lg cg)])) rfl ?_)
  intro g3 w2 hN
  replace hS : Sep w no O w2 (stl _ 3 (Res.box 24 g3 [(Value.int .i64 g), (Value.slice Ag lg cg)])) := hS.new 3 rfl hN
  clear hN
  refine ⟨Stb.none _, ?_⟩
  refine rl_n rfl rfl rfl rfl (n_box (v := (Value.int .i64 q)) rfl ?_)
  intro g4 w3 hN
  replace hS : Sep w no O w3 (stl _ 4 (Res.box 3 g4 [(Value.int .i64 q)])) := hS.new 4 rfl hN
  clear hN
  refine ⟨Stb.none _, ?_⟩
  refine rl_q rfl rfl rfl (v_assign (v := (Value.int .i64 0)) rfl) ?_
  refine rl_end ?_
  refine wt_seq ?_
  refine wt_seq ?_
  refine wl_region wd_wide ?_
  refine rl_q rfl rfl rfl (v_loadn (vs := [(Value.int .i64 g), (Value.slice Ag lg cg)]) rfl Try.underlying24 rfl info_24 ⟨Row.cell (hS.bx 3 rfl) (i := 0) rfl, Row.cell (hS.bx 3 rfl) (i := 1) rfl, trivial⟩) ?_
  refine rl_q rfl rfl rfl (v_load rfl Try.underlying3 rfl (Row.cell (hS.bx 4 rfl) (i := 0) rfl)) ?_
  refine rl_q rfl rfl rfl (v_move (v := (Value.slice Ad ld cd)) rfl) ?_
  refine rl_n rfl rfl rfl rfl (n_call0 rfl (am3 rfl rfl rfl) enter_68 ((pok_reduced_IsReduced h (no_lt _) (hS.rdr 0 rfl) (hS.rdr 1 rfl)).mono ?_))
  rintro _ w4 ⟨r, r2, rfl, hC, h⟩
  replace hS := hS.pur hC.pure
  clear hC
  refine ⟨_, rfl, ?_⟩
  refine ⟨Stb.none _, ?_⟩
  refine rl_q rfl rfl rfl (v_move (v := (Value.tuple #[(Value.bool (r)), (Value.int .i64 r2)])) rfl) ?_
  refine rl_q rfl rfl rfl (v_extract (v := (Value.bool (r))) rfl rfl) ?_
  refine rl_q rfl rfl rfl (v_extract (v := (Value.int .i64 r2)) rfl rfl) ?_
  refine rl_q rfl rfl rfl (v_assign (v := (Value.bool (r))) rfl) ?_
  refine rl_q rfl rfl rfl (v_assign (v := (Value.int .i64 r2)) rfl) ?_
  refine rl_end ?_
  refine wt_seq ?_
  refine wl_region wd_wide ?_
  refine rl_q rfl rfl rfl (v_move (v := (Value.int .i64 r2)) rfl) ?_
  refine rl_q rfl rfl rfl (v_neq rfl rfl) ?_
  refine rl_end ?_
  by_cases hp : r2 = 0
  · replace h := h.1 hp
    refine wt_cond_f (congrArg Value.bool (congrArg Bool.not (decide_eq_true hp))) ?_
    refine wt_skip ?_
    refine wt_seq ?_
    refine wl_region wd_wide ?_
    refine rl_q rfl rfl rfl (v_func (am0) (am2 rfl rfl)) ?_
    refine rl_n rfl rfl rfl rfl (n_build (l := [(0, (Value.func (Fn.func 69) #[] #[(Value.pointer (some (⟨g4, 0, none⟩ : Addr))), (Value.pointer (some (⟨g3, 0, none⟩ : Addr)))]))]) (cells := [(Value.func (Fn.func 69) #[] #[(Value.pointer (some (⟨g4, 0, none⟩ : Addr))), (Value.pointer (some (⟨g3, 0, none⟩ : Addr)))])]) (places := [(0, 1)]) (bp1 rfl) Try.underlying98 info_98 (by kernel_rfl) rfl ?_)
    refine ⟨Stb.none _, ?_⟩
    refine rl_q rfl rfl rfl (v_loadn (vs := [(Value.int .i64 g), (Value.slice Ag lg cg)]) rfl Try.underlying24 rfl info_24 ⟨Row.cell (hS.bx 3 rfl) (i := 0) rfl, Row.cell (hS.bx 3 rfl) (i := 1) rfl, trivial⟩) ?_
    refine rl_q rfl rfl rfl (v_move (v := (Value.slice Ad ld cd)) rfl) ?_
    refine rl_q rfl rfl rfl (v_move (v := (Value.slice As ls cs)) rfl) ?_
    replace hS := hS.addro 5 rfl _ (hS.ro 0 rfl)
    have hB := hS.lend (asc [(4, 0), (3, 1)]) [4, 3, 0, 5, 1, 2] (by decide) ⟨.inl (ne_none rfl), .inl (ne_none rfl), .inr rfl, .inr rfl, .inr rfl, .inr rfl, trivial⟩
    refine rl_n rfl rfl rfl rfl (n_call (vs := #[(Value.agg #[(Value.func (Fn.func 69) #[] #[(Value.pointer (some (⟨g4, 0, none⟩ : Addr))), (Value.pointer (some (⟨g3, 0, none⟩ : Addr)))])]), (Value.agg #[(Value.int .i64 g), (Value.slice Ag lg cg)]), (Value.slice Ad ld cd), (Value.slice As ls cs)]) (us := #[]) rfl (am4 rfl rfl rfl rfl) enter_63 ((cast_calls (by simp) (pok_effective_proof_check_v2 h hB)).mono ?_))
    rintro _ w5 ⟨r3, rfl, hC, h⟩
    replace hS := hS.back (asc [(4, 0), (3, 1)]) (asc_inj (by decide)) hC
    clear hC hB
    refine ⟨_, rfl, ?_⟩
    refine ⟨Stb.none _, ?_⟩
    refine rl_q rfl rfl rfl (v_assign (v := (Value.int .i64 r3)) rfl) ?_
    refine rl_end ?_
    exact wt_ret1 rfl rfl ⟨_, rfl, (hS.sel [] (by decide)), h⟩
  · replace h := h.2 hp
    refine wt_cond_t (congrArg Value.bool (congrArg Bool.not (decide_eq_false hp))) ?_
    refine wt_seq ?_
    refine wl_region wd_wide ?_
    refine rl_q rfl rfl rfl (v_move (v := (Value.int .i64 r2)) rfl) ?_
    refine rl_q rfl rfl rfl (v_assign (v := (Value.int .i64 r2)) rfl) ?_
    refine rl_end ?_
    exact wt_ret1 rfl rfl ⟨_, rfl, (hS.sel [] (by decide)), h⟩

/-- sandpile/sandpileref36.debtor: what it computes. -/
def pf_r36_debtor (d : List Int) (R : Int → Prop) : Prop :=
(∃ I2 : Nat → Int → Prop, (∃ m0, I2 m0 0) ∧ ∀ (m2 : Nat) (v : Int), I2 m2 v → 
((v < ((d.length : Nat) : Int) →
((0 ≤ v ∧ v < ((d.length : Nat) : Int)) ∧
(((gi d v.toNat) < 0 →
R v) ∧
(¬ ((gi d v.toNat) < 0) →
(In64 (v + 1) ∧
∃ m3, m3 < m2 ∧ I2 m3 (v + 1)))))) ∧
(¬ (v < ((d.length : Nat) : Int)) →
R (-1))))
theorem pok_r36_debtor {O : Nat → Prop} {w : World} {d : List Int} {Ad : Option Addr} {ld : Nat} {cd : Nat} {R : Int → Prop} (h : pf_r36_debtor d R) (hO : ∀ k, O k → k < w.heap.size) (a0 : (FP.sl cI Ad ld cd d).P O w) :
    Calls Try.prog 66 #[(Value.slice Ad ld cd)] w fun e w' => ∃ r : Int, e = .returned (Value.int .i64 r) ∧ Sep w no O w' (rl []) ∧ R r := by
  unfold pf_r36_debtor at h
  have hS : Sep w no O w (rl [Res.ro (FP.sl cI Ad ld cd d)]) := Sep.startl hO [(FP.sl cI Ad ld cd d)] ⟨a0, trivial⟩
  refine calls_sh (l := [(Value.slice Ad ld cd)]) Try.func66 rfl Try.ntmps66 (Nat.le_of_ble_eq_true rfl) ?_
  refine wt_seq ?_
  refine wl_region wd_wide ?_
  refine rl_q rfl rfl rfl (v_assign (v := (Value.int .i64 0)) rfl) ?_
  refine rl_end ?_
  refine wt_seq ?_
  refine wt_seq ?_
  refine wl_region wd_wide ?_
  refine rl_q rfl rfl rfl (v_assign (v := (Value.int .i64 0)) rfl) ?_
  refine rl_end ?_
  refine wt_block ?_
  obtain ⟨I2, ⟨m0, h0⟩, hr⟩ := h
  refine wt_loop (fun m E ds w' => ∃ v : Int, I2 m v ∧ ds = [] ∧ E 0 = (Value.slice Ad ld cd) ∧ E 3 = (Value.int .i64 v) ∧ Sep w no O w' (rl [Res.ro (FP.sl cI Ad ld cd d)])) m0 ⟨_, h0, rfl, rfl, rfl, (hS.sel [0] (by decide))⟩ ?_
  clear h0 hS
  rintro m2 E ds w2 ⟨v, h, rfl, hE0, hE3, hS⟩ again
  replace h := hr m2 v h
  clear hr
  refine wt_seq ?_
  refine wt_seq ?_
  refine wl_region wd_wide ?_
  refine rl_q rfl rfl rfl (v_move (v := (Value.int .i64 v)) hE3) ?_
  refine rl_q rfl rfl rfl (v_move (v := (Value.slice Ad ld cd)) hE0) ?_
  refine rl_q rfl rfl rfl (v_lenx (n := d.length) rfl Try.underlying25 (rd_len (hS.rdr 0 rfl))) ?_
  refine rl_q rfl rfl rfl (v_lss rfl rfl) ?_
  refine rl_end ?_
  by_cases hp : v < ((d.length : Nat) : Int)
  · replace h := h.1 hp
    refine wt_cond_t (congrArg Value.bool (decide_eq_true hp)) ?_
    refine wt_skip ?_
    refine wt_seq ?_
    refine wt_block ?_
    refine wt_seq ?_
    refine wl_region wd_wide ?_
    refine rl_q rfl rfl rfl (v_move (v := (Value.slice Ad ld cd)) hE0) ?_
    refine rl_q rfl rfl rfl (v_move (v := (Value.int .i64 v)) hE3) ?_
    obtain ⟨hx, h⟩ := h
    refine rl_q rfl rfl rfl (v_iaddr rfl rfl Try.underlying25 info_3 (rd_ix (hS.rdr 0 rfl) hx)) ?_
    refine rl_q rfl rfl rfl (v_load (v := (Value.int .i64 (gi d v.toNat))) rfl Try.underlying3 rfl (rd_1 (hS.rdr 0 rfl) hx (fun q => gi_some q) rfl)) ?_
    refine rl_q rfl rfl rfl (v_lss rfl rfl) ?_
    refine rl_end ?_
    by_cases hp2 : (gi d v.toNat) < 0
    · replace h := h.1 hp2
      refine wt_cond_t (congrArg Value.bool (decide_eq_true hp2)) ?_
      refine wt_seq ?_
      refine wl_region wd_wide ?_
      refine rl_q rfl rfl rfl (v_move (v := (Value.int .i64 v)) hE3) ?_
      refine rl_q rfl rfl rfl (v_assign (v := (Value.int .i64 v)) rfl) ?_
      refine rl_end ?_
      exact wt_ret1 rfl rfl ⟨_, rfl, (hS.sel [] (by decide)), h⟩
    · replace h := h.2 hp2
      refine wt_cond_f (congrArg Value.bool (decide_eq_false hp2)) ?_
      refine wt_skip ?_
      refine wt_inBlock ?_
      refine wl_region wd_wide ?_
      refine rl_q rfl rfl rfl (v_move (v := (Value.int .i64 v)) hE3) ?_
      obtain ⟨hi, h⟩ := h
      refine rl_q rfl rfl rfl (v_add rfl rfl hi) ?_
      refine rl_q rfl rfl rfl (v_assign (v := (Value.int .i64 (v + 1))) rfl) ?_
      refine rl_end ?_
      obtain ⟨mq, hlt, h⟩ := h
      exact again mq _ _ _ ⟨_, h, rfl, hE0, rfl, (hS.sel [0] (by decide))⟩ hlt
  · replace h := h.2 hp
    refine wt_cond_f (congrArg Value.bool (decide_eq_false hp)) ?_
    refine wt_exit rfl ?_
    refine wt_seq ?_
    refine wl_region wd_wide ?_
    refine rl_q rfl rfl rfl (v_assign (v := (Value.int .i64 (-1))) rfl) ?_
    refine rl_end ?_
    exact wt_ret1 rfl rfl ⟨_, rfl, (hS.sel [] (by decide)), h⟩

/-- sandpile/sandpileref36.all: what it computes. -/
def pf_r36_all (l : List Bool) (R : Bool → Prop) : Prop :=
(∃ I2 : Nat → Int → Prop, (∃ m0, I2 m0 0) ∧ ∀ (m2 : Nat) (i : Int), I2 m2 i → 
((i < ((l.length : Nat) : Int) →
((0 ≤ i ∧ i < ((l.length : Nat) : Int)) ∧
((gb l i.toNat = true →
(In64 (i + 1) ∧
∃ m3, m3 < m2 ∧ I2 m3 (i + 1))) ∧
(¬ (gb l i.toNat = true) →
R false)))) ∧
(¬ (i < ((l.length : Nat) : Int)) →
R true)))
theorem pok_r36_all {O : Nat → Prop} {w : World} {l : List Bool} {Al : Option Addr} {ll : Nat} {cl : Nat} {R : Bool → Prop} (h : pf_r36_all l R) (hO : ∀ k, O k → k < w.heap.size) (a0 : (FP.sl cB Al ll cl l).P O w) :
    Calls Try.prog 124 #[(Value.slice Al ll cl)] w fun e w' => ∃ r : Bool, e = .returned (Value.bool (r)) ∧ Sep w no O w' (rl []) ∧ R r := by
  unfold pf_r36_all at h
  have hS : Sep w no O w (rl [Res.ro (FP.sl cB Al ll cl l)]) := Sep.startl hO [(FP.sl cB Al ll cl l)] ⟨a0, trivial⟩
  refine calls_sh (l := [(Value.slice Al ll cl)]) Try.func124 rfl Try.ntmps124 (Nat.le_of_ble_eq_true rfl) ?_
  refine wt_seq ?_
  refine wl_region wd_wide ?_
  refine rl_q rfl rfl rfl (v_assign (v := (Value.bool (false))) rfl) ?_
  refine rl_end ?_
  refine wt_seq ?_
  refine wt_seq ?_
  refine wl_region wd_wide ?_
  refine rl_q rfl rfl rfl (v_assign (v := (Value.int .i64 0)) rfl) ?_
  refine rl_end ?_
  refine wt_block ?_
  obtain ⟨I2, ⟨m0, h0⟩, hr⟩ := h
  refine wt_loop (fun m E ds w' => ∃ i : Int, I2 m i ∧ ds = [] ∧ E 0 = (Value.slice Al ll cl) ∧ E 3 = (Value.int .i64 i) ∧ Sep w no O w' (rl [Res.ro (FP.sl cB Al ll cl l)])) m0 ⟨_, h0, rfl, rfl, rfl, (hS.sel [0] (by decide))⟩ ?_
  clear h0 hS
  rintro m2 E ds w2 ⟨i, h, rfl, hE0, hE3, hS⟩ again
  replace h := hr m2 i h
  clear hr
  refine wt_seq ?_
  refine wt_seq ?_
  refine wl_region wd_wide ?_
  refine rl_q rfl rfl rfl (v_move (v := (Value.int .i64 i)) hE3) ?_
  refine rl_q rfl rfl rfl (v_move (v := (Value.slice Al ll cl)) hE0) ?_
  refine rl_q rfl rfl rfl (v_lenx (n := l.length) rfl Try.underlying145 (rd_len (hS.rdr 0 rfl))) ?_
  refine rl_q rfl rfl rfl (v_lss rfl rfl) ?_
  refine rl_end ?_
  by_cases hp : i < ((l.length : Nat) : Int)
  · replace h := h.1 hp
    refine wt_cond_t (congrArg Value.bool (decide_eq_true hp)) ?_
    refine wt_skip ?_
    refine wt_seq ?_
    refine wt_block ?_
    refine wt_seq ?_
    refine wl_region wd_wide ?_
    refine rl_q rfl rfl rfl (v_move (v := (Value.slice Al ll cl)) hE0) ?_
    refine rl_q rfl rfl rfl (v_move (v := (Value.int .i64 i)) hE3) ?_
    obtain ⟨hx, h⟩ := h
    refine rl_q rfl rfl rfl (v_iaddr rfl rfl Try.underlying145 info_4 (rd_ix (hS.rdr 0 rfl) hx)) ?_
    refine rl_q rfl rfl rfl (v_load (v := (Value.bool (gb l i.toNat))) rfl Try.underlying4 rfl (rd_1 (hS.rdr 0 rfl) hx (fun q => gb_some q) rfl)) ?_
    refine rl_q rfl rfl rfl (v_not rfl) ?_
    refine rl_end ?_
    by_cases hp2 : gb l i.toNat = true
    · replace h := h.1 hp2
      refine wt_cond_f (congrArg Value.bool (congrArg Bool.not hp2)) ?_
      refine wt_skip ?_
      refine wt_inBlock ?_
      refine wl_region wd_wide ?_
      refine rl_q rfl rfl rfl (v_move (v := (Value.int .i64 i)) hE3) ?_
      obtain ⟨hi, h⟩ := h
      refine rl_q rfl rfl rfl (v_add rfl rfl hi) ?_
      refine rl_q rfl rfl rfl (v_assign (v := (Value.int .i64 (i + 1))) rfl) ?_
      refine rl_end ?_
      obtain ⟨mq, hlt, h⟩ := h
      exact again mq _ _ _ ⟨_, h, rfl, hE0, rfl, (hS.sel [0] (by decide))⟩ hlt
    · replace h := h.2 hp2
      refine wt_cond_t (congrArg Value.bool (congrArg Bool.not (Bool.eq_false_iff.2 hp2))) ?_
      refine wt_seq ?_
      refine wl_region wd_wide ?_
      refine rl_q rfl rfl rfl (v_assign (v := (Value.bool (false))) rfl) ?_
      refine rl_end ?_
      exact wt_ret1 rfl rfl ⟨_, rfl, (hS.sel [] (by decide)), h⟩
  · replace h := h.2 hp
    refine wt_cond_f (congrArg Value.bool (decide_eq_false hp)) ?_
    refine wt_exit rfl ?_
    refine wt_seq ?_
    refine wl_region wd_wide ?_
    refine rl_q rfl rfl rfl (v_assign (v := (Value.bool (true))) rfl) ?_
    refine rl_end ?_
    exact wt_ret1 rfl rfl ⟨_, rfl, (hS.sel [] (by decide)), h⟩

/-- sandpile/sandpileref36.Wins: what it computes. -/
def pf_r36_Wins (g : Int) (g2 : List (Int × Int × Int)) (d : List Int) (R : Bool → Prop) : Prop :=
pf_r17_Total d (fun (r : Int) =>
((r < 0 →
R false) ∧
(¬ (r < 0) →
(0 + d.length ≤ 1000000000 ∧
((0 ≤ g ∧ g ≤ 1000000) ∧
(∃ I2 : Nat → Int → (List Int) → (List Bool) → Prop, (∃ m0, I2 m0 0 ([] ++ d) (List.replicate g.toNat false)) ∧ ∀ (m2 : Nat) (step : Int) (d2 : List Int) (borrowed : List Bool), I2 m2 step d2 borrowed → 
((step < 10000000 →
pf_r36_debtor d2 (fun (r2 : Int) =>
((r2 < 0 →
R true) ∧
(¬ (r2 < 0) →
pf_r36_all borrowed (fun (r3 : Bool) =>
((r3 = true →
R false) ∧
(¬ (r3 = true) →
((0 ≤ r2 ∧ r2 < ((borrowed.length : Nat) : Int)) ∧
(∃ I3 : Nat → Int → (List Int) → Prop, (∃ m0, I3 m0 0 d2) ∧ ∀ (m3 : Nat) (u : Int) (d3 : List Int), I3 m3 u d3 → 
((u < g →
((u = r2 →
(In64 (u + 1) ∧
∃ m4, m4 < m3 ∧ I3 m4 (u + 1) d3)) ∧
(¬ (u = r2) →
((0 ≤ u ∧ u < ((d3.length : Nat) : Int)) ∧
pf_r08_Between g g2 u r2 (fun (r4 : Int) =>
(In64 ((gi d3 u.toNat) - r4) ∧
((0 ≤ r2 ∧ r2 < (((d3.set u.toNat ((gi d3 u.toNat) - r4)).length : Nat) : Int)) ∧
pf_r08_Between g g2 u r2 (fun (r5 : Int) =>
(In64 ((gi (d3.set u.toNat ((gi d3 u.toNat) - r4)) r2.toNat) + r5) ∧
(In64 (u + 1) ∧
∃ m5, m5 < m3 ∧ I3 m5 (u + 1) ((d3.set u.toNat ((gi d3 u.toNat) - r4)).set r2.toNat ((gi (d3.set u.toNat ((gi d3 u.toNat) - r4)) r2.toNat) + r5)))))))))))) ∧
(¬ (u < g) →
(In64 (step + 1) ∧
∃ m6, m6 < m2 ∧ I2 m6 (step + 1) d3 (borrowed.set r2.toNat true))))))))))))) ∧
(¬ (step < 10000000) →
R false))))))))
theorem pok_r36_Wins {O : Nat → Prop} {w : World} {g : Int} {g2 : List (Int × Int × Int)} {d : List Int} {Ag : Option Addr} {lg : Nat} {cg : Nat} {Ad : Option Addr} {ld : Nat} {cd : Nat} {R : Bool → Prop} (h : pf_r36_Wins g g2 d R) (hO : ∀ k, O k → k < w.heap.size) (a0 : (FP.sl c3 Ag lg cg g2).P O w) (a1 : (FP.sl cI Ad ld cd d).P O w) :
    Calls Try.prog 76 #[(Value.agg #[(Value.int .i64 g), (Value.slice Ag lg cg)]), (Value.slice Ad ld cd)] w fun e w' => ∃ r6 : Bool, e = .returned (Value.bool (r6)) ∧ Sep w no O w' (rl []) ∧ R r6 := by
  unfold pf_r36_Wins at h
  have hS : Sep w no O w (rl [Res.ro (FP.sl c3 Ag lg cg g2), Res.ro (FP.sl cI Ad ld cd d)]) := Sep.startl hO [(FP.sl c3 Ag lg cg g2), (FP.sl cI Ad ld cd d)] ⟨a0, a1, trivial⟩
  refine calls_sh (l := [(Value.agg #[(Value.int .i64 g), (Value.slice Ag lg cg)]), (Value.slice Ad ld cd)]) Try.func76 rfl Try.ntmps76 (Nat.le_of_ble_eq_true rfl) ?_
  refine wt_seq ?_
  refine wl_region wd_wide ?_
  refine rl_n rfl rfl rfl rfl (n_box (v := (Value.agg #[(Value.int .i64 g), (Value.slice Ag lg cg)])) rfl ?_)
  intro g3 w2 hN
  replace hS : Sep w no O w2 (stl _ 2 (Res.box 24 g3 [(Value.int .i64 g), (Value.slice Ag lg cg)])) := hS.new 2 rfl hN
  clear hN
  refine ⟨Stb.none _, ?_⟩
  refine rl_q rfl rfl rfl (v_assign (v := (Value.bool (false))) rfl) ?_
  refine rl_end ?_
  refine wt_seq ?_
  refine wt_seq ?_
  refine wl_region wd_wide ?_
  refine rl_q rfl rfl rfl (v_move (v := (Value.slice Ad ld cd)) rfl) ?_
  refine rl_n rfl rfl rfl rfl (n_call0 rfl (am1 rfl) enter_39 ((pok_r17_Total h (no_lt _) (hS.rdr 1 rfl)).mono ?_))
  rintro _ w3 ⟨r, rfl, hC, h⟩
  replace hS := hS.pur hC.pure
  clear hC
  refine ⟨_, rfl, ?_⟩
  refine ⟨Stb.none _, ?_⟩
  refine rl_q rfl rfl rfl (v_lss rfl rfl) ?_
  refine rl_end ?_
  by_cases hp : r < 0
  · replace h := h.1 hp
    refine wt_cond_t (congrArg Value.bool (decide_eq_true hp)) ?_
    refine wt_seq ?_
    refine wl_region wd_wide ?_
    refine rl_q rfl rfl rfl (v_assign (v := (Value.bool (false))) rfl) ?_
    refine rl_end ?_
    exact wt_ret1 rfl rfl ⟨_, rfl, (hS.sel [] (by decide)), h⟩
  · replace h := h.2 hp
    refine wt_cond_f (congrArg Value.bool (decide_eq_false hp)) ?_
    refine wt_skip ?_
    refine wt_seq ?_
    refine wl_region wd_wide ?_
    refine rl_n rfl rfl rfl rfl (n_bslice (l := []) (cells := []) (bp0) Try.underlying25 info_3 rfl rfl ?_)
    intro g4 w4 hN
    replace hS := hS.litf (n := 0) 3 rfl (fI .i64) hN ([] : List Int) rfl (by decide) rfl
    clear hN
    refine ⟨Stb.none _, ?_⟩
    refine rl_q rfl rfl rfl (v_move (v := (Value.slice Ad ld cd)) rfl) ?_
    obtain ⟨hx, h⟩ := h
    refine rl_n rfl rfl rfl rfl (n_app (c := cI) rfl rfl Try.underlying25 Try.underlying25 info_3 rfl rfl (by decide) hS 3 rfl (hS.yr 1 rfl) hx ?_)
    clear hS
    intro A c w5 hS
    refine ⟨Stb.none _, ?_⟩
    refine rl_q rfl rfl rfl (v_assign (v := (Value.slice A (0 + ld) c)) rfl) ?_
    refine rl_end ?_
    refine wt_seq ?_
    refine wl_region wd_wide ?_
    refine rl_q rfl rfl rfl (v_faddr rfl Try.underlying24 rfl info_3) ?_
    refine rl_q rfl rfl rfl (v_load rfl Try.underlying3 rfl (Row.cell (hS.bx 2 rfl) (i := 0) rfl)) ?_
    obtain ⟨hx2, h⟩ := h
    refine rl_n rfl rfl rfl rfl (n_make rfl rfl Try.underlying145 info_4 (by decide) rfl hx2 ?_)
    intro g5 w6 hN
    replace hS := hS.made 4 rfl cB (Value.bool (false)) false (fun _ _ => rfl) hN (by omega)
    clear hN
    refine ⟨Stb.none _, ?_⟩
    refine rl_q rfl rfl rfl (v_assign (v := (Value.slice (some ⟨g5, 0, none⟩) g.toNat g.toNat)) rfl) ?_
    refine rl_end ?_
    refine wt_seq ?_
    refine wt_seq ?_
    refine wl_region wd_wide ?_
    refine rl_q rfl rfl rfl (v_assign (v := (Value.int .i64 0)) rfl) ?_
    refine rl_end ?_
    refine wt_block ?_
    obtain ⟨I2, ⟨m0, h0⟩, hr⟩ := h
    refine wt_loop (fun m E ds w' => ∃ step : Int, ∃ d2 : List Int, ∃ borrowed : List Bool, ∃ Ad2 : Option Addr, ∃ ld2 : Nat, ∃ cd2 : Nat, ∃ Aborrowed : Option Addr, ∃ lborrowed : Nat, ∃ cborrowed : Nat, I2 m step d2 borrowed ∧ ds = [] ∧ E 1 = (Value.slice Ad2 ld2 cd2) ∧ E 2 = (Value.pointer (some (⟨g3, 0, none⟩ : Addr))) ∧ E 5 = (Value.slice Aborrowed lborrowed cborrowed) ∧ E 6 = (Value.int .i64 step) ∧ Sep w no O w' (rl [Res.own cI 3 Ad2 ld2 cd2 d2, Res.box 24 g3 [(Value.int .i64 g), (Value.slice Ag lg cg)], Res.ro (FP.sl c3 Ag lg cg g2), Res.own cB 4 Aborrowed lborrowed cborrowed borrowed])) m0 ⟨_, _, _, _, _, _, _, _, _, h0, rfl, rfl, rfl, rfl, rfl, (hS.sel [3, 2, 0, 4] (by decide))⟩ ?_
    clear h0 hS
    rintro m2 E ds w7 ⟨step, d2, borrowed, Ad2, ld2, cd2, Aborrowed, lborrowed, cborrowed, h, rfl, hE1, hE2, hE5, hE6, hS⟩ again
    replace h := hr m2 step d2 borrowed h
    clear hr
    refine wt_seq ?_
    refine wt_seq ?_
    refine wl_region wd_wide ?_
    refine rl_q rfl rfl rfl (v_move (v := (Value.int .i64 step)) hE6) ?_
    refine rl_q rfl rfl rfl (v_lss rfl rfl) ?_
    refine rl_end ?_
    by_cases hp2 : step < 10000000
    · replace h := h.1 hp2
      refine wt_cond_t (congrArg Value.bool (decide_eq_true hp2)) ?_
      refine wt_skip ?_
      refine wt_seq ?_
      refine wt_block ?_
      refine wt_seq ?_
      refine wl_region wd_wide ?_
      refine rl_q rfl rfl rfl (v_move (v := (Value.slice Ad2 ld2 cd2)) hE1) ?_
      refine rl_n rfl rfl rfl rfl (n_call0 rfl (am1 rfl) enter_66 ((pok_r36_debtor h (no_lt _) (hS.rdo 0 rfl)).mono ?_))
      rintro _ w8 ⟨r2, rfl, hC, h⟩
      replace hS := hS.pur hC.pure
      clear hC
      refine ⟨_, rfl, ?_⟩
      refine ⟨Stb.none _, ?_⟩
      refine rl_q rfl rfl rfl (v_assign (v := (Value.int .i64 r2)) rfl) ?_
      refine rl_end ?_
      refine wt_seq ?_
      refine wt_seq ?_
      refine wl_region wd_wide ?_
      refine rl_q rfl rfl rfl (v_move (v := (Value.int .i64 r2)) rfl) ?_
      refine rl_q rfl rfl rfl (v_lss rfl rfl) ?_
      refine rl_end ?_
      by_cases hp3 : r2 < 0
      · replace h := h.1 hp3
        refine wt_cond_t (congrArg Value.bool (decide_eq_true hp3)) ?_
        refine wt_seq ?_
        refine wl_region wd_wide ?_
        refine rl_q rfl rfl rfl (v_assign (v := (Value.bool (true))) rfl) ?_
        refine rl_end ?_
        exact wt_ret1 rfl rfl ⟨_, rfl, (hS.sel [] (by decide)), h⟩
      · replace h := h.2 hp3
        refine wt_cond_f (congrArg Value.bool (decide_eq_false hp3)) ?_
        refine wt_skip ?_
        refine wt_seq ?_
        refine wt_seq ?_
        refine wl_region wd_wide ?_
        refine rl_q rfl rfl rfl (v_move (v := (Value.slice Aborrowed lborrowed cborrowed)) hE5) ?_
        refine rl_n rfl rfl rfl rfl (n_call0 rfl (am1 rfl) enter_124 ((pok_r36_all h (no_lt _) (hS.rdo 3 rfl)).mono ?_))
        rintro _ w9 ⟨r3, rfl, hC, h⟩
        replace hS := hS.pur hC.pure
        clear hC
        refine ⟨_, rfl, ?_⟩
        refine ⟨Stb.none _, ?_⟩
        refine rl_end ?_
        by_cases hp4 : r3 = true
        · replace h := h.1 hp4
          refine wt_cond_t (congrArg Value.bool hp4) ?_
          refine wt_seq ?_
          refine wl_region wd_wide ?_
          refine rl_q rfl rfl rfl (v_assign (v := (Value.bool (false))) rfl) ?_
          refine rl_end ?_
          exact wt_ret1 rfl rfl ⟨_, rfl, (hS.sel [] (by decide)), h⟩
        · replace h := h.2 hp4
          refine wt_cond_f (congrArg Value.bool (Bool.eq_false_iff.2 hp4)) ?_
          refine wt_skip ?_
          refine wt_seq ?_
          refine wl_region wd_wide ?_
          refine rl_q rfl rfl rfl (v_move (v := (Value.slice Aborrowed lborrowed cborrowed)) hE5) ?_
          refine rl_q rfl rfl rfl (v_move (v := (Value.int .i64 r2)) rfl) ?_
          obtain ⟨hx3, h⟩ := h
          refine rl_q rfl rfl rfl (v_iaddr rfl rfl Try.underlying145 info_4 (rd_ix (hS.rdo 3 rfl) hx3)) ?_
          refine rl_n0 rfl rfl rfl (n_store (v := (Value.bool (true))) rfl rfl rfl info_4 (hS.wr 3 rfl rfl hx3) ?_)
          intro w10 e1
          replace hS := hS.st 3 rfl rfl hx3 (x := true) rfl e1
          clear e1
          refine ⟨Stb.none _, ?_⟩
          refine rl_end ?_
          refine wt_seq ?_
          refine wl_region wd_wide ?_
          refine rl_q rfl rfl rfl (v_assign (v := (Value.int .i64 0)) rfl) ?_
          refine rl_end ?_
          refine wt_block ?_
          obtain ⟨I3, ⟨m0, h0⟩, hr⟩ := h
          refine wt_loop (fun m E ds w' => ∃ u : Int, ∃ d3 : List Int, ∃ Ad3 : Option Addr, ∃ ld3 : Nat, ∃ cd3 : Nat, I3 m u d3 ∧ ds = [] ∧ E 1 = (Value.slice Ad3 ld3 cd3) ∧ E 2 = (Value.pointer (some (⟨g3, 0, none⟩ : Addr))) ∧ E 5 = (Value.slice Aborrowed lborrowed cborrowed) ∧ E 6 = (Value.int .i64 step) ∧ E 7 = (Value.int .i64 r2) ∧ E 8 = (Value.int .i64 u) ∧ Sep w no O w' (rl [Res.own cI 3 Ad3 ld3 cd3 d3, Res.box 24 g3 [(Value.int .i64 g), (Value.slice Ag lg cg)], Res.ro (FP.sl c3 Ag lg cg g2), Res.own cB 4 Aborrowed lborrowed cborrowed (borrowed.set r2.toNat true)])) m0 ⟨_, _, _, _, _, h0, rfl, hE1, hE2, hE5, hE6, rfl, rfl, (hS.sel [0, 1, 2, 3] (by decide))⟩ ?_
          clear h0 hS
          rintro m3 E ds w11 ⟨u, d3, Ad3, ld3, cd3, h, rfl, hE1, hE2, hE5, hE6, hE7, hE8, hS⟩ again2
          replace h := hr m3 u d3 h
          clear hr
          refine wt_seq ?_
          refine wt_seq ?_
          refine wl_region wd_wide ?_
          refine rl_q rfl rfl rfl (v_move (v := (Value.int .i64 u)) hE8) ?_
          refine rl_q rfl rfl rfl (v_faddr hE2 Try.underlying24 rfl info_3) ?_
          refine rl_q rfl rfl rfl (v_load rfl Try.underlying3 rfl (Row.cell (hS.bx 1 rfl) (i := 0) rfl)) ?_
          refine rl_q rfl rfl rfl (v_lss rfl rfl) ?_
          refine rl_end ?_
          by_cases hp5 : u < g
          · replace h := h.1 hp5
            refine wt_cond_t (congrArg Value.bool (decide_eq_true hp5)) ?_
            refine wt_skip ?_
            refine wt_seq ?_
            refine wt_block ?_
            refine wt_seq ?_
            refine wl_region wd_wide ?_
            refine rl_q rfl rfl rfl (v_move (v := (Value.int .i64 u)) hE8) ?_
            refine rl_q rfl rfl rfl (v_move (v := (Value.int .i64 r2)) hE7) ?_
            refine rl_q rfl rfl rfl (v_neq rfl rfl) ?_
            refine rl_end ?_
            by_cases hp6 : u = r2
            · replace h := h.1 hp6
              refine wt_cond_f (congrArg Value.bool (congrArg Bool.not (decide_eq_true hp6))) ?_
              refine wt_skip ?_
              refine wt_inBlock ?_
              refine wl_region wd_wide ?_
              refine rl_q rfl rfl rfl (v_move (v := (Value.int .i64 u)) hE8) ?_
              obtain ⟨hi, h⟩ := h
              refine rl_q rfl rfl rfl (v_add rfl rfl hi) ?_
              refine rl_q rfl rfl rfl (v_assign (v := (Value.int .i64 (u + 1))) rfl) ?_
              refine rl_end ?_
              obtain ⟨mq, hlt, h⟩ := h
              exact again2 mq _ _ _ ⟨_, _, _, _, _, h, rfl, hE1, hE2, hE5, hE6, hE7, rfl, (hS.sel [0, 1, 2, 3] (by decide))⟩ hlt
            · replace h := h.2 hp6
              refine wt_cond_t (congrArg Value.bool (congrArg Bool.not (decide_eq_false hp6))) ?_
              refine wt_seq ?_
              refine wp_draw [0, 1, 2, 3, 4, 5, 6, 7, 8, 9, 10] (fun i => match i with | 7 => [0, 1, 2, 3] | _ => []) wd_wide (by kernel_rfl) (by kernel_rfl) ?_
              replace hS := hS.drew
              refine rp_q rfl rfl rfl (v_move (v := (Value.slice Ad3 ld3 cd3)) hE1) ?_
              refine rp_q rfl rfl rfl (v_move (v := (Value.int .i64 u)) hE8) ?_
              obtain ⟨hx4, h⟩ := h
              refine rp_q rfl rfl rfl (v_iaddr rfl rfl Try.underlying25 info_3 (rd_ix (hS.rdo 0 rfl) hx4)) ?_
              refine rp_q rfl rfl rfl (v_load (v := (Value.int .i64 (gi d3 u.toNat))) rfl Try.underlying3 rfl (rd_1 (hS.rdo 0 rfl) hx4 (fun q => gi_some q) rfl)) ?_
              refine rp_q rfl rfl rfl (v_loadn (vs := [(Value.int .i64 g), (Value.slice Ag lg cg)]) hE2 Try.underlying24 rfl info_24 ⟨Row.cell (hS.bx 1 rfl) (i := 0) rfl, Row.cell (hS.bx 1 rfl) (i := 1) rfl, trivial⟩) ?_
              refine rp_q rfl rfl rfl (v_move (v := (Value.int .i64 u)) hE8) ?_
              refine rp_q rfl rfl rfl (v_move (v := (Value.int .i64 r2)) hE7) ?_
              refine rp_n rfl rfl rfl rfl (n_call0 rfl (am3 rfl rfl rfl) enter_125 ((pok_r08_Between h (no_lt _) (hS.rdr 2 rfl)).mono ?_))
              rintro _ w12 ⟨r4, rfl, hC, h⟩
              replace hS := hS.pur hC.pure
              clear hC
              refine ⟨_, rfl, ?_⟩
              refine ⟨⟨fun hh => Bool.noConfusion (show false = true from hh), ⟨fun hh => Bool.noConfusion (show false = true from hh), ⟨fun hh => Bool.noConfusion (show false = true from hh), ⟨fun _ => (v_load (v := (Value.int .i64 (gi d3 u.toNat))) rfl Try.underlying3 rfl (rd_1 (hS.rdo 0 rfl) hx4 (fun q => gi_some q) rfl)), ⟨fun _ => (v_iaddr rfl rfl Try.underlying25 info_3 (rd_ix (hS.rdo 0 rfl) hx4)), ⟨fun _ => (v_move (v := (Value.int .i64 u)) hE8), ⟨fun _ => (v_move (v := (Value.slice Ad3 ld3 cd3)) hE1), trivial⟩⟩⟩⟩⟩⟩⟩, ?_⟩
              obtain ⟨hi2, h⟩ := h
              refine rp_q rfl rfl rfl (v_sub rfl rfl hi2) ?_
              refine rp_q rfl rfl rfl (v_iaddr rfl rfl Try.underlying25 info_3 (rd_ix (hS.rdo 0 rfl) hx4)) ?_
              refine rp_n0 rfl rfl rfl (n_store (v := (Value.int .i64 ((gi d3 u.toNat) - r4))) rfl rfl rfl info_3 (hS.wr 0 rfl rfl hx4) ?_)
              intro w13 e1
              replace hS := hS.st 0 rfl rfl hx4 (x := (gi d3 u.toNat) - r4) rfl e1
              clear e1
              refine ⟨Stb.none _, ?_⟩
              refine rp_end ?_
              refine wp_draw [0, 1, 2, 3, 4, 5, 6, 7, 8, 9, 10] (fun i => match i with | 7 => [0, 1, 2, 3] | _ => []) wd_wide (by kernel_rfl) (by kernel_rfl) ?_
              replace hS := hS.drew
              refine rp_q rfl rfl rfl (v_move (v := (Value.slice Ad3 ld3 cd3)) hE1) ?_
              refine rp_q rfl rfl rfl (v_move (v := (Value.int .i64 r2)) hE7) ?_
              obtain ⟨hx5, h⟩ := h
              refine rp_q rfl rfl rfl (v_iaddr rfl rfl Try.underlying25 info_3 (rd_ix (hS.rdo 0 rfl) hx5)) ?_
              refine rp_q rfl rfl rfl (v_load (v := (Value.int .i64 (gi (d3.set u.toNat ((gi d3 u.toNat) - r4)) r2.toNat))) rfl Try.underlying3 rfl (rd_1 (hS.rdo 0 rfl) hx5 (fun q => gi_some q) rfl)) ?_
              refine rp_q rfl rfl rfl (v_loadn (vs := [(Value.int .i64 g), (Value.slice Ag lg cg)]) hE2 Try.underlying24 rfl info_24 ⟨Row.cell (hS.bx 1 rfl) (i := 0) rfl, Row.cell (hS.bx 1 rfl) (i := 1) rfl, trivial⟩) ?_
              refine rp_q rfl rfl rfl (v_move (v := (Value.int .i64 u)) hE8) ?_
              refine rp_q rfl rfl rfl (v_move (v := (Value.int .i64 r2)) hE7) ?_
              refine rp_n rfl rfl rfl rfl (n_call0 rfl (am3 rfl rfl rfl) enter_125 ((pok_r08_Between h (no_lt _) (hS.rdr 2 rfl)).mono ?_))
              rintro _ w14 ⟨r5, rfl, hC, h⟩
              replace hS := hS.pur hC.pure
              clear hC
              refine ⟨_, rfl, ?_⟩
              refine ⟨⟨fun hh => Bool.noConfusion (show false = true from hh), ⟨fun hh => Bool.noConfusion (show false = true from hh), ⟨fun hh => Bool.noConfusion (show false = true from hh), ⟨fun _ => (v_load (v := (Value.int .i64 (gi (d3.set u.toNat ((gi d3 u.toNat) - r4)) r2.toNat))) rfl Try.underlying3 rfl (rd_1 (hS.rdo 0 rfl) hx5 (fun q => gi_some q) rfl)), ⟨fun _ => (v_iaddr rfl rfl Try.underlying25 info_3 (rd_ix (hS.rdo 0 rfl) hx5)), ⟨fun _ => (v_move (v := (Value.int .i64 r2)) hE7), ⟨fun _ => (v_move (v := (Value.slice Ad3 ld3 cd3)) hE1), trivial⟩⟩⟩⟩⟩⟩⟩, ?_⟩
              obtain ⟨hi3, h⟩ := h
              refine rp_q rfl rfl rfl (v_add rfl rfl hi3) ?_
              refine rp_q rfl rfl rfl (v_iaddr rfl rfl Try.underlying25 info_3 (rd_ix (hS.rdo 0 rfl) hx5)) ?_
              refine rp_n0 rfl rfl rfl (n_store (v := (Value.int .i64 ((gi (d3.set u.toNat ((gi d3 u.toNat) - r4)) r2.toNat) + r5))) rfl rfl rfl info_3 (hS.wr 0 rfl rfl hx5) ?_)
              intro w15 e1
              replace hS := hS.st 0 rfl rfl hx5 (x := (gi (d3.set u.toNat ((gi d3 u.toNat) - r4)) r2.toNat) + r5) rfl e1
              clear e1
              refine ⟨Stb.none _, ?_⟩
              refine rp_end ?_
              refine wt_inBlock ?_
              refine wl_region wd_wide ?_
              refine rl_q rfl rfl rfl (v_move (v := (Value.int .i64 u)) hE8) ?_
              obtain ⟨hi4, h⟩ := h
              refine rl_q rfl rfl rfl (v_add rfl rfl hi4) ?_
              refine rl_q rfl rfl rfl (v_assign (v := (Value.int .i64 (u + 1))) rfl) ?_
              refine rl_end ?_
              obtain ⟨mq, hlt, h⟩ := h
              exact again2 mq _ _ _ ⟨_, _, _, _, _, h, rfl, hE1, hE2, hE5, hE6, hE7, rfl, (hS.sel [0, 1, 2, 3] (by decide))⟩ hlt
          · replace h := h.2 hp5
            refine wt_cond_f (congrArg Value.bool (decide_eq_false hp5)) ?_
            refine wt_exit rfl ?_
            refine wt_inBlock ?_
            refine wl_region wd_wide ?_
            refine rl_q rfl rfl rfl (v_move (v := (Value.int .i64 step)) hE6) ?_
            obtain ⟨hi5, h⟩ := h
            refine rl_q rfl rfl rfl (v_add rfl rfl hi5) ?_
            refine rl_q rfl rfl rfl (v_assign (v := (Value.int .i64 (step + 1))) rfl) ?_
            refine rl_end ?_
            obtain ⟨mq, hlt, h⟩ := h
            exact again mq _ _ _ ⟨_, _, _, _, _, _, _, _, _, h, rfl, hE1, hE2, hE5, rfl, (hS.sel [0, 1, 2, 3] (by decide))⟩ hlt
    · replace h := h.2 hp2
      refine wt_cond_f (congrArg Value.bool (decide_eq_false hp2)) ?_
      refine wt_exit rfl ?_
      refine wt_seq ?_
      refine wl_region wd_wide ?_
      refine rl_q rfl rfl rfl (v_assign (v := (Value.bool (false))) rfl) ?_
      refine rl_end ?_
      exact wt_ret1 rfl rfl ⟨_, rfl, (hS.sel [] (by decide)), h⟩

/-- sandpile/sandpileref36.More: what it computes. -/
def pf_r36_More (d : List Int) (v : Int) (k : Int) (R : (List Int) → Prop) : Prop :=
(0 + d.length ≤ 1000000000 ∧
((0 ≤ v ∧ v < ((([] ++ d).length : Nat) : Int)) ∧
(In64 ((gi ([] ++ d) v.toNat) + k) ∧
R (([] ++ d).set v.toNat ((gi ([] ++ d) v.toNat) + k)))))
theorem pok_r36_More {O : Nat → Prop} {w : World} {d : List Int} {v : Int} {k : Int} {Ad : Option Addr} {ld : Nat} {cd : Nat} {R : (List Int) → Prop} (h : pf_r36_More d v k R) (hO : ∀ k, O k → k < w.heap.size) (a0 : (FP.sl cI Ad ld cd d).P O w) :
    Calls Try.prog 77 #[(Value.slice Ad ld cd), (Value.int .i64 v), (Value.int .i64 k)] w fun e w' => ∃ r : List Int, ∃ Ar : Option Addr, ∃ lr : Nat, ∃ cr : Nat, e = .returned (Value.slice Ar lr cr) ∧ Sep w no O w' (rl [Res.own cI 3 Ar lr cr r]) ∧ R r := by
  unfold pf_r36_More at h
  have hS : Sep w no O w (rl [Res.ro (FP.sl cI Ad ld cd d)]) := Sep.startl hO [(FP.sl cI Ad ld cd d)] ⟨a0, trivial⟩
  refine calls_sh (l := [(Value.slice Ad ld cd), (Value.int .i64 v), (Value.int .i64 k)]) Try.func77 rfl Try.ntmps77 (Nat.le_of_ble_eq_true rfl) ?_
  refine wt_seq ?_
  refine wl_region wd_wide ?_
  refine rl_q rfl rfl rfl (v_assign (v := (Value.slice none 0 0)) rfl) ?_
  refine rl_end ?_
  refine wt_seq ?_
  refine wl_region wd_wide ?_
  refine rl_n rfl rfl rfl rfl (n_bslice (l := []) (cells := []) (bp0) Try.underlying25 info_3 rfl rfl ?_)
  intro g w2 hN
  replace hS := hS.litf (n := 0) 1 rfl (fI .i64) hN ([] : List Int) rfl (by decide) rfl
  clear hN
  refine ⟨Stb.none _, ?_⟩
  refine rl_q rfl rfl rfl (v_move (v := (Value.slice Ad ld cd)) rfl) ?_
  obtain ⟨hx, h⟩ := h
  refine rl_n rfl rfl rfl rfl (n_app (c := cI) rfl rfl Try.underlying25 Try.underlying25 info_3 rfl rfl (by decide) hS 1 rfl (hS.yr 0 rfl) hx ?_)
  clear hS
  intro A c w3 hS
  refine ⟨Stb.none _, ?_⟩
  refine rl_q rfl rfl rfl (v_assign (v := (Value.slice A (0 + ld) c)) rfl) ?_
  refine rl_end ?_
  refine wt_seq ?_
  refine wl_region wd_wide ?_
  refine rl_q rfl rfl rfl (v_move (v := (Value.slice A (0 + ld) c)) rfl) ?_
  refine rl_q rfl rfl rfl (v_move (v := (Value.int .i64 v)) rfl) ?_
  obtain ⟨hx2, h⟩ := h
  refine rl_q rfl rfl rfl (v_iaddr rfl rfl Try.underlying25 info_3 (rd_ix (hS.rdo 1 rfl) hx2)) ?_
  refine rl_q rfl rfl rfl (v_load (v := (Value.int .i64 (gi ([] ++ d) v.toNat))) rfl Try.underlying3 rfl (rd_1 (hS.rdo 1 rfl) hx2 (fun q => gi_some q) rfl)) ?_
  refine rl_q rfl rfl rfl (v_move (v := (Value.int .i64 k)) rfl) ?_
  obtain ⟨hi, h⟩ := h
  refine rl_q rfl rfl rfl (v_add rfl rfl hi) ?_
  refine rl_q rfl rfl rfl (v_iaddr rfl rfl Try.underlying25 info_3 (rd_ix (hS.rdo 1 rfl) hx2)) ?_
  refine rl_n0 rfl rfl rfl (n_store (v := (Value.int .i64 ((gi ([] ++ d) v.toNat) + k))) rfl rfl rfl info_3 (hS.wr 1 rfl rfl hx2) ?_)
  intro w4 e1
  replace hS := hS.st 1 rfl rfl hx2 (x := (gi ([] ++ d) v.toNat) + k) rfl e1
  clear e1
  refine ⟨Stb.none _, ?_⟩
  refine rl_end ?_
  refine wt_seq ?_
  refine wl_region wd_wide ?_
  refine rl_q rfl rfl rfl (v_move (v := (Value.slice A (0 + ld) c)) rfl) ?_
  refine rl_q rfl rfl rfl (v_assign (v := (Value.slice A (0 + ld) c)) rfl) ?_
  refine rl_end ?_
  exact wt_ret1 rfl rfl ⟨_, _, _, _, rfl, (hS.sel [1] (by decide)), h⟩

end Go.Proofs.Ytbehbjfcenlaeaa
