/- Texts laid together: It, ItP, Det, Cram, Col. -/
import Derived.Test.YtncilechkclmbaaGreatK3
/- Iterators: what a generator and the loop over it owe each other; each side has its own blocks. No program in sight. -/
namespace Go.Proofs.YtncilechkclmbaaGreat
open Go Go.RowKit Go.Shelf Go.Proofs.Tryz
set_option linter.unusedVariables false
set_option linter.unusedSimpArgs false
set_option linter.unusedSectionVars false
theorem n_yield {P : Program} {E : Env} {w : World} {d : Option Tmp} {ty : TypeId} {ps : String} {af : Array Edge} {g : Option (Nat × Bool)} {K : Value → World → Prop} {l m : Nat} {args : Array Operand} {ats : Array TypeId} {vs : Array Value} {fo : Operand}
    (hf : evE E fo = .func (.yield l) #[] #[]) (ha : args.map (evE E) = vs) (h : YieldAt Fence.wide m P l vs w fun e w'' => ∃ v, e = .returned v ∧ K v w'') : yaZ P ⟨d, .call ⟨.value fo, args, ats⟩, ty, ps, af, g⟩ (evE E) w K := by
  obtain ⟨fn, tmps, assign, body, hy, hR⟩ := h
  unfold yaZ execOp
  simp only [resolve, hf, ha, Deferred.ofValue, Sem.run_bind, Sem.run_pure, Result.andThen, invoke, Array.empty_append, Array.append_empty, hy]
  exact ⟨trivial, fun c cs _ => hR.2 c cs (room_wide _)⟩
theorem WTa.ofx {F : Fence} {n : Nat} {P : Program} {Q : Exit → Act → World → Prop} {a : Act} {w : World} {t : List Item} {c : Code}
    (h : c.wpIn F n P (fun e a' w' => match e with
      | .normal => WTa F n P t Q a' w'
      | .ret => Q .ret a' w'
      | .exit id => (match exitTo id t with | some k' => WTa F n P k' Q a' w' | none => Q (.exit id) a' w')
      | _ => False) a w) : WTa F n P (.code c :: t) Q a w := by
  intro b k cs hro hb hr
  obtain ⟨e, a', w', hw, harr⟩ := h b (t ++ k) cs hro hb hr
  cases e with
  | normal =>
    obtain ⟨e2, a2, w2, hq, harr2⟩ := hw b k cs hro hb hr
    exact ⟨e2, a2, w2, hq, .of_steps harr harr2⟩
  | ret => exact ⟨.ret, a', w', hw, harr⟩
  | exit id =>
    cases he : exitTo id t with
    | some k' =>
      simp only [he] at hw
      obtain ⟨e2, a2, w2, hq, harr2⟩ := hw b k cs hro hb hr
      exact ⟨e2, a2, w2, hq, .of_steps (harr.1 _ (ydm k he)) harr2⟩
    | none =>
      simp only [he] at hw
      refine ⟨.exit id, a', w', hw, ?_⟩
      have h1 := harr.1
      have h2 := harr.2
      rw [ydx k he] at h1 h2
      exact ⟨h1, h2⟩
  | goto l => exact hw.elim
  | panic ch => exact hw.elim
  | outgrown => exact hw.elim
theorem Keeps.trans' {A B T S : Nat → Prop} {a b c d : World} (h : Keeps A a b) (k : Keeps B b c) (l : Keeps S c d) (h1 : ∀ k, A k → T k) (h2 : ∀ k, B k → T k) (h3 : ∀ k, S k → T k) : Keeps T a d :=
  ((h.mono fun k _ e => h1 k e).trans (k.mono fun k _ e => h2 k e)).trans (l.mono fun k _ e => h3 k e)
abbrev BS := Nat → Prop
structure RK (T : BS) (W : World) (T' : BS) (W' : World) : Prop where
  keeps : Keeps T W W'
  sub : ∀ k, T' k → T k ∨ W.heap.size ≤ k
  lt : ∀ k, T' k → k < W'.heap.size
def ye4 {α : Type} (J : BS → BS → List α → World → Prop) : Prop :=
  ∀ {T G G' : BS} {pre : List α} {W W' : World}, J T G pre W → Keeps G W W' → (∀ k, G' k → G k ∨ W.heap.size ≤ k) → (∀ k, G' k → k < W'.heap.size) → J T G' pre W'
def ye6 {α : Type} (J : BS → BS → List α → World → Prop) : Prop :=
  ∀ {T G : BS} {pre : List α} {W : World}, J T G pre W → (∀ k, T k → ¬ G k ∧ k < W.heap.size) ∧ ∀ k, G k → k < W.heap.size
structure Sess (P : Program) (l : Nat) {α : Type} (enc : α → Array Value) (pass : α → FP) (Pr : List α → Prop) (J Jx : BS → BS → List α → World → Prop) : Prop where
  gen : ye4 J
  genx : ye4 Jx
  two : ye6 J
  twox : ye6 Jx
  yld : ∀ {T G : BS} {pre : List α} {x : α} {W : World}, J T G pre W → Pr (pre ++ [x]) → (pass x).P (fun k => T k ∨ G k) W →
    YieldAt Fence.wide 1 P l (enc x) W fun e W' => ∃ T', RK T W T' W' ∧ ((e = .returned (.bool true) ∧ J T' G (pre ++ [x]) W') ∨ (e = .returned (.bool false) ∧ Jx T' G (pre ++ [x]) W'))
def ykB (P : Program) (gf : FuncId) (lb : Array Value) {α : Type} (enc : α → Array Value) (pass : α → FP) (Pr R : List α → Prop) (T0 G0 : BS) (w : World) : Prop :=
  ∀ (l : Nat) (J Jx : BS → BS → List α → World → Prop) (T1 : BS) (w1 : World), Sess P l enc pass Pr J Jx → J T1 G0 [] w1 → Pure w w1 → (∀ k, T1 k → T0 k ∨ w.heap.size ≤ k) →
    CallsIn Fence.wide 2 P gf (#[.func (.yield l) #[] #[]] ++ lb) w1 fun e w' => (∃ v, e = .returned v) ∧ ((∃ xs T G, R xs ∧ J T G xs w') ∨ ∃ pre T G, Jx T G pre w')
structure RL1 (l : Nat) (busy : Obj) (T : BS) (W : World) (T' : BS) (W' : World) : Prop where
  keeps : Keeps (fun k => T k ∨ k = l) W W'
  sub : ∀ k, T' k → T k ∨ W.heap.size ≤ k
  lt : ∀ k, T' k → k < W'.heap.size
  at_ : W'.heap[l]? = some busy
def rndPost (l : Nat) (busy : Obj) {α : Type} (I : BS → BS → List α → World → Prop) (Ix : Option Nat → BS → BS → List α → World → Prop) (T G : BS) (xs : List α) (W : World) : Exit → Act → World → Prop
  | .normal, _, W' => ∃ T', RL1 l busy T W T' W' ∧ I T' G xs W'
  | .ret, _, W' => ∃ T', RL1 l busy T W T' W' ∧ Ix none T' G xs W'
  | .exit id, _, W' => ∃ T', RL1 l busy T W T' W' ∧ Ix (some id) T' G xs W'
  | _, _, _ => False
def jumpOf : Option Nat → Code
  | none => .ret
  | some id => .exit id
theorem ycW (W : World) (l : Nat) (o : Obj) : (W.putObj l o).heap.size = W.heap.size := by simp
theorem yc8 (W : World) (l : Nat) (o : Obj) : Keeps (fun k => k = l) W (W.putObj l o) :=
  ⟨rfl, rfl, rfl, by simp, fun k hk hn => World.putObj_heap_other hn⟩
def JumpTo (P : Program) (N : Nat) (t : List Item) (Q : Exit → Act → World → Prop) (E : Env) (ds : List Deferred) (w : World) : Option Nat → Prop
  | none => ∀ a, Rep N E ds a → Q .ret a w
  | some id => match exitTo id t with
    | some k' => WT Fence.wide 3 P N k' Q E ds w
    | none => ∀ a, Rep N E ds a → Q (.exit id) a w
theorem wpIn_iter {P : Program} {N : Nat} {Q : Exit → Act → World → Prop} {E : Env} {ds : List Deferred} {w : World} {t : List Item} {fo : Operand} {ps : Array Tmp} {assign body : Code} {gf : FuncId} {lb : Array Value} {a : Act}
    (hr : a.eval fo = .func (.func gf) #[] lb) (he : Enters P gf) {α : Type} {enc : α → Array Value} {pass : α → FP} {Pr R : List α → Prop} (hps : ∀ x, (enc x).size = ps.size)
    (T0 G0 : BS) (I : BS → BS → List α → World → Prop) (Ix : Option Nat → BS → BS → List α → World → Prop) (hI : ye4 I) (hI2 : ye6 I) (hIx : ∀ c, ye4 (Ix c)) (hIx2 : ∀ c, ye6 (Ix c)) (h0 : I T0 G0 [] w)
    (hgen : ykB P gf lb enc pass Pr R T0 G0 w)
    (hround : ∀ (l : Nat) (T G : BS) (pre : List α) (x : α) (W : World) (rdy busy : Obj), I T G pre W → Pr (pre ++ [x]) → (pass x).P (fun k => T k ∨ G k) W → G l → W.heap[l]? = some rdy →
      assign.wpIn (Fence.wide.inRound l) 1 P (Exit.then (fun a1 W1 => W1.heap[l]? = some rdy ∧ ∀ W2, W2 = W1.putObj l busy → body.wpIn (Fence.wide.inRound l) 1 P (rndPost l busy I Ix T G (pre ++ [x]) W) a1 W2) (fun _ _ _ => False))
        { tmps := (ps.zip (enc x)).foldl (fun t (p, v) => t.setIfInBounds p v) a.tmps, defers := [] } W)
    (hdone : ∀ (D : Nat) (T G : BS) (xs : List α) (W : World), w.heap.size ≤ D → ¬ T D → G D → R xs → I T G xs W → W.heap[D]? = some (.deferred (some [])) → Q .normal { a with defers := { target := .collected D, args := #[] } :: a.defers } W)
    (hstop : ∀ (D : Nat) (T G : BS) (c : Option Nat) (xs : List α) (W : World), w.heap.size ≤ D → ¬ T D → G D → Ix c T G xs W → W.heap[D]? = some (.deferred (some [])) → (jumpOf c).wpIn Fence.wide 3 P Q { a with defers := { target := .collected D, args := #[] } :: a.defers } W) :
    (Code.rangeFunc fo ps assign body).wpIn Fence.wide 3 P Q a w := by
  refine wpIn_rangeFunc ?_
  intro fn hfn
  obtain ⟨D, hD⟩ : ∃ D, D = w.heap.size := ⟨_, rfl⟩
  obtain ⟨L, hL⟩ : ∃ L, L = w.heap.size + 1 := ⟨_, rfl⟩
  obtain ⟨rec, hrec⟩ : ∃ rec : LoopState → Option Code → Loop, rec = fun st pe => { state := st, pending := pe, fn, tmps := a.tmps, params := ps, assign, body, defers := w.heap.size } := ⟨_, rfl⟩
  obtain ⟨W1, hW1⟩ : ∃ W1, (w.alloc (.deferred (some []))).alloc (.loop (rec .ready none)) = W1 := ⟨_, rfl⟩
  have hL1 : W1.heap[L]? = some (.loop (rec .ready none)) := by
    rw [← hW1, hL]; have := World.alloc_heap_new (w.alloc (.deferred (some []))) (.loop (rec .ready none)); rwa [World.size_alloc] at this
  have hK1 : W1.heap[D]? = some (.deferred (some [])) := by
    rw [← hW1, hD]; exact (Below.heap_alloc _ _ _ (by simp)).trans (World.alloc_heap_new w _)
  have hP1 : Pure w W1 := by rw [← hW1]; exact ((Keeps.refl _ _).alloc _).alloc _
  have hs1 : W1.heap.size = w.heap.size + 2 := by rw [← hW1]; simp
  have two0 := hI2 h0
  refine ⟨L, [{ target := .collected D, args := #[] }], W1, { target := .fn (.func gf) lb, args := #[.func (.yield L) #[] #[]] }, W1, gf, #[.func (.yield L) #[] #[]] ++ lb, W1, ?_, ?_, fun _ _ => trivial, ?_, fun h => (by cases h), ?_⟩
  · rw [← hW1, hrec, hL, hD]; exact run_enterLoop_outer _ _ _ _ _
  · simp only [resolve, hr]
    simp [go_sem]
  · simp [invoke, go_sem, he _ _]
  · have key := hgen L
      (fun Tg G pre W => ∃ T, (∀ k, Tg k ↔ T k ∨ k = L ∨ k = D) ∧ I T (fun k => G k ∨ k = L ∨ k = D) pre W ∧ W.heap[L]? = some (.loop (rec .ready none)) ∧ W.heap[D]? = some (.deferred (some [])) ∧ ¬ G L ∧ ¬ G D ∧ ¬ T D)
      (fun Tg G pre W => ∃ T c, (∀ k, Tg k ↔ T k ∨ k = L ∨ k = D) ∧ Ix c T (fun k => G k ∨ k = L ∨ k = D) pre W ∧ W.heap[L]? = some (.loop (rec .done (some (jumpOf c)))) ∧ W.heap[D]? = some (.deferred (some [])) ∧ ¬ G L ∧ ¬ G D ∧ ¬ T D)
      (fun k => T0 k ∨ k = L ∨ k = D) W1 ⟨?_, ?_, ?_, ?_, ?_⟩ ⟨T0, fun _ => Iff.rfl, ?_, hL1, hK1, ?_, ?_, ?_⟩ hP1 (fun k hk => ?_)
    · refine (show CallsIn Fence.wide (3 - 1) P gf _ W1 _ from key).mono ?_
      rintro e W2 ⟨⟨v, rfl⟩, (⟨xs, Tg, G, hR, T, hT, hi, hl, hd, g1, g2, g3⟩ | ⟨pre, Tg, G, T, c, hT, hi, hl, hd, g1, g2, g3⟩)⟩
      · refine ⟨none, W2.putObj L (.loop { rec .ready none with state := .exhausted }), by have := run_endLoop (P := P) hl (by rw [hrec]; simp); rw [hrec] at this ⊢; exact this, ?_⟩
        have hLl : L < W2.heap.size := (Array.getElem?_eq_some_iff.1 hl).1
        have hlt := (hI2 hi).2
        exact hdone D T _ xs _ (by omega) g3 (.inr (.inr rfl)) hR (hI hi ((yc8 _ _ _).mono fun k _ e => .inr (.inl e)) (fun k h => .inl h) (fun k h => by rw [ycW]; exact hlt k h)) ((World.putObj_heap_other (by omega)).trans hd)
      · refine ⟨some (jumpOf c), W2.putObj L (.loop { rec .done (some (jumpOf c)) with state := .exhausted }), by have := run_endLoop (P := P) hl (by rw [hrec]; simp); rw [hrec] at this ⊢; exact this, ?_⟩
        have hlt := (hIx2 c hi).2
        exact hstop D T _ c pre _ (by omega) g3 (.inr (.inr rfl)) (hIx c hi ((yc8 _ _ _).mono fun k _ e => .inr (.inl e)) (fun k h => .inl h) (fun k h => by rw [ycW]; exact hlt k h)) ((World.putObj_heap_other (by omega)).trans hd)
    · -- the generator's steps
      rintro Tg G G' pre W W' ⟨T, hT, hi, hl, hd, g1, g2, g3⟩ hK hG hGl
      have lL := (Array.getElem?_eq_some_iff.1 hl).1
      have lD := (Array.getElem?_eq_some_iff.1 hd).1
      refine ⟨T, hT, hI hi (hK.mono fun k _ h => .inl h) (fun k h => ?_) (fun k h => ?_), (hK.block L lL g1).trans hl, (hK.block D lD g2).trans hd, fun h => ?_, fun h => ?_, g3⟩
      · rcases h with h | h
        · rcases hG k h with q | q
          · exact .inl (.inl q)
          · exact .inr q
        · exact .inl (.inr h)
      · rcases h with h | h | h
        · exact hGl k h
        · rw [h]; exact Nat.lt_of_lt_of_le lL hK.size
        · rw [h]; exact Nat.lt_of_lt_of_le lD hK.size
      · rcases hG L h with q | q
        · exact g1 q
        · omega
      · rcases hG D h with q | q
        · exact g2 q
        · omega
    · rintro Tg G G' pre W W' ⟨T, c, hT, hi, hl, hd, g1, g2, g3⟩ hK hG hGl
      have lL := (Array.getElem?_eq_some_iff.1 hl).1
      have lD := (Array.getElem?_eq_some_iff.1 hd).1
      refine ⟨T, c, hT, hIx c hi (hK.mono fun k _ h => .inl h) (fun k h => ?_) (fun k h => ?_), (hK.block L lL g1).trans hl, (hK.block D lD g2).trans hd, fun h => ?_, fun h => ?_, g3⟩
      · rcases h with h | h
        · rcases hG k h with q | q
          · exact .inl (.inl q)
          · exact .inr q
        · exact .inl (.inr h)
      · rcases h with h | h | h
        · exact hGl k h
        · rw [h]; exact Nat.lt_of_lt_of_le lL hK.size
        · rw [h]; exact Nat.lt_of_lt_of_le lD hK.size
      · rcases hG L h with q | q
        · exact g1 q
        · omega
      · rcases hG D h with q | q
        · exact g2 q
        · omega
    · rintro Tg G pre W ⟨T, hT, hi, hl, hd, g1, g2, g3⟩
      have lL := (Array.getElem?_eq_some_iff.1 hl).1
      refine ⟨fun k hk => ?_, fun k hk => (hI2 hi).2 k (.inl hk)⟩
      rcases (hT k).1 hk with q | q
      · exact ⟨fun hg => ((hI2 hi).1 k q).1 (.inl hg), ((hI2 hi).1 k q).2⟩
      · rcases q with q | q
        · rw [q]; exact ⟨g1, lL⟩
        · rw [q]; exact ⟨g2, (Array.getElem?_eq_some_iff.1 hd).1⟩
    · rintro Tg G pre W ⟨T, c, hT, hi, hl, hd, g1, g2, g3⟩
      have lL := (Array.getElem?_eq_some_iff.1 hl).1
      refine ⟨fun k hk => ?_, fun k hk => (hIx2 c hi).2 k (.inl hk)⟩
      rcases (hT k).1 hk with q | q
      · exact ⟨fun hg => ((hIx2 c hi).1 k q).1 (.inl hg), ((hIx2 c hi).1 k q).2⟩
      · rcases q with q | q
        · rw [q]; exact ⟨g1, lL⟩
        · rw [q]; exact ⟨g2, (Array.getElem?_eq_some_iff.1 hd).1⟩
    · -- one round
      rintro Tg G pre x W ⟨T, hT, hi, hl, hd, g1, g2, g3⟩ hPr hpass
      have lL := (Array.getElem?_eq_some_iff.1 hl).1
      have lD := (Array.getElem?_eq_some_iff.1 hd).1
      have hy := run_yield (P := P) (args := enc x) hl (by rw [hrec]; exact hps x)
      rw [hrec] at hy
      have hp2 : (pass x).P (fun k => T k ∨ (G k ∨ k = L ∨ k = D)) W := (pass x).sub hpass (fun k _ h => by
        rcases h with h | h | h
        · exact .inl ((hT k).2 (.inl h))
        · exact .inr h
        · exact .inl ((hT k).2 (.inr h)))
      refine ⟨fn, _, assign, body, hy, roundIn_of_wpIn hfn (wpIn_mono (hround L T _ pre x W _ (.loop { rec .ready none with state := .busy }) hi hPr hp2 (.inr (.inl rfl)) hl) ?_)⟩
      rintro e1 a1 V1 hq
      cases e1 with
      | exit id => exact hq.elim
      | ret => exact hq.elim
      | goto l => exact hq.elim
      | panic c => exact hq.elim
      | outgrown => exact hq.elim
      | normal =>
      obtain ⟨hl1, hb1⟩ := hq
      refine ⟨_, run_beginRound hl1 (by rw [hrec]), wpIn_mono (hb1 _ rfl) ?_⟩
      have fin : ∀ (T' : BS) (jump : Option Code) (W3 : World), RL1 L (.loop { rec .ready none with state := .busy }) T W T' W3 →
          (Instr.endRound L jump).run P W3 = .ok (.bool jump.isNone) (W3.putObj L (.loop (rec (if jump.isNone then .ready else .done) jump))) ∧
          (W3.putObj L (.loop (rec (if jump.isNone then .ready else .done) jump))).heap[L]? = some (.loop (rec (if jump.isNone then .ready else .done) jump)) ∧
          (W3.putObj L (.loop (rec (if jump.isNone then .ready else .done) jump))).heap[D]? = some (.deferred (some [])) ∧
          RK Tg W (fun k => T' k ∨ k = L ∨ k = D) (W3.putObj L (.loop (rec (if jump.isNone then .ready else .done) jump))) ∧ Keeps (fun k => k = L) W3 (W3.putObj L (.loop (rec (if jump.isNone then .ready else .done) jump))) ∧ L < W3.heap.size ∧ ¬ T' D := fun T' jump W3 hk3 => by
        have hl3 : W3.heap[L]? = some (.loop { rec .ready none with state := .busy }) := hk3.at_
        have hd3 : W3.heap[D]? = some (.deferred (some [])) := (hk3.keeps.block D (by omega) (fun h => h.elim g3 (fun e => by omega))).trans hd
        have lL3 := (Array.getElem?_eq_some_iff.1 hl3).1
        have hrun := run_endRound (P := P) jump hl3
        rw [hrec] at hrun ⊢
        have hkk := yc8 W3 L (.loop ((fun st pe => ({ state := st, pending := pe, fn, tmps := a.tmps, params := ps, assign, body, defers := w.heap.size } : Loop)) (if jump.isNone then .ready else .done) jump))
        refine ⟨hrun, World.putObj_heap_same lL3, (World.putObj_heap_other (by omega)).trans hd3, ⟨(Keeps.refl (fun _ => False) W).trans' hk3.keeps hkk (T := Tg) (fun k e => e.elim) (fun k e => e.elim (fun e => (hT k).2 (.inl e)) (fun e => (hT k).2 (.inr (.inl e)))) (fun k e => (hT k).2 (.inr (.inl e))), fun k h => ?_, fun k h => ?_⟩, hkk, lL3, fun h => ?_⟩
        · rcases h with h | h
          · rcases hk3.sub k h with q | q
            · exact .inl ((hT k).2 (.inl q))
            · exact .inr (by omega)
          · exact .inl ((hT k).2 (.inr h))
        · rw [ycW]
          rcases h with h | h
          · exact hk3.lt k h
          · rcases h with h | h
            · rw [h]; exact lL3
            · rw [h]; exact (Array.getElem?_eq_some_iff.1 hd3).1
        · rcases hk3.sub D h with q | q
          · exact g3 q
          · omega
      rintro e a3 W3 hp
      cases e with
      | normal =>
        obtain ⟨T', hk3, hi3⟩ := hp
        obtain ⟨hr3, hl4, hd4, hrk, hkk, lL3, hTD⟩ := fin T' none W3 hk3
        exact ⟨_, _, hr3, _, hrk, .inl ⟨rfl, T', fun _ => Iff.rfl, hI hi3 (hkk.mono fun k _ e => .inr (.inl e)) (fun k h => .inl h) (fun k h => by rw [ycW]; exact (hI2 hi3).2 k h), hl4, hd4, g1, g2, hTD⟩⟩
      | ret =>
        obtain ⟨T', hk3, hi3⟩ := hp
        obtain ⟨hr3, hl4, hd4, hrk, hkk, lL3, hTD⟩ := fin T' (some .ret) W3 hk3
        exact ⟨_, _, hr3, _, hrk, .inr ⟨rfl, T', none, fun _ => Iff.rfl, hIx none hi3 (hkk.mono fun k _ e => .inr (.inl e)) (fun k h => .inl h) (fun k h => by rw [ycW]; exact (hIx2 none hi3).2 k h), hl4, hd4, g1, g2, hTD⟩⟩
      | exit id =>
        obtain ⟨T', hk3, hi3⟩ := hp
        obtain ⟨hr3, hl4, hd4, hrk, hkk, lL3, hTD⟩ := fin T' (some (.exit id)) W3 hk3
        exact ⟨_, _, hr3, _, hrk, .inr ⟨rfl, T', some id, fun _ => Iff.rfl, hIx (some id) hi3 (hkk.mono fun k _ e => .inr (.inl e)) (fun k h => .inl h) (fun k h => by rw [ycW]; exact (hIx2 (some id) hi3).2 k h), hl4, hd4, g1, g2, hTD⟩⟩
      | goto t => exact hp.elim
      | panic ch => exact hp.elim
      | outgrown => exact hp.elim
    · have hsz : ∀ k, G0 k → k < w.heap.size := two0.2
      exact hI h0 (G := G0) (hP1.mono fun k _ h => h.elim) (fun k h => h.elim .inl (fun e => .inr (by omega))) (fun k h => h.elim (fun h => by have := hsz k h; omega) (fun e => by omega))
    · intro h; have := two0.2 L h; omega
    · intro h; have := two0.2 D h; omega
    · intro h; have := (two0.1 D h).2; omega
    · rcases hk with h | h
      · exact .inl h
      · exact .inr (by omega)
theorem wt_iter {P : Program} {N : Nat} {Q : Exit → Act → World → Prop} {E : Env} {ds : List Deferred} {w : World} {t : List Item} {fo : Operand} {ps : Array Tmp} {assign body : Code} {gf : FuncId} {lb : Array Value}
    (hr : evE E fo = .func (.func gf) #[] lb) (he : Enters P gf) {α : Type} {val : α → Array Value} {pass : α → FP} {Pr R : List α → Prop} (hps : ∀ x, (val x).size = ps.size) (hpN : ps.toList.all (fun p => Nat.blt p N) = true)
    (T0 G0 : BS) (I : BS → BS → List α → World → Prop) (Ix : Option Nat → BS → BS → List α → World → Prop) (hI : ye4 I) (hI2 : ye6 I) (hIx : ∀ c, ye4 (Ix c)) (hIx2 : ∀ c, ye6 (Ix c)) (h0 : I T0 G0 [] w)
    (hgen : ykB P gf lb val pass Pr R T0 G0 w)
    (hround : ∀ (l : Nat) (T G : BS) (pre : List α) (x : α) (W : World) (rdy busy : Obj), I T G pre W → Pr (pre ++ [x]) → (pass x).P (fun k => T k ∨ G k) W → G l → W.heap[l]? = some rdy →
      WT (Fence.wide.inRound l) 1 P N [.code assign] (fun e a1 W1 => e = .normal ∧ ∃ E1, Rep N E1 [] a1 ∧ W1.heap[l]? = some rdy ∧ ∀ W2, W2 = W1.putObj l busy → WT (Fence.wide.inRound l) 1 P N [.code body] (rndPost l busy I Ix T G (pre ++ [x]) W) E1 [] W2) (setE E (ps.toList.zip (val x).toList)) [] W)
    (hdone : ∀ (D : Nat) (T G : BS) (xs : List α) (W : World), w.heap.size ≤ D → ¬ T D → G D → R xs → I T G xs W → W.heap[D]? = some (.deferred (some [])) → WT Fence.wide 3 P N t Q E ({ target := .collected D, args := #[] } :: ds) W)
    (hstop : ∀ (D : Nat) (T G : BS) (c : Option Nat) (xs : List α) (W : World), w.heap.size ≤ D → ¬ T D → G D → Ix c T G xs W → W.heap[D]? = some (.deferred (some [])) → JumpTo P N t Q E ({ target := .collected D, args := #[] } :: ds) W c) :
    WT Fence.wide 3 P N (.code (.rangeFunc fo ps assign body) :: t) Q E ds w := by
  intro a ra
  let mk : Env → Act := fun E' => { tmps := Array.ofFn (n := N) fun i => E' i, defers := [] }
  have hmk : ∀ E' : Env, (∀ t, N ≤ t → E' t = undef) → Rep N E' [] (mk E') := by
    intro E' h
    refine ⟨by simp [mk], fun t => ?_, rfl⟩
    simp only [mk, Array.getD_eq_getD_getElem?]
    rcases Nat.lt_or_ge t N with ht | ht
    · simp [ht]
    · simp [ht, h t ht]
  have hun : ∀ {E' : Env} {ds' : List Deferred} {a' : Act}, Rep N E' ds' a' → ∀ t, N ≤ t → E' t = undef := by
    intro E' ds' a' h t ht
    rw [← h.get t]
    simp [Array.getD_eq_getD_getElem?, h.size, ht]
  have hpr : ∀ x, Rep N (setE E (ps.toList.zip (val x).toList)) [] { tmps := (ps.zip (val x)).foldl (fun t (p, v) => t.setIfInBounds p v) a.tmps, defers := [] } := by
    intro x
    have h1 : Rep N E [] { tmps := a.tmps, defers := [] } := ⟨ra.size, ra.get, rfl⟩
    have h2 := setE_rep (ps.toList.zip (val x).toList) E [] _ h1 (fun p hp => by
      have := List.all_eq_true.1 hpN p.1 (List.of_mem_zip hp).1
      simpa using this)
    have h3 : (ps.zip (val x)).foldl (fun t (p, v) => t.setIfInBounds p v) a.tmps = (ps.toList.zip (val x).toList).foldl (fun t p => t.setIfInBounds p.1 p.2) a.tmps := by
      rw [← Array.foldl_toList, Array.toList_zip]
    rw [h3]; exact h2
  refine WTa.ofx (wpIn_iter (N := N) (E := E) (ds := ds) (t := t) (a := a) (by rw [ra.eval, hr]) he hps T0 G0 I Ix hI hI2 hIx hIx2 h0 hgen ?_ ?_ ?_)
  · intro l T G pre x W rdy busy hi hp hq hg hl
    refine wpIn_mono (WTa.code (hround l T G pre x W rdy busy hi hp hq hg hl _ (hpr x))) ?_
    rintro e a1 W1 ⟨rfl, E1, r1, h1, h2⟩
    exact ⟨h1, fun W2 hW => WTa.code (h2 W2 hW _ r1)⟩
  · intro D T G xs W hD hT hG hR hi hd
    exact hdone D T G xs W hD hT hG hR hi hd _ ⟨ra.size, ra.get, by rw [ra.defers]⟩
  · intro D T G c xs W hD hT hG hi hd
    have hj := hstop D T G c xs W hD hT hG hi hd
    have ra2 : Rep N E ({ target := .collected D, args := #[] } :: ds) { a with defers := { target := .collected D, args := #[] } :: a.defers } := ⟨ra.size, ra.get, by rw [ra.defers]⟩
    cases c with
    | none => exact WTa.code (WTa.ret (hj _ ra2))
    | some id =>
      refine WTa.code (WTa.leave rfl ?_)
      unfold JumpTo at hj
      cases hq : exitTo id t with
      | none => simp only [hq] at hj ⊢; exact hj _ ra2
      | some k' => simp only [hq] at hj ⊢; exact hj _ ra2
def OwnB (L : Hold) : BS := fun k => ∃ i, (L i).blk = some k
structure Two (w0 : World) (S O G : BS) (W : World) (L : Hold) : Prop where
  pure : Keeps S w0 W
  lt : ∀ k, O k → k < w0.heap.size ∧ ¬ S k
  g : ∀ k, G k → k < W.heap.size ∧ (w0.heap.size ≤ k ∨ S k) ∧ ∀ i, (L i).blk ≠ some k
  ok : ∀ i, (L i).ok 0 (Bl (fun k => O k ∨ G k) L) W
  bd : ∀ i k, (L i).blk = some k → w0.heap.size ≤ k ∨ S k
  nd : ∀ i j k, (L i).blk = some k → (L j).blk = some k → i = j
section
variable {w0 w w' W W' : World} {S O G G' T : BS} {L L' : Hold}
theorem yg2 {js : List Nat} {i k : Nat} (h : (rl (js.map L) i).blk = some k) : ∃ j, js[i]? = some j ∧ (L j).blk = some k := by
  rw [rl_map] at h
  cases hq : js[i]? with
  | none => rw [hq] at h; cases h
  | some j => rw [hq] at h; exact ⟨j, rfl, h⟩
theorem Sep.give (h : Sep w0 S O w L) (js gs : List Nat) (hj : js.Nodup) (hg : gs.Nodup) (hf : allJ (fun j => (j ∉ js) ∨ (L j).blk = none) gs) :
    Two w0 S O (OwnB (rl (gs.map L))) w (rl (js.map L)) ∧ Sep w (OwnB (rl (gs.map L))) (Bl O (rl (js.map L))) w (rl (gs.map L)) := by
  have hdis : ∀ a b k, (rl (js.map L) a).blk = some k → (rl (gs.map L) b).blk = some k → False := fun a b k ha hb => by
    obtain ⟨j1, e1, b1⟩ := yg2 ha
    obtain ⟨j2, e2, b2⟩ := yg2 hb
    have := h.nd j1 j2 k b1 b2
    subst this
    rcases hf.out j1 (List.mem_of_getElem? e2) with q | q
    · exact q (List.mem_of_getElem? e1)
    · rw [q] at b1; cases b1
  have hO : ∀ k, (OwnB L) k → ¬ O k := fun k ⟨i, hi⟩ hk => by
    have := h.lt k hk
    rcases h.bd i k hi with q | q
    · omega
    · exact this.2 q
  have hsz : ∀ i k, (L i).blk = some k → k < w.heap.size := fun i k hk => ((h.ok i).lt hk).2
  have ndl : ∀ (l : List Nat), l.Nodup → ∀ a b k, (rl (l.map L) a).blk = some k → (rl (l.map L) b).blk = some k → a = b := fun l hl a b k ha hb => by
    obtain ⟨j1, e1, b1⟩ := yg2 ha
    obtain ⟨j2, e2, b2⟩ := yg2 hb
    have := h.nd j1 j2 k b1 b2
    subst this
    obtain ⟨l1, q1⟩ := List.getElem?_eq_some_iff.1 e1
    obtain ⟨l2, q2⟩ := List.getElem?_eq_some_iff.1 e2
    exact (List.getElem_inj hl).1 (q1.trans q2.symm)
  have okl : ∀ (l : List Nat) (O' : BS), (∀ k, O' k → Bl O L k) → ∀ i, (rl (l.map L) i).ok 0 O' w := fun l O' ho i => by
    rw [rl_map]
    cases hq : l[i]? with
    | none => trivial
    | some j => exact (h.ok j).sub fun k _ hk => ho k hk
  have inl : ∀ (l : List Nat) k, OwnB (rl (l.map L)) k → OwnB L k := fun l k ⟨i, hi⟩ => by
    obtain ⟨j, _, hb⟩ := yg2 hi
    exact ⟨j, hb⟩
  refine ⟨⟨h.pure, h.lt, fun k hk => ?_, ?_, fun i k hk => ?_, ndl js hj⟩, ⟨Keeps.refl _ _, fun k hk => ?_, ?_, fun i k hk => .inr ⟨i, hk⟩, ndl gs hg⟩⟩
  · obtain ⟨j, hb⟩ := inl gs k hk
    obtain ⟨i, hi⟩ := hk
    exact ⟨hsz j k hb, h.bd j k hb, fun a ha => hdis a i k ha hi⟩
  · refine okl js _ fun k hk => ?_
    rcases hk with (q | q) | q
    · exact .inl q
    · exact .inr (inl gs k q)
    · exact .inr (inl js k q)
  · obtain ⟨j, _, hb⟩ := yg2 hk
    exact h.bd j k hb
  · rcases hk with q | ⟨i, q⟩
    · exact ⟨Nat.lt_of_lt_of_le (h.lt k q).1 h.pure.size, fun hg => hO k (inl gs k hg) q⟩
    · obtain ⟨j, _, hb⟩ := yg2 q
      exact ⟨hsz j k hb, fun ⟨b, hb2⟩ => hdis i b k q hb2⟩
  · refine okl gs _ fun k hk => ?_
    rcases hk with (q | q) | q
    · exact .inl q
    · exact .inr (inl js k q)
    · exact .inr (inl gs k q)
theorem Two.gen (h : Two w0 S O G W L) (hK : Keeps G W W') (hG : ∀ k, G' k → G k ∨ W.heap.size ≤ k) (hl : ∀ k, G' k → k < W'.heap.size) : Two w0 S O G' W' L := by
  have hlt : ∀ i k, (L i).blk = some k → k < W.heap.size := fun i k hk => ((h.ok i).lt hk).2
  refine ⟨h.pure.then hK (fun k hk q => (h.g k q).2.1.elim (fun r => by omega) id), h.lt, fun k hk => ⟨hl k hk, ?_, fun i hi => ?_⟩, fun i => ?_, h.bd, h.nd⟩
  · rcases hG k hk with q | q
    · exact (h.g k q).2.1
    · exact .inl (Nat.le_trans h.pure.size q)
  · rcases hG k hk with q | q
    · exact (h.g k q).2.2 i hi
    · have := hlt i k hi; omega
  · refine (h.ok i).keep hK (fun k hk hg => (h.g k hg).2.2 i hk) (fun k _ hg => .inl (.inr hg)) fun k hk hO => ?_
    rcases hO with (q | q) | q
    · exact .inl (.inl q)
    · rcases hG k q with r | r
      · exact .inl (.inr r)
      · omega
    · exact .inr q
theorem Two.round (h : Two w0 S O G W L) : Sep W (OwnB L) (fun k => O k ∨ G k) W L := by
  refine ⟨Keeps.refl _ _, fun k hk => ?_, h.ok, fun i k hk => .inr ⟨i, hk⟩, h.nd⟩
  rcases hk with q | q
  · refine ⟨Nat.lt_of_lt_of_le (h.lt k q).1 h.pure.size, fun ⟨i, hi⟩ => ?_⟩
    rcases h.bd i k hi with r | r
    · have := (h.lt k q).1; omega
    · exact (h.lt k q).2 r
  · exact ⟨(h.g k q).1, fun ⟨i, hi⟩ => (h.g k q).2.2 i hi⟩
theorem Two.back (h : Two w0 S O G W L) (hS : Sep W (OwnB L) (fun k => O k ∨ G k) W' L') : Two w0 S O G W' L' ∧ RK (Bl O L) W (Bl O L') W' := by
  have hbd : ∀ i k, (L' i).blk = some k → OwnB L k ∨ W.heap.size ≤ k := fun i k hk => (hS.bd i k hk).symm
  refine ⟨⟨h.pure.then hS.pure (fun k hk ⟨i, hi⟩ => (h.bd i k hi).elim (fun r => by omega) id), h.lt, fun k hk => ⟨Nat.lt_of_lt_of_le (h.g k hk).1 hS.pure.size, (h.g k hk).2.1, fun i hi => ?_⟩, hS.ok, fun i k hk => ?_, hS.nd⟩, ⟨hS.pure.mono fun k _ q => .inr q, fun k hk => ?_, fun k hk => ?_⟩⟩
  · rcases hbd i k hi with ⟨j, q⟩ | q
    · exact (h.g k hk).2.2 j q
    · have := (h.g k hk).1; omega
  · rcases hbd i k hk with ⟨j, q⟩ | q
    · exact h.bd j k q
    · exact .inl (Nat.le_trans h.pure.size q)
  · rcases hk with q | ⟨i, q⟩
    · exact .inl (.inl q)
    · rcases hbd i k q with r | r
      · exact .inl (.inr r)
      · exact .inr r
  · rcases hk with q | ⟨i, q⟩
    · exact Nat.lt_of_lt_of_le (h.lt k q).1 (Nat.le_trans h.pure.size hS.pure.size)
    · exact ((hS.ok i).lt q).2
end
def IV {α : Type} (w0 : World) (S O : BS) (V : List α → List Res → Prop) : BS → BS → List α → World → Prop := fun T G pre W => ∃ LL, T = Bl O (rl LL) ∧ Two w0 S O G W (rl LL) ∧ V pre LL
theorem IV.gen {α : Type} (w0 : World) (S O : BS) (V : List α → List Res → Prop) : ye4 (IV w0 S O V) := by
  rintro T G G' pre W W' ⟨L, rfl, h, hV⟩ hK hG hl
  exact ⟨L, rfl, h.gen hK hG hl, hV⟩
theorem IV.two {α : Type} (w0 : World) (S O : BS) (V : List α → List Res → Prop) : ye6 (IV w0 S O V) := by
  rintro T G pre W ⟨L, rfl, h, hV⟩
  refine ⟨fun k hk => ?_, fun k hk => (h.g k hk).1⟩
  rcases hk with q | ⟨i, q⟩
  · refine ⟨fun hg => ?_, Nat.lt_of_lt_of_le (h.lt k q).1 h.pure.size⟩
    rcases (h.g k hg).2.1 with r | r
    · have := (h.lt k q).1; omega
    · exact (h.lt k q).2 r
  · exact ⟨fun hg => (h.g k hg).2.2 i q, ((h.ok i).lt q).2⟩
def dfr (D : Nat) : Res := .obj D (.deferred (some []))
theorem yg4 : ∀ (LL : List Res) (r : Res), rl (LL ++ [r]) = stl (rl LL) LL.length r
  | [], r => by funext i; cases i <;> rfl
  | x :: t, r => by
    funext i
    cases i with
    | zero => rfl
    | succ i =>
      show rl (t ++ [r]) i = _
      rw [yg4 t r]
      by_cases e : i = t.length
      · subst e; rw [yaT, List.length_cons, yaT]
      · rw [yaG _ _ e, List.length_cons, yaG _ _ (by omega)]; rfl
theorem ycS : ∀ (LL : List Res), rl LL LL.length = .gone
  | [] => rfl
  | _ :: t => ycS t
theorem Two.take {w0 W : World} {S O G : BS} {L : Hold} (h : Two w0 S O G W L) {D i : Nat} {o : Obj} (hi : L i = .gone) (hD : G D) (hd : W.heap[D]? = some o) :
    (∀ j, (stl L i (.obj D o) j).ok 0 (Bl (fun k => O k ∨ G k) L) W) ∧ (∀ k, Bl (fun k => O k ∨ (G k ∧ k ≠ D)) (stl L i (.obj D o)) k → Bl (fun k => O k ∨ G k) L k) ∧ (∀ a b k, (stl L i (.obj D o) a).blk = some k → (stl L i (.obj D o) b).blk = some k → a = b) ∧ ∀ j k, (stl L i (.obj D o) j).blk = some k → OwnB L k ∨ k = D := by
  refine ⟨fun j => ?_, ?_, fun a b k ha hb' => ?_, fun j k hk => ?_⟩
  · by_cases e : j = i
    · subst e; rw [yaT]; exact ⟨Nat.zero_le _, hd⟩
    · rw [yaG _ _ e]; exact h.ok j
  · rintro k ((q | q) | ⟨j, q⟩)
    · exact .inl (.inl q)
    · exact .inl (.inr q.1)
    · by_cases e : j = i
      · subst e; rw [yaT] at q; cases q; exact .inl (.inr hD)
      · rw [yaG _ _ e] at q; exact .inr ⟨j, q⟩
  · have key : ∀ a b, a ≠ i → b = i → (stl L i (.obj D o) a).blk = some k → (stl L i (.obj D o) b).blk = some k → False := fun a b h1 h2 ha hb' => by
      subst h2
      rw [yaG _ _ h1] at ha
      rw [yaT] at hb'
      cases hb'
      exact (h.g D hD).2.2 a ha
    by_cases e1 : a = i
    · by_cases e2 : b = i
      · omega
      · exact (key b a e2 e1 hb' ha).elim
    · by_cases e2 : b = i
      · exact (key a b e1 e2 ha hb').elim
      · rw [yaG _ _ e1] at ha; rw [yaG _ _ e2] at hb'; exact h.nd _ _ k ha hb'
  · by_cases e : j = i
    · subst e; rw [yaT] at hk; cases hk; exact .inr rfl
    · rw [yaG _ _ e] at hk; exact .inl ⟨j, hk⟩
theorem Two.mark {w0 W : World} {S O G : BS} {LL : List Res} (h : Two w0 S O G W (rl LL)) {D : Nat} (hD : G D) (hd : W.heap[D]? = some (.deferred (some []))) : Sep w0 S O W (rl (LL ++ [dfr D])) := by
  obtain ⟨h1, h2, h3, h4⟩ := h.take (ycS LL) hD hd
  rw [yg4]
  refine ⟨h.pure, h.lt, fun j => (h1 j).sub fun k _ hk => h2 k (hk.elim (fun q => .inl (.inl q)) .inr), fun j k hk => ?_, h3⟩
  rcases h4 j k hk with ⟨i, q⟩ | q
  · exact h.bd i k q
  · rw [q]; exact (h.g D hD).2.1
theorem Two.open_ {w0 W : World} {S O G : BS} {LL : List Res} (h : Two w0 S O G W (rl LL)) {l : Nat} {o : Obj} (hG : G l) (hl : W.heap[l]? = some o) : Sep W (fun k => OwnB (rl LL) k ∨ k = l) (fun k => O k ∨ (G k ∧ k ≠ l)) W (rl (LL ++ [.obj l o])) := by
  obtain ⟨h1, h2, h3, h4⟩ := h.take (ycS LL) hG hl
  rw [yg4]
  have hr := h.round
  refine ⟨Keeps.refl _ _, fun k hk => ?_, fun j => (h1 j).sub fun k _ hk => h2 k hk, fun j k hk => .inr (h4 j k hk), h3⟩
  rcases hk with q | q
  · have := hr.lt k (.inl q)
    refine ⟨this.1, fun h5 => h5.elim this.2 fun e => ?_⟩
    subst e
    rcases (h.g k hG).2.1 with r | r
    · have := (h.lt k q).1; omega
    · exact (h.lt k q).2 r
  · have := hr.lt k (.inr q.1)
    exact ⟨this.1, fun h5 => h5.elim this.2 q.2⟩
theorem Sep.flip {w0 w w' : World} {S O : BS} {L : Hold} (h : Sep w0 S O w L) (i : Nat) {l : Nat} {o : Obj} (hi : L i = .obj l o) (o' : Obj) (hw : w' = w.putObj l o') : Sep w0 S O w' (stl L i (.obj l o')) := by
  have hl : w.heap[l]? = some o := by have := h.ok i; rw [hi] at this; exact this.2
  subst hw
  exact h.upd i _ (T := fun k => k = l) (yc8 _ _ _) (fun k _ e => by rw [hi, e]; rfl) (fun k hk => by cases hk; rw [hi]; exact .inl rfl) ⟨Nat.zero_le _, World.putObj_heap_same (Array.getElem?_eq_some_iff.1 hl).1⟩
theorem Two.close {w0 W W' : World} {S O G : BS} {LL LL' : List Res} (h : Two w0 S O G W (rl LL)) {l : Nat} {busy : Obj} (hG : G l)
    (hS : Sep W (fun k => OwnB (rl LL) k ∨ k = l) (fun k => O k ∨ (G k ∧ k ≠ l)) W' (rl (LL' ++ [.obj l busy]))) : Two w0 S O G W' (rl LL') ∧ RL1 l busy (Bl O (rl LL)) W (Bl O (rl LL')) W' := by
  rw [yg4] at hS
  have ho : ∀ i, i ≠ LL'.length → stl (rl LL') LL'.length (.obj l busy) i = rl LL' i := fun i hi => yaG _ _ hi
  have hne : ∀ i k, (rl LL' i).blk = some k → i ≠ LL'.length := fun i k hk e => by rw [e, ycS] at hk; cases hk
  have hbl : ∀ k, Bl (fun k => O k ∨ G k) (rl LL') k → Bl (fun k => O k ∨ (G k ∧ k ≠ l)) (stl (rl LL') LL'.length (.obj l busy)) k := by
    rintro k ((q | q) | ⟨j, q⟩)
    · exact .inl (.inl q)
    · by_cases e : k = l
      · exact .inr ⟨LL'.length, by rw [yaT, e]; rfl⟩
      · exact .inl (.inr ⟨q, e⟩)
    · exact .inr ⟨j, by rw [ho j (hne j k q)]; exact q⟩
  have hnl : ∀ i k, (rl LL' i).blk = some k → k ≠ l := fun i k hk e => by
    subst e
    have := hS.nd i LL'.length k (by rw [ho i (hne i k hk)]; exact hk) (by rw [yaT]; rfl)
    exact hne i k hk this
  have hbd : ∀ i k, (rl LL' i).blk = some k → OwnB (rl LL) k ∨ W.heap.size ≤ k := fun i k hk => by
    rcases hS.bd i k (by rw [ho i (hne i k hk)]; exact hk) with q | q | q
    · exact .inr q
    · exact .inl q
    · exact absurd q (hnl i k hk)
  have hok : ∀ i, (rl LL' i).ok 0 (Bl (fun k => O k ∨ G k) (rl LL')) W' := fun i => by
    by_cases e : i = LL'.length
    · rw [e, ycS]; trivial
    · have := hS.ok i
      rw [ho i e] at this
      exact this.sub fun k _ hk => hbl k hk
  have hat : W'.heap[l]? = some busy := by have := hS.ok LL'.length; rw [yaT] at this; exact this.2
  refine ⟨⟨h.pure.then hS.pure (fun k hk q => ?_), h.lt, fun k hk => ⟨Nat.lt_of_lt_of_le (h.g k hk).1 hS.pure.size, (h.g k hk).2.1, fun i hi => ?_⟩, hok, fun i k hk => ?_, fun i j k hi hj => hS.nd i j k (by rw [ho i (hne i k hi)]; exact hi) (by rw [ho j (hne j k hj)]; exact hj)⟩, ⟨hS.pure.mono fun k _ q => q.elim (fun q => .inl (.inr q)) .inr, fun k hk => ?_, fun k hk => ?_, hat⟩⟩
  · rcases q with ⟨i, q⟩ | q
    · exact (h.bd i k q).elim (fun r => by omega) id
    · rw [q] at hk ⊢; exact (h.g l hG).2.1.elim (fun r => by omega) id
  · rcases hbd i k hi with ⟨j, q⟩ | q
    · exact (h.g k hk).2.2 j q
    · have := (h.g k hk).1; omega
  · rcases hbd i k hk with ⟨j, q⟩ | q
    · exact h.bd j k q
    · exact .inl (Nat.le_trans h.pure.size q)
  · rcases hk with q | ⟨i, q⟩
    · exact .inl (.inl q)
    · rcases hbd i k q with r | r
      · exact .inl (.inr r)
      · exact .inr r
  · rcases hk with q | ⟨i, q⟩
    · exact Nat.lt_of_lt_of_le (h.lt k q).1 (Nat.le_trans h.pure.size hS.pure.size)
    · exact ((hok i).lt q).2
def rndS {α : Type} (l : Nat) (busy : Obj) (W : World) (S O : BS) (V : List α → List Res → Prop) (Vx : Option Nat → List α → List Res → Prop) (xs : List α) : Exit → Act → World → Prop
  | .normal, _, W' => ∃ LL, V xs LL ∧ Sep W S O W' (rl (LL ++ [.obj l busy]))
  | .ret, _, W' => ∃ LL, Vx none xs LL ∧ Sep W S O W' (rl (LL ++ [.obj l busy]))
  | .exit id, _, W' => ∃ LL, Vx (some id) xs LL ∧ Sep W S O W' (rl (LL ++ [.obj l busy]))
  | _, _, _ => False
theorem wt_iterS {P : Program} {N : Nat} {Q : Exit → Act → World → Prop} {E : Env} {ds : List Deferred} {w0 w : World} {S O : BS} {L : Hold} {t : List Item} {fo : Operand} {ps : Array Tmp} {assign body : Code} {gf : FuncId} {lb : Array Value}
    (hS : Sep w0 S O w L) (js gs : List Nat) (hj : js.Nodup) (hg : gs.Nodup) (hf : allJ (fun j => (j ∉ js) ∨ (L j).blk = none) gs)
    (hr : evE E fo = .func (.func gf) #[] lb) (he : Enters P gf) {α : Type} {val : α → Array Value} {pass : α → FP} {Pr R : List α → Prop} (hps : ∀ x, (val x).size = ps.size) (hpN : ps.toList.all (fun p => Nat.blt p N) = true)
    (V : List α → List Res → Prop) (Vx : Option Nat → List α → List Res → Prop) (h0 : V [] (js.map L))
    (hgen : ∀ T G, Sep w G T w (rl (gs.map L)) → ykB P gf lb val pass Pr R T G w)
    (hround : ∀ (l : Nat) (rdy busy : Obj) (S1 O1 : BS) (pre : List α) (x : α) (W : World) (LL : List Res), V pre LL → Pr (pre ++ [x]) → (pass x).P (Bl O1 (rl (LL ++ [.obj l rdy]))) W → Sep W S1 O1 W (rl (LL ++ [.obj l rdy])) →
      WT (Fence.wide.inRound l) 1 P N [.code assign] (fun e a1 W1 => e = .normal ∧ ∃ E1 L1, Rep N E1 [] a1 ∧ Sep W S1 O1 W1 L1 ∧ (∃ i, L1 i = .obj l rdy) ∧ ∀ W2, W2 = W1.putObj l busy → WT (Fence.wide.inRound l) 1 P N [.code body] (rndS l busy W S1 O1 V Vx (pre ++ [x])) E1 [] W2) (setE E (ps.toList.zip (val x).toList)) [] W)
    (hdone : ∀ (D : Nat) (xs : List α) (W : World) (LL : List Res), R xs → V xs LL → Sep w0 S O W (rl (LL ++ [dfr D])) → WT Fence.wide 3 P N t Q E (mark D :: ds) W)
    (hstop : ∀ (D : Nat) (c : Option Nat) (xs : List α) (W : World) (LL : List Res), Vx c xs LL → Sep w0 S O W (rl (LL ++ [dfr D])) → JumpTo P N t Q E (mark D :: ds) W c) :
    WT Fence.wide 3 P N (.code (.rangeFunc fo ps assign body) :: t) Q E ds w := by
  obtain ⟨hT, hG⟩ := hS.give js gs hj hg hf
  refine wt_iter hr he hps hpN (Bl O (rl (js.map L))) (OwnB (rl (gs.map L))) (IV w0 S O V) (fun c => IV w0 S O (Vx c)) (IV.gen _ _ _ _) (IV.two _ _ _ _) (fun c => IV.gen _ _ _ _) (fun c => IV.two _ _ _ _) ⟨_, rfl, hT, h0⟩ (hgen _ _ hG) ?_ ?_ ?_
  · rintro l T G pre x W rdy busy ⟨LL, rfl, h, hV⟩ hPr hp hGl hl
    have hb := hround l rdy busy (fun k => OwnB (rl LL) k ∨ k = l) (fun k => O k ∨ (G k ∧ k ≠ l)) pre x W LL hV hPr ((pass x).sub hp fun k _ hk => by
      rw [yg4] at hk
      rcases (h.take (ycS LL) hGl hl).2.1 k hk with (q | q) | q
      · exact .inl (.inl q)
      · exact .inr q
      · exact .inl (.inr q)) (h.open_ hGl hl)
    intro a ra b k cs h1 h2 h3
    obtain ⟨e, a', w', ⟨rfl, E1, L1, r1, s1, ⟨i, hi⟩, hq⟩, harr⟩ := hb a ra b k cs h1 h2 h3
    refine ⟨.normal, a', w', ⟨rfl, E1, r1, by have := s1.ok i; rw [hi] at this; exact this.2, fun W2 hW2 => ?_⟩, harr⟩
    intro a2 ra2 b2 k2 cs2 g1 g2 g3
    obtain ⟨e, a3, w3, hq, harr3⟩ := hq W2 hW2 a2 ra2 b2 k2 cs2 g1 g2 g3
    refine ⟨e, a3, w3, ?_, harr3⟩
    cases e with
    | normal => obtain ⟨L2, v2, s2⟩ := hq; obtain ⟨t2, r2⟩ := h.close hGl s2; exact ⟨_, r2, L2, rfl, t2, v2⟩
    | ret => obtain ⟨L2, v2, s2⟩ := hq; obtain ⟨t2, r2⟩ := h.close hGl s2; exact ⟨_, r2, L2, rfl, t2, v2⟩
    | exit id => obtain ⟨L2, v2, s2⟩ := hq; obtain ⟨t2, r2⟩ := h.close hGl s2; exact ⟨_, r2, L2, rfl, t2, v2⟩
    | goto t => exact hq.elim
    | panic ch => exact hq.elim
    | outgrown => exact hq.elim
  · rintro D T G xs W hD hTD hGD hR ⟨L', rfl, h, hV⟩ hd
    exact hdone D xs W L' hR hV (h.mark hGD hd)
  · rintro D T G c xs W hD hTD hGD ⟨L', rfl, h, hV⟩ hd
    exact hstop D c xs W L' hV (h.mark hGD hd)
section
variable {P : Program} {l : Nat} {α : Type} {val : α → Array Value} {pass : α → FP} {Pr : List α → Prop} {J Jx K : BS → BS → List α → World → Prop}
theorem Sep.yielded {wb w W' : World} {G T T' : BS} {L : Hold} (h : Sep wb G T w L) (hr : RK T w T' W') : Sep W' (OwnB L) T' W' L := by
  have hlt : ∀ i k, (L i).blk = some k → k < w.heap.size := fun i k hk => ((h.ok i).lt hk).2
  have hnT : ∀ i k, (L i).blk = some k → ¬ T k := fun i k hk hT => by
    rcases h.bd i k hk with r | r
    · have := (h.lt k hT).1; omega
    · exact (h.lt k hT).2 r
  refine ⟨Keeps.refl _ _, fun k hk => ⟨hr.lt k hk, fun ⟨i, hi⟩ => ?_⟩, fun i => ?_, fun i k hk => .inr ⟨i, hk⟩, h.nd⟩
  · rcases hr.sub k hk with q | q
    · exact hnT i k hi q
    · have := hlt i k hi; omega
  · refine (h.ok i).keep hr.keeps (fun k hk => hnT i k hk) (fun k _ hk => .inl hk) fun k hk hO => ?_
    rcases hO with q | q
    · rcases hr.sub k q with r | r
      · exact .inl r
      · omega
    · exact .inr q
theorem gen_yield (hs : Sess P l val pass Pr J Jx) {T G : BS} {pre : List α} {x : α} {wb w : World} {L : Hold} (hJ : J T G pre wb) (hS : Sep wb G T w L) (hPr : Pr (pre ++ [x])) (hp : (pass x).P (Bl T L) w)
    {Rr : Ending → World → Prop} (h1 : ∀ T' W', J T' (OwnB L) (pre ++ [x]) W' → Sep W' (OwnB L) T' W' L → Rr (.returned (.bool true)) W') (h2 : ∀ T' W', Jx T' (OwnB L) (pre ++ [x]) W' → Sep W' (OwnB L) T' W' L → Rr (.returned (.bool false)) W') :
    YieldAt Fence.wide 1 P l (val x) w Rr := by
  have hJ2 : J T (OwnB L) pre w := hs.gen hJ hS.pure (fun k ⟨i, hi⟩ => (hS.bd i k hi).elim (fun q => .inr (by have := hS.pure.size; omega)) .inl) (fun k ⟨i, hi⟩ => ((hS.ok i).lt hi).2)
  obtain ⟨fn, tmps, assign, body, hy, hR⟩ := hs.yld hJ2 hPr hp
  refine ⟨fn, tmps, assign, body, hy, hR.mono ?_⟩
  rintro e W' ⟨T', hr, (⟨rfl, hj⟩ | ⟨rfl, hj⟩)⟩
  · exact h1 T' W' hj (hS.yielded hr)
  · exact h2 T' W' hj (hS.yielded hr)
theorem gen_end (hs : Sess P l val pass Pr J Jx) {T G : BS} {pre : List α} {wb w : World} {L : Hold} {R : List α → Prop} (hJ : J T G pre wb) (hS : Sep wb G T w L) (hR : R pre) :
    (∃ xs T G, R xs ∧ J T G xs w) ∨ ∃ pre T G, Jx T G pre w :=
  .inl ⟨pre, T, OwnB L, hR, hs.gen hJ hS.pure (fun k ⟨i, hi⟩ => (hS.bd i k hi).elim (fun q => .inr (by have := hS.pure.size; omega)) .inl) (fun k ⟨i, hi⟩ => ((hS.ok i).lt hi).2)⟩
theorem gen_endx (hs : Sess P l val pass Pr J Jx) {T G : BS} {pre : List α} {wb w : World} {L : Hold} {R : List α → Prop} (hJ : Jx T G pre wb) (hS : Sep wb G T w L) :
    (∃ xs T G, R xs ∧ J T G xs w) ∨ ∃ pre T G, Jx T G pre w :=
  .inr ⟨pre, T, OwnB L, hs.genx hJ hS.pure (fun k ⟨i, hi⟩ => (hS.bd i k hi).elim (fun q => .inr (by have := hS.pure.size; omega)) .inl) (fun k ⟨i, hi⟩ => ((hS.ok i).lt hi).2)⟩
end
theorem gen_start {P : Program} {l : Nat} {α : Type} {val : α → Array Value} {pass : α → FP} {Pr : List α → Prop} {J Jx : BS → BS → List α → World → Prop} {T T1 G : BS} {w w1 : World} {L : Hold}
    (h : Sep w G T w L) (hs : Sess P l val pass Pr J Jx) (hJ : J T1 G [] w1) (hp : Pure w w1) (hT : ∀ k, T1 k → T k ∨ w.heap.size ≤ k) : ∃ G1, J T1 G1 [] w1 ∧ Sep w1 G1 T1 w1 L := by
  have hS := h.yielded (T' := T1) ⟨hp.mono fun k _ q => q.elim, hT, fun k hk => ((hs.two hJ).1 k hk).2⟩
  refine ⟨OwnB L, hs.gen hJ (Keeps.refl _ _) (fun k ⟨i, hi⟩ => ?_) (fun k ⟨i, hi⟩ => ((hS.ok i).lt hi).2), hS⟩
  rcases h.bd i k hi with q | q
  · have := ((h.ok i).lt hi).2; omega
  · exact .inl q
theorem yjY {P : Program} {f : FuncId} {fn : Func} {c : Code} {args : Array Value} {l : List Value} {w : World} {R : Ending → World → Prop} {N : Nat} (hf : P.funcs[f]? = some fn) (hb : fn.body = some c) (hN : fn.ntmps = N) (hl : l.length ≤ N) (ha : args = l.toArray)
    (h : WT Fence.wide 2 P N [.code c] (bodyPost P fn R) (lenv l) [] w) : CallsIn Fence.wide 2 P f args w R := by
  subst ha
  refine callsIn_of_wp hf hb trivial (WTa.code (h _ ⟨?_, lenv_eq l _, rfl⟩)) rfl
  simp
  omega
def FP.tt : FP := ⟨fun _ _ => True, fun h _ => h, fun h _ => h⟩
theorem yfD {F : Fence} {n : Nat} {P : Program} {fn : Func} {tmps : Array Value} {R : Ending → World → Prop} : ∀ (rs : List Nat) (W : World), rs.Nodup → (∀ r ∈ rs, W.heap[r]? = some (Obj.deferred (some []))) →
    (∀ W' : World, Keeps (fun k => k ∈ rs) W W' → LeavesIn F n P fn tmps R [] .returning W') → LeavesInM F n P fn tmps R (rs.map mark) .returning W := by
  intro rs
  induction rs with
  | nil => intro W _ _ h; exact h W (Keeps.refl _ _)
  | cons r rs ih =>
    intro W hn hd h
    have hr := hd r (by simp)
    have hnr := List.nodup_cons.1 hn
    refine ⟨by simp, .inl ⟨r, _, rfl, run_takeDeferred hr, ?_⟩⟩
    refine ih (W.putObj r (.deferred none)) hnr.2 (fun q hq => ?_) fun W' hK => ?_
    · rw [World.putObj_heap_other (by rintro rfl; exact hnr.1 hq)]; exact hd q (by simp [hq])
    · exact h W' (((yc8 W r _).mono fun k _ e => by subst e; simp).trans (hK.mono fun k _ e => by simp [e]))
theorem Sep.unmark {w0 w w' : World} {S O : BS} {L : Hold} (h : Sep w0 S O w L) {rs : List Nat} (is js : List Nat) (hj : js.Nodup) (hd : ∀ i ∈ is, i ∉ js) (hm : ∀ r ∈ rs, ∃ i ∈ is, (L i).blk = some r) (hK : Keeps (fun k => k ∈ rs) w w') : Sep w0 S O w' (rl (js.map L)) := by
  have h2 := h.step (w' := w') (L' := fun j => if j ∈ is then .gone else L j) (T := fun k => k ∈ rs) hK (fun k _ hk => by obtain ⟨i, _, hi⟩ := hm k hk; exact ⟨i, hi⟩)
    (fun j k hk => by
      by_cases e : j ∈ is
      · simp only [if_pos e] at hk; cases hk
      · simp only [if_neg e] at hk; exact .inl ⟨j, hk⟩)
    (fun j => by
      by_cases e : j ∈ is
      · simp only [if_pos e]; exact .inr trivial
      · refine .inl ⟨j, by simp only [if_neg e], fun k hk hr => ?_⟩
        obtain ⟨i, hi, hb⟩ := hm k hr
        have := h.nd i j k hb hk
        subst this
        exact e hi)
    (fun a b k ha hb => by
      by_cases e1 : a ∈ is
      · simp only [if_pos e1] at ha; cases ha
      · by_cases e2 : b ∈ is
        · simp only [if_pos e2] at hb; cases hb
        · simp only [if_neg e1] at ha; simp only [if_neg e2] at hb; exact h.nd a b k ha hb)
  have h3 := h2.sel js hj
  have e : js.map (fun j => if j ∈ is then Res.gone else L j) = js.map L := List.map_congr_left fun j hjj => by
    rw [if_neg fun q => hd j q hjj]
  rw [e] at h3
  exact h3
section
variable {P : Program} {fn : Func} {N : Nat} {t : List Item} {R : Ending → World → Prop} {E : Env} {w : World} {rs : List Nat} {a : Act}
theorem wt_retn (hn : rs.Nodup) (hd : ∀ r ∈ rs, w.heap[r]? = some (Obj.deferred (some []))) (h : ∀ a, Rep N E (rs.map mark) a → ∀ W', Keeps (fun k => k ∈ rs) w W' → LeavesIn Fence.wide 3 P fn a.tmps R [] .returning W') : WT Fence.wide 3 P N (.code .ret :: t) (bodyPostM Fence.wide 3 P fn R) E (rs.map mark) w :=
  yfJ fun a r => by
    have hd' := r.defers
    show LeavesInM _ _ _ _ _ _ a.defers _ _
    rw [hd']
    exact yfD rs w hn hd fun W' hk => h a r W' hk
theorem wt_retk1 {t1 : Tmp} {v1 : Value} (hn : rs.Nodup) (hd : ∀ r ∈ rs, w.heap[r]? = some (Obj.deferred (some []))) (hr : fn.results = #[.tmp t1]) (h1 : E t1 = v1) (h : ∀ w', Keeps (fun k => k ∈ rs) w w' → R (.returned v1) w') : WT Fence.wide 3 P N (.code .ret :: t) (bodyPostM Fence.wide 3 P fn R) E (rs.map mark) w :=
  wt_retn hn hd fun a r W' hk => ⟨_, results_tmp hr _ _ _, by rw [r.get, h1]; exact h W' hk⟩
theorem wt_retk2 {t1 t2 : Tmp} {v1 v2 : Value} (hn : rs.Nodup) (hd : ∀ r ∈ rs, w.heap[r]? = some (Obj.deferred (some []))) (hr : fn.results = #[.tmp t1, .tmp t2]) (h1 : E t1 = v1) (h2 : E t2 = v2) (h : ∀ w', Keeps (fun k => k ∈ rs) w w' → R (.returned (.tuple #[v1, v2])) w') : WT Fence.wide 3 P N (.code .ret :: t) (bodyPostM Fence.wide 3 P fn R) E (rs.map mark) w :=
  wt_retn hn hd fun a r W' hk => ⟨_, results_tmp2 hr _ _ _, by rw [r.get, r.get, h1, h2]; exact h W' hk⟩
end
theorem Sep.marked {w0 w : World} {S O : BS} {L : Hold} (h : Sep w0 S O w L) (i : Nat) {D : Nat} (hi : L i = dfr D) : ∀ r ∈ [D], w.heap[r]? = some (Obj.deferred (some [])) := fun r hr => by
  rw [List.mem_singleton] at hr
  subst hr
  have := h.ok i
  rw [hi] at this
  exact this.2
theorem ykd {L : Hold} (i : Nat) {D : Nat} (hi : L i = dfr D) : ∀ r ∈ [D], ∃ j ∈ [i], (L j).blk = some r := fun r hr => by
  rw [List.mem_singleton] at hr
  subst hr
  exact ⟨i, by simp, by rw [hi]; rfl⟩
theorem results_cell2 {P : Program} {fn : Func} {p1 p2 : Tmp} {y1 y2 : TypeId} (h : fn.results = #[.cell p1 y1, .cell p2 y2]) {tmps : Array Value} {w : World} {a1 a2 : Addr} {v1 v2 : Value} {u1 u2 : TypeDesc} (h1 : tmps.getD p1 undef = .pointer (some a1)) (h2 : tmps.getD p2 undef = .pointer (some a2))
    (hu1 : P.underlying y1 = some u1) (hn1 : aggD u1 = false) (hu2 : P.underlying y2 = some u2) (hn2 : aggD u2 = false) (c1 : w.cell? a1 = some v1) (c2 : w.cell? a2 = some v2) : (results fn tmps).run P w = .ok (.tuple #[v1, v2]) w := by
  have l1 : (loadVar y1 a1).run P w = .ok v1 w := by
    simp only [loadVar, Sem.run_bind, Result.andThen, yeA hu1 hn1, ygt a1 v1 c1, Bool.false_eq_true, if_false]
  have l2 : (loadVar y2 a2).run P w = .ok v2 w := by
    simp only [loadVar, Sem.run_bind, Result.andThen, yeA hu2 hn2, ygt a2 v2 c2, Bool.false_eq_true, if_false]
  have g1 : tmps[p1]?.getD undef = .pointer (some a1) := by simpa using h1
  have g2 : tmps[p2]?.getD undef = .pointer (some a2) := by simpa using h2
  simp [results, h, g1, g2, asAddr, Sem.run_bind, Result.andThen, l1, l2]
section
variable {P : Program} {fn : Func} {N : Nat} {t : List Item} {R : Ending → World → Prop} {E : Env} {w : World} {rs : List Nat}
theorem q_retc2 {w0 : World} {S O : BS} {L : Hold} (hS : Sep w0 S O w L) {t1 t2 : Tmp} {y1 y2 : TypeId} {g1 g2 : Nat} {v1 v2 : Value} {u1 u2 : TypeDesc} {e1 e2 : TypeId} (i1 i2 : Nat) (hi1 : L i1 = .box e1 g1 [v1]) (hi2 : L i2 = .box e2 g2 [v2]) (is : List Nat) (hm : ∀ r ∈ rs, ∃ i ∈ is, (L i).blk = some r) (hd1 : i1 ∉ is) (hd2 : i2 ∉ is)
    (hn : rs.Nodup) (hd : ∀ r ∈ rs, w.heap[r]? = some (Obj.deferred (some []))) (hr : fn.results = #[.cell t1 y1, .cell t2 y2]) (h1 : E t1 = .pointer (some ⟨g1, 0, none⟩)) (h2 : E t2 = .pointer (some ⟨g2, 0, none⟩))
    (hu1 : P.underlying y1 = some u1) (hn1 : aggD u1 = false) (hu2 : P.underlying y2 = some u2) (hn2 : aggD u2 = false) (h : ∀ w', Keeps (fun k => k ∈ rs) w w' → R (.returned (.tuple #[v1, v2])) w') :
    ∀ a, Rep N E (rs.map mark) a → bodyPostM Fence.wide 3 P fn R .ret a w := fun a r => by
  have hd' := r.defers
  show LeavesInM _ _ _ _ _ _ a.defers _ _
  rw [hd']
  have hnot : ∀ i g e v, L i = .box e g [v] → i ∉ is → g ∉ rs := fun i g e v hi hni hg => by
    obtain ⟨j, hj, hb⟩ := hm g hg
    have := hS.nd i j g (by rw [hi]; rfl) hb
    subst this
    exact hni hj
  refine yfD rs w hn hd fun W' hk => ⟨_, results_cell2 hr (by rw [r.get, h1]) (by rw [r.get, h2]) hu1 hn1 hu2 hn2 ?_ ?_, h W' hk⟩
  · exact hk.cell (hnot i1 g1 e1 v1 hi1 hd1) (Row.cell (hS.bx i1 hi1) (i := 0) rfl)
  · exact hk.cell (hnot i2 g2 e2 v2 hi2 hd2) (Row.cell (hS.bx i2 hi2) (i := 0) rfl)
end
end Go.Proofs.YtncilechkclmbaaGreat

/- Iterators that hand over slices: what is yielded is a pure thing and addresses. No program in sight. -/
namespace Go.Proofs.YtncilechkclmbaaGreat
open Go Go.RowKit Go.Shelf Go.Proofs.Tryz
set_option linter.unusedVariables false
set_option linter.unusedSimpArgs false
set_option linter.unusedSectionVars false
def FP.and (a b : FP) : FP :=
  ⟨fun O w => a.P O w ∧ b.P O w, fun ⟨h1, h2⟩ hk => ⟨a.keep h1 hk, b.keep h2 hk⟩, fun ⟨h1, h2⟩ hs => ⟨a.sub h1 hs, b.sub h2 hs⟩⟩
theorem Sep.addro2 {w0 w : World} {S O : BS} {L : Hold} (h : Sep w0 S O w L) (i j : Nat) (hi : L i = .gone) (hj : stl L i (.ro FP.tt) j = .gone) (hne : j ≠ i) (Φ Ψ : FP) (hp : (FP.and Φ Ψ).P (Bl O L) w) : Sep w0 S O w (stl (stl L i (.ro Φ)) j (.ro Ψ)) := by
  have s1 := h.addro i hi Φ hp.1
  exact s1.addro j (by rw [yaG _ _ hne] at hj ⊢; exact hj) Ψ (Ψ.sub hp.2 fun k _ hk => Bl.add_ro hi rfl k hk)
def JP {α β : Type} (J : BS → BS → List (α × β) → World → Prop) : BS → BS → List α → World → Prop := fun T G ps W => ∃ l, l.map Prod.fst = ps ∧ J T G l W
structure SessP (P : Program) (l : Nat) {α β : Type} (enc : α → β → Array Value) (pass : α → β → FP) (Pr : List α → Prop) (J Jx : BS → BS → List α → World → Prop) : Prop where
  gen : ye4 J
  genx : ye4 Jx
  two : ye6 J
  twox : ye6 Jx
  yld : ∀ {T G : BS} {pre : List α} {x : α} {b : β} {W : World}, J T G pre W → Pr (pre ++ [x]) → (pass x b).P (fun k => T k ∨ G k) W →
    YieldAt Fence.wide 1 P l (enc x b) W fun e W' => ∃ T', RK T W T' W' ∧ ((e = .returned (.bool true) ∧ J T' G (pre ++ [x]) W') ∨ (e = .returned (.bool false) ∧ Jx T' G (pre ++ [x]) W'))
theorem ye4.jp {α β : Type} {J : BS → BS → List (α × β) → World → Prop} (h : ye4 J) : ye4 (JP J) := fun ⟨l, hl, hj⟩ a b c => ⟨l, hl, h hj a b c⟩
theorem ye6.jp {α β : Type} {J : BS → BS → List (α × β) → World → Prop} (h : ye6 J) : ye6 (JP J) := fun ⟨l, hl, hj⟩ => h hj
theorem Sess.proj {P : Program} {l : Nat} {α β : Type} {enc : α → β → Array Value} {pass : α → β → FP} {Pr : List α → Prop} {J Jx : BS → BS → List (α × β) → World → Prop}
    (h : Sess P l (fun y : α × β => enc y.1 y.2) (fun y => pass y.1 y.2) (fun q => Pr (q.map Prod.fst)) J Jx) : SessP P l enc pass Pr (JP J) (JP Jx) := by
  have g1 : ye4 J := h.gen
  have g2 : ye4 Jx := h.genx
  have g3 : ye6 J := h.two
  have g4 : ye6 Jx := h.twox
  refine ⟨ye4.jp (J := J) g1, ye4.jp (J := Jx) g2, ye6.jp (J := J) g3, ye6.jp (J := Jx) g4, ?_⟩
  rintro T G pre x b W ⟨q, rfl, hj⟩ hPr hp
  refine (show YieldAt Fence.wide 1 P l (enc x b) W _ from h.yld (x := (x, b)) hj (by simpa using hPr) hp) |> fun ⟨fn, tmps, assign, body, hy, hR⟩ => ⟨fn, tmps, assign, body, hy, hR.mono ?_⟩
  rintro e W' ⟨T', hr, (⟨rfl, hj⟩ | ⟨rfl, hj⟩)⟩
  · exact ⟨T', hr, .inl ⟨rfl, _, by simp, hj⟩⟩
  · exact ⟨T', hr, .inr ⟨rfl, _, by simp, hj⟩⟩
def yj1 (P : Program) (gf : FuncId) (lb : Array Value) {α β : Type} (enc : α → β → Array Value) (pass : α → β → FP) (Pr R : List α → Prop) (T0 G0 : BS) (w : World) : Prop :=
  ∀ (l : Nat) (J Jx : BS → BS → List α → World → Prop) (T1 : BS) (w1 : World), SessP P l enc pass Pr J Jx → J T1 G0 [] w1 → Pure w w1 → (∀ k, T1 k → T0 k ∨ w.heap.size ≤ k) →
    CallsIn Fence.wide 2 P gf (#[.func (.yield l) #[] #[]] ++ lb) w1 fun e w' => (∃ v, e = .returned v) ∧ ((∃ xs T G, R xs ∧ J T G xs w') ∨ ∃ pre T G, Jx T G pre w')
theorem yj1.to {P : Program} {gf : FuncId} {lb : Array Value} {α β : Type} {enc : α → β → Array Value} {pass : α → β → FP} {Pr R : List α → Prop} {T0 G0 : BS} {w : World} (h : yj1 P gf lb enc pass Pr R T0 G0 w) :
    ykB P gf lb (fun y : α × β => enc y.1 y.2) (fun y => pass y.1 y.2) (fun q => Pr (q.map Prod.fst)) (fun q => R (q.map Prod.fst)) T0 G0 w := by
  intro l J Jx T1 w1 hs hJ hp hT
  refine (h l (JP J) (JP Jx) T1 w1 hs.proj ⟨[], rfl, hJ⟩ hp hT).mono ?_
  rintro e w' ⟨hv, (⟨xs, T, G, hR, q, hl, hj⟩ | ⟨pre, T, G, q, hl, hj⟩)⟩
  · exact ⟨hv, .inl ⟨q, T, G, by subst hl; exact hR, hj⟩⟩
  · exact ⟨hv, .inr ⟨q, T, G, hj⟩⟩
section
variable {P : Program} {l : Nat} {α β : Type} {val : α → β → Array Value} {pass : α → β → FP} {Pr : List α → Prop} {J Jx : BS → BS → List α → World → Prop}
theorem gen_yieldP (hs : SessP P l val pass Pr J Jx) {T G : BS} {pre : List α} {x : α} {b : β} {wb w : World} {L : Hold} (hJ : J T G pre wb) (hS : Sep wb G T w L) (hPr : Pr (pre ++ [x])) (hp : (pass x b).P (Bl T L) w)
    {Rr : Ending → World → Prop} (h1 : ∀ T' W', J T' (OwnB L) (pre ++ [x]) W' → Sep W' (OwnB L) T' W' L → Rr (.returned (.bool true)) W') (h2 : ∀ T' W', Jx T' (OwnB L) (pre ++ [x]) W' → Sep W' (OwnB L) T' W' L → Rr (.returned (.bool false)) W') :
    YieldAt Fence.wide 1 P l (val x b) w Rr := by
  have hJ2 : J T (OwnB L) pre w := hs.gen hJ hS.pure (fun k ⟨i, hi⟩ => (hS.bd i k hi).elim (fun q => .inr (by have := hS.pure.size; omega)) .inl) (fun k ⟨i, hi⟩ => ((hS.ok i).lt hi).2)
  obtain ⟨fn, tmps, assign, body, hy, hR⟩ := hs.yld hJ2 hPr hp
  refine ⟨fn, tmps, assign, body, hy, hR.mono ?_⟩
  rintro e W' ⟨T', hr, (⟨rfl, hj⟩ | ⟨rfl, hj⟩)⟩
  · exact h1 T' W' hj (hS.yielded hr)
  · exact h2 T' W' hj (hS.yielded hr)
theorem gen_endP (hs : SessP P l val pass Pr J Jx) {T G : BS} {pre : List α} {wb w : World} {L : Hold} {R : List α → Prop} (hJ : J T G pre wb) (hS : Sep wb G T w L) (hR : R pre) :
    (∃ xs T G, R xs ∧ J T G xs w) ∨ ∃ pre T G, Jx T G pre w :=
  .inl ⟨pre, T, OwnB L, hR, hs.gen hJ hS.pure (fun k ⟨i, hi⟩ => (hS.bd i k hi).elim (fun q => .inr (by have := hS.pure.size; omega)) .inl) (fun k ⟨i, hi⟩ => ((hS.ok i).lt hi).2)⟩
theorem gen_endxP (hs : SessP P l val pass Pr J Jx) {T G : BS} {pre : List α} {wb w : World} {L : Hold} {R : List α → Prop} (hJ : Jx T G pre wb) (hS : Sep wb G T w L) :
    (∃ xs T G, R xs ∧ J T G xs w) ∨ ∃ pre T G, Jx T G pre w :=
  .inr ⟨pre, T, OwnB L, hs.genx hJ hS.pure (fun k ⟨i, hi⟩ => (hS.bd i k hi).elim (fun q => .inr (by have := hS.pure.size; omega)) .inl) (fun k ⟨i, hi⟩ => ((hS.ok i).lt hi).2)⟩
theorem gen_startP {T T1 G : BS} {w w1 : World} {L : Hold}
    (h : Sep w G T w L) (hs : SessP P l val pass Pr J Jx) (hJ : J T1 G [] w1) (hp : Pure w w1) (hT : ∀ k, T1 k → T k ∨ w.heap.size ≤ k) : ∃ G1, J T1 G1 [] w1 ∧ Sep w1 G1 T1 w1 L := by
  have hS := h.yielded (T' := T1) ⟨hp.mono fun k _ q => q.elim, hT, fun k hk => ((hs.two hJ).1 k hk).2⟩
  refine ⟨OwnB L, hs.gen hJ (Keeps.refl _ _) (fun k ⟨i, hi⟩ => ?_) (fun k ⟨i, hi⟩ => ((hS.ok i).lt hi).2), hS⟩
  rcases h.bd i k hi with q | q
  · have := ((h.ok i).lt hi).2; omega
  · exact .inl q
end
theorem rndS_fst {α β : Type} {l : Nat} {busy : Obj} {W : World} {S O : BS} {V : List α → List Res → Prop} {Vx : Option Nat → List α → List Res → Prop} {xs : List (α × β)} {ys : List α} (h : xs.map Prod.fst = ys) {e : Exit} {a : Act} {w : World}
    (hq : rndS l busy W S O V Vx ys e a w) : rndS l busy W S O (fun (p : List (α × β)) LL => V (p.map Prod.fst) LL) (fun c (p : List (α × β)) LL => Vx c (p.map Prod.fst) LL) xs e a w := by
  subst h
  cases e <;> exact hq
theorem wt_iterSP {P : Program} {N : Nat} {Q : Exit → Act → World → Prop} {E : Env} {ds : List Deferred} {w0 w : World} {S O : BS} {L : Hold} {t : List Item} {fo : Operand} {ps : Array Tmp} {assign body : Code} {gf : FuncId} {lb : Array Value}
    (hS : Sep w0 S O w L) (js gs : List Nat) (hj : js.Nodup) (hg : gs.Nodup) (hf : allJ (fun j => (j ∉ js) ∨ (L j).blk = none) gs)
    (hr : evE E fo = .func (.func gf) #[] lb) (he : Enters P gf) {α β : Type} {val : α → β → Array Value} {pass : α → β → FP} {Pr R : List α → Prop} (hps : ∀ x b, (val x b).size = ps.size) (hpN : ps.toList.all (fun p => Nat.blt p N) = true)
    (V : List α → List Res → Prop) (Vx : Option Nat → List α → List Res → Prop) (h0 : V [] (js.map L))
    (hgen : ∀ T G, Sep w G T w (rl (gs.map L)) → yj1 P gf lb val pass Pr R T G w)
    (hround : ∀ (l : Nat) (rdy busy : Obj) (S1 O1 : BS) (pre : List α) (x : α) (b : β) (W : World) (LL : List Res), V pre LL → Pr (pre ++ [x]) → (pass x b).P (Bl O1 (rl (LL ++ [.obj l rdy]))) W → Sep W S1 O1 W (rl (LL ++ [.obj l rdy])) →
      WT (Fence.wide.inRound l) 1 P N [.code assign] (fun e a1 W1 => e = .normal ∧ ∃ E1 L1, Rep N E1 [] a1 ∧ Sep W S1 O1 W1 L1 ∧ (∃ i, L1 i = .obj l rdy) ∧ ∀ W2, W2 = W1.putObj l busy → WT (Fence.wide.inRound l) 1 P N [.code body] (rndS l busy W S1 O1 V Vx (pre ++ [x])) E1 [] W2) (setE E (ps.toList.zip (val x b).toList)) [] W)
    (hdone : ∀ (D : Nat) (xs : List α) (W : World) (LL : List Res), R xs → V xs LL → Sep w0 S O W (rl (LL ++ [dfr D])) → WT Fence.wide 3 P N t Q E (mark D :: ds) W)
    (hstop : ∀ (D : Nat) (c : Option Nat) (xs : List α) (W : World) (LL : List Res), Vx c xs LL → Sep w0 S O W (rl (LL ++ [dfr D])) → JumpTo P N t Q E (mark D :: ds) W c) :
    WT Fence.wide 3 P N (.code (.rangeFunc fo ps assign body) :: t) Q E ds w := by
  refine wt_iterS hS js gs hj hg hf hr he (val := fun y : α × β => val y.1 y.2) (pass := fun y => pass y.1 y.2) (Pr := fun q => Pr (q.map Prod.fst)) (R := fun q => R (q.map Prod.fst)) (fun y => hps y.1 y.2) hpN (fun p LL => V (p.map Prod.fst) LL) (fun c p LL => Vx c (p.map Prod.fst) LL) h0 (fun T G hG => (hgen T G hG).to) ?_ (fun D xs W LL hR hV hs => hdone D _ W LL hR hV hs) (fun D c xs W LL hV hs => hstop D c _ W LL hV hs)
  rintro l rdy busy S1 O1 pre ⟨x, b⟩ W LL hV hPr hp hs1
  have hb := hround l rdy busy S1 O1 (pre.map Prod.fst) x b W LL hV (by simpa using hPr) hp hs1
  intro a ra bb k cs h1 h2 h3
  obtain ⟨e, a', w', ⟨rfl, E1, L1, r1, s1, hi, hq⟩, harr⟩ := hb a ra bb k cs h1 h2 h3
  refine ⟨.normal, a', w', ⟨rfl, E1, L1, r1, s1, hi, fun W2 hW2 => ?_⟩, harr⟩
  intro a2 ra2 b2 k2 cs2 g1 g2 g3
  obtain ⟨e, a3, w3, hq, harr3⟩ := hq W2 hW2 a2 ra2 b2 k2 cs2 g1 g2 g3
  exact ⟨e, a3, w3, rndS_fst (by simp) hq, harr3⟩
end Go.Proofs.YtncilechkclmbaaGreat

/- Determinants, expanded by the first row, and the rule of Cramer. No program in sight. -/
namespace Go.Proofs.YtncilechkclmbaaGreat
open Go Go.Proofs.Tryz
set_option linter.unusedVariables false
set_option linter.unusedSimpArgs false
end Go.Proofs.YtncilechkclmbaaGreat

/- The reduced Laplacian of a connected graph has a determinant other than 0; Cramer's numbers are scripts. No program in sight. -/
namespace Go.Proofs.YtncilechkclmbaaGreat
open Go Go.Proofs.Tryz
set_option linter.unusedVariables false
set_option linter.unusedSimpArgs false
theorem ylx (f : Nat → Int) : ∀ n, 0 < n → ∃ v, v < n ∧ ∀ u, u < n → f u ≤ f v
  | 1, _ => ⟨0, by omega, fun u hu => by rw [show u = 0 by omega]; exact Int.le_refl _⟩
  | n + 2, _ => by
    obtain ⟨v, hv, h⟩ := ylx f (n + 1) (by omega)
    by_cases q : f v < f (n + 1)
    · exact ⟨n + 1, by omega, fun u hu => by
        by_cases e : u = n + 1
        · subst e; exact Int.le_refl _
        · have := h u (by omega); omega⟩
    · exact ⟨v, by omega, fun u hu => by
        by_cases e : u = n + 1
        · subst e; omega
        · exact h u (by omega)⟩
theorem yf8 {n : Nat} {es : List E3} {q : Nat} (hE : EOk n es) (hC : Conn n es q) (hq : q < n) {f : Nat → Int} (h0 : f q = 0) (h : ∀ v, v < n → f v ≠ 0 → Lp n es f v = 0) : ∀ v, v < n → f v ≤ 0 := by
  intro v hv
  obtain ⟨m, hm, hmax⟩ := ylx f n (by omega)
  by_cases hpos : 0 < f m
  · exfalso
    obtain ⟨v, u, hv, hu, hSv, hSu, hW⟩ := hC (fun x => decide (f x = f m)) (by simp; omega) ⟨m, hm, by simp⟩
    simp only [decide_eq_true_eq, decide_eq_false_iff_not] at hSv hSu
    have h1 := h v hv (by omega)
    have h2 : ∀ i, i < n → 0 ≤ W es v i * (f v - f i) := fun i hi => Int.mul_nonneg (ybq hE v i) (by have := hmax i hi; omega)
    have h3 := ygQ (f := fun i => W es v i * (f v - f i)) h2 u hu
    have h4 : 1 * 1 ≤ W es v u * (f v - f u) := Int.mul_le_mul (by omega) (by have := hmax u hu; omega) (by omega) (by omega)
    unfold Lp at h1
    omega
  · have := hmax v hv; omega
theorem dirichlet {n : Nat} {es : List E3} {q : Nat} (hE : EOk n es) (hC : Conn n es q) (hq : q < n) {f : Nat → Int} (h0 : f q = 0) (h : ∀ v, v < n → f v ≠ 0 → Lp n es f v = 0) : ∀ v, v < n → f v = 0 := by
  intro v hv
  have h1 := yf8 hE hC hq h0 h v hv
  have h2 := yf8 hE hC hq (f := fun i => -1 * f i) (by rw [h0]; rfl) (fun u hu hne => by rw [ygS, h u hu (by omega)]; omega) v hv
  omega
section
variable {m : Nat} {es : List E3} {q : Nat} (hE : EOk (m + 1) es) (hC : Conn (m + 1) es q) (hq : q ≤ m)
include hE hC hq
end
end Go.Proofs.YtncilechkclmbaaGreat

/- A variable in memory says nothing of other blocks. -/
namespace Go.Proofs.YtncilechkclmbaaGreat
open Go Go.RowKit Go.Proofs.Tryz
theorem flat_box (e : TypeId) (g : Nat) (cells : List Value) : (Res.box e g cells).Flat := fun _ _ _ _ h => h
end Go.Proofs.YtncilechkclmbaaGreat
