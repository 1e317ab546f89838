/- The walk over an environment: loops over iterators, marks among the deferred calls. No program in sight. -/
import Derived.Test.YtnhmeckhlajeaaaMo
import Derived.RangeFuncNested
import Derived.RangeFuncBound
import Derived.RangeFuncCalls
import Derived.RangeFuncLeaves
import Derived.RangeFuncFrom
namespace Go.Proofs.Ytnhmeckhlajeaaa
open Go Go.RowKit Go.Shelf
set_option linter.unusedVariables false
set_option linter.unusedSimpArgs false

theorem Rep.unique {N : Nat} {E : Env} {ds : List Deferred} {a a' : Act} (h : Rep N E ds a) (h' : Rep N E ds a') : a = a' := by
  obtain ⟨tm, df⟩ := a
  obtain ⟨tm', df'⟩ := a'
  have hd : df = df' := h.defers.trans h'.defers.symm
  have hs : tm.size = tm'.size := h.size.trans h'.size.symm
  have ht : tm = tm' := by
    apply Array.ext hs
    intro i h1 h2
    have a1 := h.get i
    have a2 := h'.get i
    have : tm.getD i undef = tm'.getD i undef := a1.trans a2.symm
    simpa [Array.getD_eq_getD_getElem?, h1, h2] using this
  rw [hd, ht]

/-! ### The parameters of a round -/
def setE (E : Env) : List (Nat × Value) → Env
  | [] => E
  | (p, v) :: t => setE (upd E p v) t
theorem setE_rep {N : Nat} : ∀ (l : List (Nat × Value)) (E : Env) (ds : List Deferred) (a : Act), Rep N E ds a → (∀ p ∈ l, p.1 < N) → Rep N (setE E l) ds { tmps := l.foldl (fun t p => t.setIfInBounds p.1 p.2) a.tmps, defers := a.defers }
  | [], E, ds, a, h, _ => h
  | (p, v) :: t, E, ds, a, h, hl => by
    have h1 := h.put (d := some p) (fun k e => by cases e; exact hl (p, v) (by simp)) v
    have := setE_rep t _ ds _ h1 (fun q hq => hl q (by simp [hq]))
    simpa [setE, Act.put, updO] using this
/-- Code that only assigns slots. -/
def assignOnly (N : Nat) : Code → Bool
  | .region _ ops false => ops.toList.all fun o => match o.dst, o.op, o.guard with | some d, .assign _, none => Nat.blt d N | _, _, _ => false
  | .seq a b => assignOnly N a && assignOnly N b
  | .skip => true
  | _ => false
def assignL : List Oper → Env → Env
  | [], E => E
  | o :: t, E => match o.dst, o.op with
    | some d, .assign x => assignL t (upd E d (evE E x))
    | _, _ => assignL t E
def assignE : Code → Env → Env
  | .region _ ops _, E => assignL ops.toList E
  | .seq a b, E => assignE b (assignE a E)
  | _, E => E
section
variable {F : Fence} {n : Nat} {P : Program} {N : Nat} {Q : Exit → Act → World → Prop} {t : List Item}
theorem rl_assign (ops : Array Oper) : ∀ (l : List Oper) (i : Nat) (pend : List (Nat × Sem Next × Value)) (E : Env) (ds : List Deferred) (w : World), (l.all fun o => match o.dst, o.op, o.guard with | some d, .assign _, none => Nat.blt d N | _, _, _ => false) = true →
    WT F n P N t Q (assignL l E) ds w → RL P N ops st0 (WTa F n P t Q) i l pend E ds w
  | [], i, pend, E, ds, w, _, h => rl_end h
  | o :: l, i, pend, E, ds, w, ha, h => by
    obtain ⟨dst, op, ty, ps, af, g⟩ := o
    simp only [List.all_cons, Bool.and_eq_true] at ha
    obtain ⟨h1, h2⟩ := ha
    cases dst with
    | none => simp at h1
    | some d =>
      cases g with
      | some g => exact absurd h1 (by cases op <;> simp)
      | none =>
        cases op
        case assign x =>
          refine rl_q rfl rfl (by simpa using h1) (v_assign rfl) ?_
          exact rl_assign ops l _ _ _ ds w h2 h
        all_goals exact absurd h1 (by simp)
theorem wt_assign (hw : Wd F) : ∀ (c : Code) (t : List Item) (E : Env) (ds : List Deferred) (w : World), assignOnly N c = true → WT F n P N t Q (assignE c E) ds w → WT F n P N (.code c :: t) Q E ds w
  | .region id ops d, t, E, ds, w, hc, h => by
    cases d with
    | true => simp [assignOnly] at hc
    | false => exact wl_region hw (rl_assign ops _ _ _ _ _ _ (by simpa [assignOnly] using hc) h)
  | .seq a b, t, E, ds, w, hc, h => by
    simp only [assignOnly, Bool.and_eq_true] at hc
    exact wt_seq (wt_assign hw a _ _ _ _ hc.1 (wt_assign hw b _ _ _ _ hc.2 h))
  | .skip, t, E, ds, w, hc, h => wt_skip h
  | .cond .., _, _, _, _, hc, _ => by simp [assignOnly] at hc
  | .block .., _, _, _, _, hc, _ => by simp [assignOnly] at hc
  | .loop .., _, _, _, _, hc, _ => by simp [assignOnly] at hc
  | .rangeFunc .., _, _, _, _, hc, _ => by simp [assignOnly] at hc
  | .exit .., _, _, _, _, hc, _ => by simp [assignOnly] at hc
  | .scope .., _, _, _, _, hc, _ => by simp [assignOnly] at hc
  | .label .., _, _, _, _, hc, _ => by simp [assignOnly] at hc
  | .goto .., _, _, _, _, hc, _ => by simp [assignOnly] at hc
  | .ret, _, _, _, _, hc, _ => by simp [assignOnly] at hc
  | .refuse .., _, _, _, _, hc, _ => by simp [assignOnly] at hc
end

/-! ### An iterator, and the loop over it -/
/-- Kp speaks of blocks that w has, and of walks. -/
structure KpOk (Kp : World → World → Prop) (w : World) : Prop where
  trans : ∀ {A B C : World}, Kp A B → Kp B C → Kp A C
  put : ∀ (W : World) (l : Nat) (o o' : Obj), w.heap.size ≤ l → W.heap[l]? = some o → o.isCells = false → o.isWalk = false → Kp W (W.putObj l o')
/-- The value r is an iterator that yields, from the world w on, a list as S says, of at most len elements, each read by val; Kp is what a round has to keep for it. -/
def IterOf (P : Program) (r : Value) {α : Type} (val : α → Array Value) (S : List α → Prop) (Kp : World → World → Prop) (len : Nat) (w : World) : Prop :=
  ∃ gf lb, r = .func (.func gf) #[] lb ∧ Enters P gf ∧ SeqStopsK Fence.wide 2 P gf lb val Kp S (fun _ => True) len w ∧ KpOk Kp w
/-- A relation that blocks which are no cells, and new ones, do not touch. -/
def Stays {α : Type} (B : Nat) (I : List α → World → Prop) : Prop := OwnFrom B I

theorem wt_range {P : Program} {N : Nat} {Q : Exit → Act → World → Prop} {E : Env} {ds : List Deferred} {w : World} {t : List Item} {fo : Operand} {ps : Array Tmp} {assign body : Code} {r : Value}
    (hr : evE E fo = r) {α : Type} {val : α → Array Value} {S : List α → Prop} {Kp : World → World → Prop} {len : Nat} (hI : IterOf P r val S Kp len w) (hps : ∀ x, (val x).size = ps.size) (hpN : ps.toList.all (fun p => Nat.blt p N) = true) (has : assignOnly N assign = true)
    (I : List α → World → Prop) (hown : Stays w.heap.size I) (h0 : I [] w)
    (hbody : ∀ (l : Nat) (pre : List α) (x : α) (W : World), I pre W → pre.length < len →
      WT (Fence.wide.inRound l) 1 P N [.code body] (ownPostK Kp I (fun _ _ _ => False) (pre ++ [x]) W) (assignE assign (setE E (ps.toList.zip (val x).toList))) [] W)
    (hdone : ∀ (D : Nat) (xs : List α) (W : World), w.heap.size ≤ D → S xs → I xs W → W.heap[D]? = some (.deferred (some [])) → WT Fence.wide 3 P N t Q E ({ target := .collected D, args := #[] } :: ds) W) :
    WT Fence.wide 3 P N (.code (.rangeFunc fo ps assign body) :: t) Q E ds w := by
  intro a ra
  obtain ⟨gf, lb, hrv, heg, hseq, hk⟩ := hI
  let mk : Env → Act := fun E' => { tmps := Array.ofFn (n := N) fun i => E' i, defers := [] }
  have hmk : ∀ E' : Env, (∀ t, N ≤ t → E' t = undef) → Rep N E' [] (mk E') := by
    intro E' h
    refine ⟨by simp [mk], fun t => ?_, rfl⟩
    simp only [mk, Array.getD_eq_getD_getElem?]
    rcases Nat.lt_or_ge t N with ht | ht
    · simp [ht]
    · simp [ht, h t ht]
  have hun : ∀ {E' : Env} {ds' : List Deferred} {a' : Act}, Rep N E' ds' a' → ∀ t, N ≤ t → E' t = undef := by
    intro E' ds' a' h t ht
    rw [← h.get t]
    simp [Array.getD_eq_getD_getElem?, h.size, ht]
  have hpr : ∀ x, Rep N (setE E (ps.toList.zip (val x).toList)) [] { tmps := (ps.zip (val x)).foldl (fun t (p, v) => t.setIfInBounds p v) a.tmps, defers := [] } := by
    intro x
    have h1 : Rep N E [] { tmps := a.tmps, defers := [] } := ⟨ra.size, ra.get, rfl⟩
    have h2 := setE_rep (ps.toList.zip (val x).toList) E [] _ h1 (fun p hp => by
      have := List.all_eq_true.1 hpN p.1 (List.of_mem_zip hp).1
      simpa using this)
    have h3 : (ps.zip (val x)).foldl (fun t (p, v) => t.setIfInBounds p v) a.tmps = (ps.toList.zip (val x).toList).foldl (fun t p => t.setIfInBounds p.1 p.2) a.tmps := by
      rw [← Array.foldl_toList, Array.toList_zip]
    rw [h3]; exact h2
  have hasg : ∀ (l : Nat) (x : α) (W : World) (K : Act → World → Prop), (∀ a', Rep N (assignE assign (setE E (ps.toList.zip (val x).toList))) [] a' → K a' W) →
      assign.wpIn (Fence.wide.inRound l) 1 P (Exit.then K (fun _ _ _ => False)) { tmps := (ps.zip (val x)).foldl (fun t (p, v) => t.setIfInBounds p v) a.tmps, defers := [] } W := by
    intro l x W K hK
    refine WTa.code (wt_assign (N := N) (wd_round l) assign [] _ [] W has ?_ _ (hpr x))
    exact fun a' r' => WTa.nil (hK a' r')
  have hrep : ∀ x, Rep N (assignE assign (setE E (ps.toList.zip (val x).toList))) [] (mk (assignE assign (setE E (ps.toList.zip (val x).toList)))) := by
    intro x
    refine hmk _ ?_
    -- the slots behind the end: from any act that the assignment leaves
    have key : ∀ (c : Code) (E' : Env), assignOnly N c = true → (∀ t, N ≤ t → E' t = undef) → ∀ t, N ≤ t → assignE c E' t = undef := by
      intro c
      induction c with
      | region id ops d =>
        intro E' hc h
        cases d with
        | true => simp [assignOnly] at hc
        | false =>
          simp only [assignOnly] at hc
          simp only [assignE]
          generalize ops.toList = L at hc
          induction L generalizing E' with
          | nil => exact h
          | cons o L ih =>
            obtain ⟨dst, op, ty, ps, af, g⟩ := o
            simp only [List.all_cons, Bool.and_eq_true] at hc
            obtain ⟨h1, h2⟩ := hc
            cases dst with
            | none => simp at h1
            | some d =>
              cases g with
              | some g => exact absurd h1 (by cases op <;> simp)
              | none =>
                cases op
                case assign x =>
                  refine ih _ (fun t ht => ?_) h2
                  have hd : d < N := by simpa using h1
                  have : Nat.beq t d = false := by
                    cases hq : Nat.beq t d with
                    | false => rfl
                    | true => have := Nat.eq_of_beq_eq_true hq; subst this; exact absurd ht (Nat.not_le.2 hd)
                  simp only [upd, this, cond_false]; exact h t ht
                all_goals exact absurd h1 (by simp)
      | seq a b iha ihb =>
        intro E' hc h
        simp only [assignOnly, Bool.and_eq_true] at hc
        exact ihb _ hc.2 (iha _ hc.1 h)
      | skip => intro E' _ h; exact h
      | _ => intro E' hc h; simp [assignOnly] at hc
    exact key assign _ has (hun (hpr x))
  refine WTa.of (wpIn_rangeFunc_ownF (α := α) (encs := val) (Kp := Kp) (S := S) (Sp := fun _ => True) (N := len) (w0 := w) rfl (by omega) (gf := gf) (lb := lb) (by rw [ra.eval, hr, hrv]) trivial heg hseq (fun h k => hk.trans h k) hk.put (Below.refl _ _) hps I (fun _ _ _ => False) hown (fun c s W W' row h _ _ => h) h0
    (fun x => mk (assignE assign (setE E (ps.toList.zip (val x).toList)))) ?_ ?_ ?_ (fun D c pre W _ _ h _ => h.elim))
  · intro l x W K hK
    exact hasg l x W K (fun a' r' => by rw [r'.unique (hrep x)]; exact hK)
  · intro l pre x W hi hl
    exact hbody l pre x W hi hl _ (hrep x)
  · intro D xs W hD hS hi hK
    exact ⟨rfl, hdone D xs W hD hS hi hK _ ⟨ra.size, ra.get, by rw [ra.defers]⟩⟩

/-! ### Marks -/
def mark (r : Nat) : Deferred := { target := .collected r, args := #[] }
/-- The deferred calls are marks of loops that are over, laid behind the first B blocks. -/
def Marks (B : Nat) (ds : List Deferred) (W : World) : Prop := B ≤ W.heap.size ∧ ∃ rs : List Nat, ds = rs.map mark ∧ rs.Nodup ∧ ∀ r ∈ rs, B ≤ r ∧ W.heap[r]? = some (Obj.deferred (some []))
theorem Marks.nil (W : World) : Marks W.heap.size [] W := ⟨Nat.le_refl _, [], rfl, List.nodup_nil, by simp⟩
/-- The marks stay. -/
def KpM (w w' : World) : Prop := w.heap.size ≤ w'.heap.size ∧ ∀ r : Nat, w.heap[r]? = some (Obj.deferred (some [])) → w'.heap[r]? = some (Obj.deferred (some []))
theorem KpM.refl (w : World) : KpM w w := ⟨Nat.le_refl _, fun _ h => h⟩
theorem KpM.drew (w : World) : KpM w w.drew := ⟨Nat.le_refl _, fun _ h => h⟩
theorem KpM.trans {a b c : World} (h : KpM a b) (k : KpM b c) : KpM a c := ⟨Nat.le_trans h.1 k.1, fun r hr => k.2 r (h.2 r hr)⟩
theorem Marks.kp {B : Nat} {ds : List Deferred} {W W' : World} (h : Marks B ds W) (hk : KpM W W') : Marks B ds W' := by
  obtain ⟨h0, rs, h1, h2, h3⟩ := h
  exact ⟨Nat.le_trans h0 hk.1, rs, h1, h2, fun r hr => ⟨(h3 r hr).1, hk.2 r (h3 r hr).2⟩⟩
theorem New.kpm {w w' : World} {g : Nat} {cs : Array Value} {e : TypeId} (h : New w g w' cs e) : KpM w w' := ⟨by rw [h.size, h.at_]; omega, fun r hr => by
  rw [h.to_, Below.heap_alloc _ _ _ (Array.getElem?_eq_some_iff.1 hr).1]; exact hr⟩
theorem kpm_set {w : World} {p : Addr} {v : Value} : KpM w (w.setCell p v) := ⟨by simp [World.setCell], fun r hr => by
  by_cases e : r = p.block
  · subst e
    simp [World.setCell, Array.getElem?_modify, hr]
  · rw [Below.heap_setCell w p v r e]; exact hr⟩
theorem kpm_setn {b : Nat} : ∀ (vs : List Value) (o : Nat) (w : World), KpM w (w.setCells b o vs)
  | [], _, w => KpM.refl w
  | v :: vs, o, w => (kpm_set (w := w) (p := ⟨b, o, none⟩) (v := v)).trans (kpm_setn vs (o + 1) _)
theorem Keeps.kpm {S : Nat → Prop} {w w' : World} (h : Keeps S w w') (hS : ∀ k, S k → ∀ o : Obj, w.heap[k]? = some o → o.isCells = true) : KpM w w' := ⟨h.size, fun r hr => by
  rw [h.block r (Array.getElem?_eq_some_iff.1 hr).1 (fun hs => by have := hS r hs _ hr; simp [Obj.isCells] at this)]
  exact hr⟩
theorem Keeps.kpm_pure {w w' : World} (h : Pure w w') : KpM w w' := Keeps.kpm h fun k hk => hk.elim
theorem KeepsOthers.kpm {w w' : World} (h : KeepsOthers w w') : KpM w w' := ⟨h.size, fun r hr => h.same r _ hr rfl⟩
theorem Marks.push {B : Nat} {ds : List Deferred} {W0 W : World} {D : Nat} (h0 : Marks B ds W0) (h : KpM W0 W) (hD : W0.heap.size ≤ D) (hK : W.heap[D]? = some (Obj.deferred (some []))) : Marks B ({ target := .collected D, args := #[] } :: ds) W := by
  obtain ⟨hB, rs, h1, h2, h3⟩ := h0
  refine ⟨Nat.le_trans hB h.1, D :: rs, by rw [h1]; rfl, List.nodup_cons.2 ⟨fun hm => ?_, h2⟩, fun r hr => ?_⟩
  · have := (Array.getElem?_eq_some_iff.1 (h3 D hm).2).1; omega
  · rcases List.mem_cons.1 hr with rfl | hr
    · exact ⟨Nat.le_trans hB hD, hK⟩
    · exact ⟨(h3 r hr).1, h.2 r (h3 r hr).2⟩
/-- Behind the marks: cells, and the first B blocks, are what they were. -/
structure After (B : Nat) (W W' : World) : Prop where
  os : W'.os = W.os
  tape : W'.tape = W.tape
  output : W'.output = W.output
  size : W'.heap.size = W.heap.size
  cells : ∀ k : Nat, (∀ o : Obj, W.heap[k]? = some o → o.isCells = true) → W'.heap[k]? = W.heap[k]?
  old : ∀ k : Nat, k < B → W'.heap[k]? = W.heap[k]?
theorem After.row {B : Nat} {W W' : World} (h : After B W W') {g : Nat} {e : TypeId} {size : Nat} {xs : List Value} (hr : Row W g e size xs) : Row W' g e size xs := hr.keep (h.cells g (fun o ho => by
  obtain ⟨cur, h1, _⟩ := hr
  rw [h1] at ho
  cases ho
  rfl))
theorem After.keeps {W0 W W' : World} {S : Nat → Prop} (h : After W0.heap.size W W') (hk : Keeps S W0 W) : Keeps S W0 W' :=
  ⟨h.os.trans hk.os, h.tape.trans hk.tape, h.output.trans hk.output, by rw [h.size]; exact hk.size, fun k hk' hs => (h.old k hk').trans (hk.block k hk' hs)⟩

theorem leaves_marks {F : Fence} {n : Nat} {P : Program} {fn : Func} {tmps : Array Value} {R : Ending → World → Prop} {B : Nat} : ∀ (ds : List Deferred) (W : World), Marks B ds W →
    (∀ W' : World, After B W W' → LeavesIn F n P fn tmps R [] .returning W') →
    LeavesInM F n P fn tmps R ds .returning W := by
  intro ds
  induction ds with
  | nil =>
    intro W _ h
    exact h W ⟨rfl, rfl, rfl, rfl, fun _ _ => rfl, fun _ _ => rfl⟩
  | cons d ds ih =>
    intro W hm h
    obtain ⟨hB, rs, h1, h2, h3⟩ := hm
    cases rs with
    | nil => simp at h1
    | cons r rs =>
      simp only [List.map_cons, List.cons.injEq] at h1
      obtain ⟨rfl, rfl⟩ := h1
      have hr := (h3 r (by simp)).2
      have hrB := (h3 r (by simp)).1
      have hnr := List.nodup_cons.1 h2
      refine ⟨by simp, .inl ⟨r, _, rfl, run_takeDeferred hr, ?_⟩⟩
      refine ih (W.putObj r (.deferred none)) ⟨by simpa using hB, rs, rfl, hnr.2, fun q hq => ⟨(h3 q (by simp [hq])).1, ?_⟩⟩ (fun W' ha => ?_)
      · rw [World.putObj_heap_other (by rintro rfl; exact hnr.1 hq)]
        exact (h3 q (by simp [hq])).2
      · refine h W' ⟨ha.os.trans rfl, ha.tape.trans rfl, ha.output.trans rfl, by rw [ha.size]; simp, fun k hk => ?_, fun k hk => ?_⟩
        · have hkr : k ≠ r := by rintro rfl; have := hk _ hr; simp [Obj.isCells] at this
          rw [ha.cells k (fun o ho => by rw [World.putObj_heap_other (by omega)] at ho; exact hk o ho), World.putObj_heap_other (by omega)]
        · rw [ha.old k hk, World.putObj_heap_other (by omega)]

theorem calls_shm {P : Program} {f : FuncId} {fn : Func} {c : Code} {l : List Value} {w : World} {R : Ending → World → Prop} {N : Nat} (hf : P.funcs[f]? = some fn) (hb : fn.body = some c) (hN : fn.ntmps = N) (hl : l.length ≤ N)
    (h : WT Fence.wide 3 P N [.code c] (bodyPostM Fence.wide 3 P fn R) (lenv l) [] w) : Calls P f l.toArray w R := by
  refine (callsIn_wide (n := 3)).1 (callsIn_of_wp_marks hf hb trivial (WTa.code (h _ ⟨?_, lenv_eq l _, rfl⟩)) rfl)
  simp
  omega
section
variable {P : Program} {fn : Func} {N : Nat} {t : List Item} {R : Ending → World → Prop} {E : Env} {ds : List Deferred} {w : World} {B : Nat}
theorem wt_retm0 (hM : Marks B ds w) (hr : fn.results = #[]) (h : ∀ w', After B w w' → R (.returned (.tuple #[])) w') : WT Fence.wide 3 P N (.code .ret :: t) (bodyPostM Fence.wide 3 P fn R) E ds w :=
  wt_ret fun a r => by
    have hd := r.defers
    show LeavesInM _ _ _ _ _ _ a.defers _ _
    rw [hd]
    exact leaves_marks ds w hM fun W' ha => ⟨_, results_none hr _ _ _, h W' ha⟩
theorem wt_endm0 (hM : Marks B ds w) (hr : fn.results = #[]) (h : ∀ w', After B w w' → R (.returned (.tuple #[])) w') : WT Fence.wide 3 P N [] (bodyPostM Fence.wide 3 P fn R) E ds w :=
  wt_nil fun a r => by
    have hd := r.defers
    show LeavesInM _ _ _ _ _ _ a.defers _ _
    rw [hd]
    exact leaves_marks ds w hM fun W' ha => ⟨_, results_none hr _ _ _, h W' ha⟩
theorem wt_retm1 {t1 : Tmp} {v1 : Value} (hM : Marks B ds w) (hr : fn.results = #[.tmp t1]) (h1 : E t1 = v1) (h : ∀ w', After B w w' → R (.returned v1) w') : WT Fence.wide 3 P N (.code .ret :: t) (bodyPostM Fence.wide 3 P fn R) E ds w :=
  wt_ret fun a r => by
    have hd := r.defers
    show LeavesInM _ _ _ _ _ _ a.defers _ _
    rw [hd]
    exact leaves_marks ds w hM fun W' ha => ⟨_, results_tmp hr _ _ _, by rw [r.get, h1]; exact h W' ha⟩
theorem wt_retm2 {t1 t2 : Tmp} {v1 v2 : Value} (hM : Marks B ds w) (hr : fn.results = #[.tmp t1, .tmp t2]) (h1 : E t1 = v1) (h2 : E t2 = v2) (h : ∀ w', After B w w' → R (.returned (.tuple #[v1, v2])) w') : WT Fence.wide 3 P N (.code .ret :: t) (bodyPostM Fence.wide 3 P fn R) E ds w :=
  wt_ret fun a r => by
    have hd := r.defers
    show LeavesInM _ _ _ _ _ _ a.defers _ _
    rw [hd]
    exact leaves_marks ds w hM fun W' ha => ⟨_, results_tmp2 hr _ _ _, by rw [r.get, r.get, h1, h2]; exact h W' ha⟩
end
end Go.Proofs.Ytnhmeckhlajeaaa
