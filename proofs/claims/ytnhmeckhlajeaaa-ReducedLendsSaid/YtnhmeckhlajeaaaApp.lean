/- Memory out of sight, more: append, calls, slices of slices, elements that are slices, functions as values. No program in sight. -/
import Derived.Test.YtnhmeckhlajeaaaSep
namespace Go.Proofs.Ytnhmeckhlajeaaa
open Go Go.RowKit Go.Shelf
set_option linter.unusedVariables false
set_option linter.unusedSimpArgs false

/-- What is laid behind a slice: m elements that read as ys. -/
def Yl {τ : Type} (c : Cod τ) (O : Nat → Prop) (w : World) (C : Option Addr) (m : Nat) (ys : List τ) : Prop :=
  m = ys.length ∧ (0 < m → ∃ b off, C = some ⟨b, off, none⟩ ∧ b < w.heap.size ∧ ∀ (k : Nat) x, ys[k]? = some x → ∃ vs, c.R O w vs x ∧ ∀ (j : Nat) u, vs[j]? = some u → w.cell? ⟨b, off + k * c.sz + j, none⟩ = some u)
theorem Yl.nil {τ : Type} (c : Cod τ) (O : Nat → Prop) (w : World) (C : Option Addr) : Yl c O w C 0 [] := ⟨rfl, fun h => absurd h (by omega)⟩
section
variable {w0 w w' : World} {S O : Nat → Prop} {L : Hold}
theorem Sep.yr {τ : Type} (h : Sep w0 S O w L) (i : Nat) {c : Cod τ} {A : Option Addr} {l cap : Nat} {xs : List τ} (hi : L i = .ro (FP.sl c A l cap xs)) : Yl c (Bl O L) w A l xs := by
  obtain ⟨h1, h2, h3⟩ := h.ro i hi
  refine ⟨h1, fun h0 => ?_⟩
  obtain ⟨b, off, e, hb, ho, hc⟩ := h3 (by omega)
  exact ⟨b, off, e, hb, hc⟩
theorem Sep.yo {τ : Type} (h : Sep w0 S O w L) (i : Nat) {c : Cod τ} {e : TypeId} {A : Option Addr} {l cap : Nat} {xs : List τ} (hi : L i = .own c e A l cap xs) : Yl c (Bl O L) w A l xs := by
  obtain ⟨hl, cells, ho, hE⟩ := h.own i hi
  refine ⟨hl, fun h0 => ?_⟩
  rcases ho.2 with ⟨rfl, rfl, rfl⟩ | ⟨g, o, cur, rfl, hb, hg, q⟩
  · omega
  · refine ⟨g, o, rfl, (Array.getElem?_eq_some_iff.1 hg).1, fun k x hx => ?_⟩
    obtain ⟨vs, h1, h2⟩ := hE k x hx
    refine ⟨vs, h1, fun j u hj => ?_⟩
    obtain ⟨g', o', e', _, hc, _⟩ := ho.cellAt (h2 j u hj)
    cases e'
    rw [Nat.add_assoc]; exact hc
/-- The cells of all elements. -/
theorem Yl.cells {τ : Type} {c : Cod τ} {C : Option Addr} {m : Nat} {ys : List τ} (h : Yl c O w C m ys) (hm : 0 < m) :
    ∃ (a : Addr) (news : List Value), C = some a ∧ news.length = m * c.sz ∧ (∀ j u, news[j]? = some u → w.cell? (a.add j) = some u) ∧ (∀ u ∈ news, u.oneCell' = true) ∧ ∀ (k : Nat) x, ys[k]? = some x → ∃ vs, c.R O w vs x ∧ ∀ (j : Nat) u, vs[j]? = some u → news[k * c.sz + j]? = some u := by
  obtain ⟨hl, hc⟩ := h
  obtain ⟨b, off, rfl, _, hc⟩ := hc hm
  have H : ∀ (ys : List τ) (off : Nat), (∀ (k : Nat) x, ys[k]? = some x → ∃ vs, c.R O w vs x ∧ ∀ (j : Nat) u, vs[j]? = some u → w.cell? ⟨b, off + k * c.sz + j, none⟩ = some u) →
      ∃ news : List Value, El c O w news ys ∧ (∀ j u, news[j]? = some u → w.cell? ⟨b, off + j, none⟩ = some u) ∧ ∀ u ∈ news, u.oneCell' = true := by
    intro ys
    induction ys with
    | nil => intro off _; exact ⟨[], rfl, fun j u hj => by simp at hj, fun u hu => by simp at hu⟩
    | cons y t ih =>
      intro off h
      obtain ⟨vs, hR, hu⟩ := h 0 y rfl
      obtain ⟨rest, h1, h2, h3⟩ := ih (off + c.sz) (fun k x hx => by
        obtain ⟨vs', hR', hu'⟩ := h (k + 1) x (by simpa using hx)
        refine ⟨vs', hR', fun j u hj => ?_⟩
        have := hu' j u hj
        rw [Nat.add_mul, Nat.one_mul] at this
        rw [show off + c.sz + k * c.sz + j = off + (k * c.sz + c.sz) + j by omega]; exact this)
      refine ⟨vs ++ rest, ⟨vs, rest, rfl, hR, h1⟩, fun j u hj => ?_, fun u hm => ?_⟩
      · rcases Nat.lt_or_ge j vs.length with q | q
        · rw [List.getElem?_append_left q] at hj
          have := hu j u hj
          rw [Nat.zero_mul, Nat.add_zero] at this; exact this
        · rw [List.getElem?_append_right q] at hj
          have := h2 _ u hj
          rw [c.len hR] at this q
          rw [show off + c.sz + (j - c.sz) = off + j by omega] at this; exact this
      · rcases List.mem_append.1 hm with q | q
        · exact c.one hR u q
        · exact h3 u q
  obtain ⟨news, h1, h2, h3⟩ := H ys off hc
  exact ⟨_, news, rfl, by rw [hl]; exact h1.len, fun j u hj => by rw [Addr.add_mid]; exact h2 j u hj, h3, h1.at_⟩
theorem Sep.app {τ : Type} (h : Sep w0 S O w L) (i : Nat) {c : Cod τ} {e : TypeId} {A : Option Addr} {l cap : Nat} {xs : List τ} (hi : L i = .own c e A l cap xs) {ys : List τ} {m : Nat} (hm : m = ys.length) {cells news : List Value}
    (hE : ∀ (k : Nat) x, xs[k]? = some x → ∃ vs, c.R (Bl O L) w vs x ∧ ∀ (j : Nat) u, vs[j]? = some u → cells[k * c.sz + j]? = some u) (hY : ∀ (k : Nat) x, ys[k]? = some x → ∃ vs, c.R (Bl O L) w vs x ∧ ∀ (j : Nat) u, vs[j]? = some u → news[k * c.sz + j]? = some u)
    (hl : l = xs.length) (hcl : cells.length = l * c.sz) {A' : Option Addr} {cap' : Nat} (ho : OwnS w' 0 e c.sz A' (l + m) cap' (cells ++ news)) (hg : w.grownBy w' (A.map (·.block))) (hb : A'.map (·.block) = A.map (·.block) ∨ A'.map (·.block) = some w.heap.size) :
    Sep w0 S O w' (stl L i (.own c e A' (l + m) cap' (xs ++ ys))) := by
  have hblk : (L i).blk = A.map (·.block) := by rw [hi]; rfl
  have hK : Keeps (fun k => A.map (·.block) = some k) w w' := ⟨hg.os, hg.tape, hg.output, hg.size, fun k hk hn => hg.block k hk fun q => hn q.symm⟩
  have hKB : Keeps (Bl O L) w w' := hK.mono fun k _ hk => .inr ⟨i, by rw [hblk]; exact hk⟩
  have hbl : ∀ k, k < w.heap.size → Bl O (stl L i (.own c e A' (l + m) cap' (xs ++ ys))) k → Bl O L k := by
    rintro k hk (q | ⟨j, hj⟩)
    · exact .inl q
    · by_cases e : j = i
      · subst e
        rw [stl_same] at hj
        have hj : A'.map (·.block) = some k := hj
        rcases hb with q | q
        · exact .inr ⟨j, by rw [hblk, ← q]; exact hj⟩
        · rw [q] at hj; cases hj; omega
      · rw [stl_other _ _ e] at hj; exact .inr ⟨j, hj⟩
  have hmv : ∀ vs x, c.R (Bl O L) w vs x → c.R (Bl O (stl L i (.own c e A' (l + m) cap' (xs ++ ys)))) w' vs x := fun vs x hR => by
    have h2 : Keeps (fun k => Bl O (stl L i (.own c e A' (l + m) cap' (xs ++ ys))) k ∨ Bl O L k) w w' := hKB.mono fun k _ hk => .inr hk
    exact c.sub (c.keep (c.sub hR fun k hk hq => hq.elim (hbl k hk) id) h2) fun k _ hk => .inl hk
  refine h.upd i _ hK (fun k _ hk => by rw [hblk]; exact hk) (fun k hk => ?_) ⟨by rw [List.length_append, hl, hm], cells ++ news, ho, fun k x hx => ?_⟩
  · have hk : A'.map (·.block) = some k := hk
    rcases hb with q | q
    · exact .inl (by rw [hblk, ← q]; exact hk)
    · rw [q] at hk; cases hk; exact .inr (Nat.le_refl _)
  · rcases Nat.lt_or_ge k xs.length with q | q
    · rw [List.getElem?_append_left q] at hx
      obtain ⟨vs, h1, h2⟩ := hE k x hx
      refine ⟨vs, hmv _ _ h1, fun j u hj => ?_⟩
      have := h2 j u hj
      rw [List.getElem?_append_left (List.getElem?_eq_some_iff.1 this).1]; exact this
    · rw [List.getElem?_append_right q] at hx
      obtain ⟨vs, h1, h2⟩ := hY _ x hx
      refine ⟨vs, hmv _ _ h1, fun j u hj => ?_⟩
      have := h2 j u hj
      have e1 : k * c.sz = (k - xs.length) * c.sz + l * c.sz := by rw [← Nat.add_mul]; congr 1; omega
      rw [List.getElem?_append_right (by rw [hcl]; omega), hcl, e1]
      rw [show (k - xs.length) * c.sz + l * c.sz + j - l * c.sz = (k - xs.length) * c.sz + j by omega]; exact this
section
variable {P : Program} {E : Env} {d : Option Tmp} {x y : Operand} {ty xt yt : TypeId} {ps : String} {af : Array Edge} {g : Option (Nat × Bool)} {K : Value → World → Prop}
/-- Nothing is laid behind. -/
theorem n_app0 {e : TypeId} {zo : Option Value} {n b : Nat} {A C : Option Addr} {l c c' : Nat} (hx : evE E x = .slice A l c) (hy : evE E y = .slice C 0 c') (hu : P.underlying xt = some (.slice e)) (hu2 : P.underlying yt = some (.slice e)) (hi : (P.info? e).map (fun i => (i.zero, i.size, i.bytes)) = some (zo, n, b))
    (hlc : l ≤ c) (h : K (.slice A l c) w) : noisy P ⟨d, .call ⟨.builtin .append, #[x, y], #[xt, yt]⟩, ty, ps, af, g⟩ (evE E) w K := by
  have hf : (Builtin.firstCells n 0 (.slice C 0 c')).run P w = .ok #[] w := by
    cases C with
    | none => rfl
    | some a => simp [Builtin.firstCells, loadCells, loadCellsFrom, go_sem]
  have hr : (Builtin.append_ #[xt, yt] ty #[.slice A l c, .slice C 0 c']).run P w = .ok (.slice A l c) w := by
    cases A <;> cases C <;> simp [Builtin.append_, run_underlying hu, run_underlying hu2, run_sizeOf hi, Builtin.lenOf, hlc, Builtin.firstCells, loadCells, loadCellsFrom, storeCells, go_sem]
  unfold noisy execOp
  simp only [resolve, hx, hy, List.map_toArray, List.map_cons, List.map_nil, Sem.run_bind, Sem.run_pure, Result.andThen, invoke, builtin, hr]
  exact h
/-- What follows is laid behind a slice of one's own. -/
theorem n_app {τ : Type} {c : Cod τ} {e : TypeId} {z : Value} {n b : Nat} {A C : Option Addr} {l cap m c' : Nat} {xs ys : List τ} (hx : evE E x = .slice A l cap) (hy : evE E y = .slice C m c') (hu : P.underlying xt = some (.slice e)) (hu2 : P.underlying yt = some (.slice e)) (hi : (P.info? e).map (fun i => (i.zero, i.size, i.bytes)) = some (some z, n + 1, b)) (hz : z.cells.size = n + 1)
    (hn : c.sz = n + 1) (hb : b ≤ 128) (hS : Sep w0 S O w L) (i : Nat) (hL : L i = .own c e A l cap xs) (hY : Yl c (Bl O L) w C m ys) (hm : xs.length + ys.length ≤ 1000000000)
    (h : ∀ A' cap' w', Sep w0 S O w' (stl L i (.own c e A' (l + m) cap' (xs ++ ys))) → K (.slice A' (l + m) cap') w') : noisy P ⟨d, .call ⟨.builtin .append, #[x, y], #[xt, yt]⟩, ty, ps, af, g⟩ (evE E) w K := by
  obtain ⟨hl, cells, ho, hE⟩ := hS.own i hL
  have hml := hY.1
  rcases Nat.eq_zero_or_pos m with h0 | h0
  · subst h0
    refine n_app0 hx hy hu hu2 hi ho.caps ?_
    have := h A cap w (hS.app i hL hml hE (fun k x hx => by rw [List.length_eq_zero_iff.1 hml.symm] at hx; simp at hx) hl ho.1 (news := []) (by simpa using ho) ⟨rfl, rfl, rfl, Nat.le_refl _, fun _ _ _ => rfl⟩ (.inl rfl))
    exact this
  · obtain ⟨a, news, hC, hnl, hcell, h1, hN⟩ := hY.cells h0
    have hby : (l + m) * b ≤ 140737488355328 := by
      have : (l + m) * b ≤ 1000000000 * 128 := Nat.mul_le_mul (by omega) hb
      omega
    rw [hn] at ho hnl
    exact n_append2 hx hy hu hu2 hi hz ⟨_, cells, news, a, ho, hC, hnl, hcell, h1, by unfold maxLen; omega, hby, Nat.zero_le _, fun A' c'' w' ho' hg hb' => h _ _ _ (hS.app i hL hml hE hN hl (by rw [hn]; exact ho.1) (by rw [hn]; exact ho') hg hb')⟩
end

/-! ### Calls -/
theorem Res.ok.sub {B : Nat} {O O' : Nat → Prop} {w : World} {r : Res} (h : r.ok B O w) (hO : ∀ k, k < w.heap.size → O' k → O k) : r.ok B O' w :=
  h.keep (S := no) (Keeps.refl _ _) (fun _ _ => id) (fun _ _ h => h.elim) hO
def pick (L Lr : Hold) (f : Nat → Option Nat) : Hold := fun j => match f j with | none => L j | some a => Lr a
theorem Sep.callf {Lr : Hold} (h : Sep w0 S O w L) (hC : Sep w no (Bl O L) w' Lr) (f : Nat → Option Nat) (hf : ∀ j a, f j = some a → L j = .gone) (inj : ∀ i j a, f i = some a → f j = some a → i = j) : Sep w0 S O w' (pick L Lr f) := by
  have hs : ∀ k, Bl O (pick L Lr f) k → Bl (Bl O L) Lr k := by
    rintro k (q | ⟨j, hj⟩)
    · exact .inl (.inl q)
    · unfold pick at hj
      cases hq : f j with
      | none => rw [hq] at hj; exact .inl (.inr ⟨j, hj⟩)
      | some a => rw [hq] at hj; exact .inr ⟨a, hj⟩
  have hn : ∀ j, f j = none → pick L Lr f j = L j := fun j hq => by unfold pick; rw [hq]
  have hsm : ∀ j a, f j = some a → pick L Lr f j = Lr a := fun j a hq => by unfold pick; rw [hq]
  refine h.step (T := no) hC.pure (fun _ _ h => h.elim) (fun j k hk => ?_) (fun j => ?_) (fun x y k hx hy => ?_)
  · cases hq : f j with
    | none => rw [hn j hq] at hk; exact .inl ⟨j, hk⟩
    | some a => rw [hsm j a hq] at hk; exact .inr ((hC.bd a k hk).elim id fun q => q.elim)
  · cases hq : f j with
    | none => exact .inl ⟨j, hn j hq, fun _ _ => id⟩
    | some a => rw [hsm j a hq]; exact .inr ((hC.ok a).sub fun k _ hk => hs k hk)
  · cases hq : f x with
    | none =>
      rw [hn x hq] at hx
      cases hq2 : f y with
      | none => rw [hn y hq2] at hy; exact h.nd x y k hx hy
      | some a => rw [hsm y a hq2] at hy; have h1 := ((hC.bd a k hy).elim id fun q => q.elim); have := ((h.ok x).lt hx).2; omega
    | some a =>
      rw [hsm x a hq] at hx
      cases hq2 : f y with
      | none => rw [hn y hq2] at hy; have h1 := ((hC.bd a k hx).elim id fun q => q.elim); have := ((h.ok y).lt hy).2; omega
      | some b => rw [hsm y b hq2] at hy; have := hC.nd a b k hx hy; subst this; exact inj x y a hq hq2
theorem Sep.call1 {Lr : Hold} (h : Sep w0 S O w L) (hC : Sep w no (Bl O L) w' Lr) (i a : Nat) (hi : L i = .gone) : Sep w0 S O w' (stl L i (Lr a)) := by
  have := h.callf hC (fun j => if j = i then some a else none) (fun j b hj => by split at hj; (rename_i e; rw [e]; exact hi); cases hj) (fun x y b hx hy => by split at hx <;> split at hy <;> simp_all)
  have e : pick L Lr (fun j => if j = i then some a else none) = stl L i (Lr a) := by
    funext j
    unfold pick
    by_cases q : j = i
    · subst q; rw [stl_same]; simp
    · rw [stl_other _ _ q]; simp [q]
  rw [← e]; exact this
theorem Sep.call2 {Lr : Hold} (h : Sep w0 S O w L) (hC : Sep w no (Bl O L) w' Lr) (i a i2 a2 : Nat) (hi : L i = .gone) (hi2 : L i2 = .gone) (ha : a2 ≠ a) (hne : i2 ≠ i) : Sep w0 S O w' (stl (stl L i (Lr a)) i2 (Lr a2)) := by
  have := h.callf hC (fun j => if j = i2 then some a2 else if j = i then some a else none) (fun j b hj => by
    split at hj
    · rename_i e; rw [e]; exact hi2
    · split at hj
      · rename_i e; rw [e]; exact hi
      · cases hj) (fun x y b hx hy => by
    split at hx <;> split at hy <;> (try split at hx) <;> (try split at hy) <;> simp_all
    all_goals omega)
  have e : pick L Lr (fun j => if j = i2 then some a2 else if j = i then some a else none) = stl (stl L i (Lr a)) i2 (Lr a2) := by
    funext j
    unfold pick
    by_cases q : j = i2
    · subst q; rw [stl_same]; simp
    · rw [stl_other _ _ q]
      by_cases q2 : j = i
      · subst q2; rw [stl_same]; simp [q]
      · rw [stl_other _ _ q2]; simp [q, q2]
  rw [← e]; exact this
theorem Sep.call3 {Lr : Hold} (h : Sep w0 S O w L) (hC : Sep w no (Bl O L) w' Lr) (i : Nat) (i2 : Nat) (i3 : Nat) (hi : L i = .gone) (hi2 : L i2 = .gone) (hi3 : L i3 = .gone) (n1 : i2 ≠ i) (n2 : i3 ≠ i) (n3 : i3 ≠ i2) : Sep w0 S O w' (stl (stl (stl L i (Lr 0)) i2 (Lr 1)) i3 (Lr 2)) := by
  have := h.callf hC (fun j => if j = i3 then some 2 else if j = i2 then some 1 else if j = i then some 0 else none) (fun j b hj => by
    split at hj
    · rename_i e; rw [e]; exact hi3
    · split at hj
      · rename_i e; rw [e]; exact hi2
      · split at hj
        · rename_i e; rw [e]; exact hi
        · cases hj) (fun x y b hx hy => by
    split at hx <;> split at hy <;> (try split at hx) <;> (try split at hy) <;> (try split at hx) <;> (try split at hy) <;> simp_all
    all_goals omega)
  have e : pick L Lr (fun j => if j = i3 then some 2 else if j = i2 then some 1 else if j = i then some 0 else none) = stl (stl (stl L i (Lr 0)) i2 (Lr 1)) i3 (Lr 2) := by
    funext j
    unfold pick
    by_cases q : j = i3
    · subst q; rw [stl_same]; simp
    · rw [stl_other _ _ q]
      by_cases q2 : j = i2
      · subst q2; rw [stl_same]; simp [q]
      · rw [stl_other _ _ q2]
        by_cases q3 : j = i
        · subst q3; rw [stl_same]; simp [q, q2]
        · rw [stl_other _ _ q3]; simp [q, q2, q3]
  rw [← e]; exact this
/-- Results whose elements are flat. -/
def Res.Flat (r : Res) : Prop := ∀ B O O' w, r.ok B O w → r.ok B O' w
theorem flat_own {τ : Type} (f : Fl τ) (e : TypeId) (A : Option Addr) (l cap : Nat) (xs : List τ) : (Res.own f.cod e A l cap xs).Flat := fun B O O' w ⟨hl, cells, ho, hE⟩ => ⟨hl, cells, ho, hE⟩
theorem flat0 : ∀ j, (rl [] j).Flat := fun j => by cases j <;> exact fun _ _ _ _ _ => trivial
theorem flatS {r : Res} {t : List Res} (h : r.Flat) (ht : ∀ j, (rl t j).Flat) : ∀ j, (rl (r :: t) j).Flat
  | 0 => h
  | j + 1 => ht j
theorem Sep.widen {Lr : Hold} (hC : Sep w no no w' Lr) (hf : ∀ j, (Lr j).Flat) {O' : Nat → Prop} (hlt : ∀ k, O' k → k < w.heap.size) : Sep w no O' w' Lr := ⟨hC.pure, fun k hk => ⟨hlt k hk, id⟩, fun i => hf i _ _ _ _ (hC.ok i), hC.bd, hC.nd⟩

/-! ### Slices of slices; elements that are slices -/
theorem Sep.el {τ : Type} (h : Sep w0 S O w L) (i : Nat) {c : Cod τ} {A : Option Addr} {l cap : Nat} {xs : List (List τ)} (hi : L i = .ro (FP.sl (cL c) A l cap xs)) {k : Int} (hx : 0 ≤ k ∧ k < (xs.length : Int)) (j j2 : Nat) (hj : L j = .gone) (hj2 : L j2 = .gone) (hne : j2 ≠ j) :
    ∃ A' l' cap', w.cell? (ixA A k 1) = some (.slice A' l' cap') ∧ Sep w0 S O w (stl (stl L j (.ro (FP.sl c A' l' cap' (gx xs k.toNat)))) j2 (.ro (FP.cl (ixA A k 1) (.slice A' l' cap')))) := by
  obtain ⟨A', l', cap', h1, h2, h3⟩ := rd_l (h.ro i hi) hx (fun q => gx_some q)
  refine ⟨A', l', cap', h1, ?_⟩
  have s1 := h.addro j hj _ h2
  exact s1.addro j2 (by rw [stl_other _ _ hne]; exact hj2) _ ((FP.cl _ _).sub (O := Bl O L) ⟨h3, h1⟩ fun k _ hk => Bl.add_ro hj rfl k hk)
theorem Sep.elo {τ : Type} (h : Sep w0 S O w L) (i : Nat) {c : Cod τ} {e : TypeId} {A : Option Addr} {l cap : Nat} {xs : List (List τ)} (hi : L i = .own (cL c) e A l cap xs) {k : Int} (hx : 0 ≤ k ∧ k < (xs.length : Int)) (j : Nat) (hj : L j = .gone) :
    ∃ A' l' cap', w.cell? (ixA A k 1) = some (.slice A' l' cap') ∧ Sep w0 S O w (stl L j (.ro (FP.sl c A' l' cap' (gx xs k.toNat)))) := by
  obtain ⟨hl, cells, ho, hE⟩ := h.own i hi
  obtain ⟨vs, ⟨A', l', cap', rfl, q1, q2, q3⟩, hu⟩ := hE _ _ (gx_some (show k.toNat < xs.length by omega))
  obtain ⟨g, o, rfl, _, h1, _⟩ := ho.cellAt (hu 0 _ rfl)
  refine ⟨A', l', cap', ?_, h.addro j hj _ ⟨q1, q2, q3⟩⟩
  rw [ixA_off_]; exact h1
theorem Sep.clr (h : Sep w0 S O w L) (i : Nat) {p : Addr} {v : Value} (hi : L i = .ro (FP.cl p v)) : w.cell? p = some v := (h.ro i hi).2
theorem sl_drop {τ : Type} {c : Cod τ} {A : Option Addr} {l cap : Nat} {xs : List τ} (h : (FP.sl c A l cap xs).P O w) {k : Int} (hk : 0 ≤ k ∧ k ≤ (xs.length : Int)) : (FP.sl c (slA A cap k.toNat c.sz) (l - k.toNat) (cap - k.toNat) (xs.drop k.toNat)).P O w := by
  obtain ⟨h1, h2, h3⟩ := h
  refine ⟨by rw [List.length_drop, h1], by omega, fun h0 => ?_⟩
  rw [List.length_drop] at h0
  obtain ⟨b, off, rfl, hb, ho, hc⟩ := h3 (by omega)
  refine ⟨b, off + k.toNat * c.sz, by unfold slA; rw [if_neg (by omega)]; simp [Addr.add_mid], hb, ho, fun j x hx => ?_⟩
  rw [List.getElem?_drop] at hx
  obtain ⟨vs, q1, q2⟩ := hc _ x hx
  refine ⟨vs, q1, fun t u ht => ?_⟩
  have := q2 t u ht
  rw [Nat.add_mul] at this
  rw [show off + k.toNat * c.sz + j * c.sz + t = off + (k.toNat * c.sz + j * c.sz) + t by omega]; exact this
theorem sl_take {τ : Type} {c : Cod τ} {A : Option Addr} {l cap : Nat} {xs : List τ} (h : (FP.sl c A l cap xs).P O w) {k : Int} (hk : 0 ≤ k ∧ k ≤ (xs.length : Int)) : (FP.sl c A k.toNat cap (xs.take k.toNat)).P O w := by
  obtain ⟨h1, h2, h3⟩ := h
  refine ⟨by rw [List.length_take]; omega, by omega, fun h0 => ?_⟩
  rw [List.length_take] at h0
  obtain ⟨b, off, rfl, hb, ho, hc⟩ := h3 (by omega)
  refine ⟨b, off, rfl, hb, ho, fun j x hx => ?_⟩
  rw [List.getElem?_take] at hx
  split at hx
  · exact hc _ x hx
  · cases hx
theorem sl_cut {τ : Type} {c : Cod τ} {A : Option Addr} {l cap : Nat} {xs : List τ} (h : (FP.sl c A l cap xs).P O w) {k m : Int} (hk : 0 ≤ k ∧ k ≤ m ∧ m ≤ (xs.length : Int)) : (FP.sl c (slA A cap k.toNat c.sz) (m.toNat - k.toNat) (cap - k.toNat) ((xs.take m.toNat).drop k.toNat)).P O w :=
  sl_drop (sl_take h ⟨by omega, hk.2.2⟩) ⟨hk.1, by rw [List.length_take]; omega⟩
end
end Go.Proofs.Ytnhmeckhlajeaaa
