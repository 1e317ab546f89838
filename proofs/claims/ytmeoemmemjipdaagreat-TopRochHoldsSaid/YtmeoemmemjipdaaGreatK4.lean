/- Texts laid together: Map, Kt, Ret, Next, Opn, Opn2. -/
import Derived.Maps.Keyed
import Derived.DeepKeys4
import Derived.Test.YtmeoemmemjipdaaGreatRows
import Derived.ProofKit
import Derived.Lib.SmallJoins
import Derived.Deep.Slices
import Derived.Below
import Derived.OpenShut
import Derived.Test.YtmeoemmemjipdaaGreatK3
/- Maps of one's own, keyed by arrays of numbers: what they hold as a list of pairs. No program in sight. -/
namespace Go.Proofs.YtmeoemmemjipdaaGreat
open Go Go.RowKit Go.Shelf Go.Proofs.Tryz
set_option linter.unusedVariables false
set_option linter.unusedSimpArgs false
def kE (l : List Int) : Value := .agg (l.map (Value.int .i64)).toArray
theorem kE_inj {a b : List Int} (h : kE a = kE b) : a = b := by
  unfold kE at h
  simp only [Value.agg.injEq] at h
  have h2 : a.map (Value.int .i64) = b.map (Value.int .i64) := by simpa using congrArg Array.toList h
  exact (List.map_inj_right (fun x y hxy => by simpa using hxy)).1 h2
section
variable {τ : Type}
def mEs (vE : τ → Value) : Nat → List (List Int × τ) → List MapEntry
  | _, [] => []
  | i, p :: t => ⟨kE p.1, vE p.2, i⟩ :: mEs vE (i + 1) t
def mapO (vE : τ → Value) (m : List (List Int × τ)) : Obj := .map (mEs vE 0 m).toArray m.length
def mget : List (List Int × τ) → List Int → Option τ
  | [], _ => none
  | p :: t, k => if p.1 = k then some p.2 else mget t k
def mput : List (List Int × τ) → List Int → τ → List (List Int × τ)
  | [], k, v => [(k, v)]
  | p :: t, k, v => if p.1 = k then (k, v) :: t else p :: mput t k v
def yit (n : Nat) (k : List Int) : Prop := k.length = n ∧ ∀ x ∈ k, In64 x
def KOk (n : Nat) (m : List (List Int × τ)) : Prop := m.Pairwise (fun p q => p.1 ≠ q.1) ∧ ∀ p ∈ m, yit n p.1
theorem KOk.nil (n : Nat) : KOk n ([] : List (List Int × τ)) := ⟨.nil, fun p h => by simp at h⟩
theorem mput_mem {m : List (List Int × τ)} {k : List Int} {v : τ} {p : List Int × τ} (h : p ∈ mput m k v) : p.1 = k ∨ p ∈ m := by
  induction m with
  | nil => simp [mput] at h; left; rw [h]
  | cons a t ih =>
    unfold mput at h
    split at h
    · rcases List.mem_cons.1 h with h | h
      · left; rw [h]
      · right; exact List.mem_cons_of_mem _ h
    · rcases List.mem_cons.1 h with h | h
      · right; rw [h]; exact List.mem_cons_self
      · rcases ih h with h | h
        · exact .inl h
        · exact .inr (List.mem_cons_of_mem _ h)
theorem KOk.put {n : Nat} {m : List (List Int × τ)} (h : KOk n m) {k : List Int} (hk : yit n k) (v : τ) : KOk n (mput m k v) := by
  refine ⟨?_, fun p hp => ?_⟩
  · obtain ⟨h1, -⟩ := h
    induction m with
    | nil => exact .cons (fun _ h => by simp at h) .nil
    | cons a t ih =>
      unfold mput
      rw [List.pairwise_cons] at h1
      split
      · rename_i e
        rw [List.pairwise_cons]
        exact ⟨fun q hq => by have := h1.1 q hq; rw [e] at this; exact this, h1.2⟩
      · rename_i e
        rw [List.pairwise_cons]
        refine ⟨fun q hq => ?_, ih h1.2⟩
        rcases mput_mem hq with h | h
        · rw [h]; exact e
        · exact h1.1 q h
  · rcases mput_mem hp with h1 | h1
    · rw [h1]; exact hk
    · exact h.2 p h1
theorem mget_put {m : List (List Int × τ)} {k k' : List Int} {v : τ} : mget (mput m k v) k' = if k = k' then some v else mget m k' := by
  induction m with
  | nil => rfl
  | cons a t ih =>
    unfold mput
    by_cases e : a.1 = k
    · rw [if_pos e]
      show (if k = k' then some v else mget t k') = _
      by_cases e2 : k = k'
      · rw [if_pos e2, if_pos e2]
      · rw [if_neg e2, if_neg e2]
        show _ = if a.1 = k' then some a.2 else mget t k'
        rw [if_neg (by rw [e]; exact e2)]
    · rw [if_neg e]
      show (if a.1 = k' then some a.2 else mget (mput t k v) k') = _
      rw [ih]
      by_cases e2 : k = k'
      · subst e2; simp [e]
      · rw [if_neg e2, if_neg e2]; rfl
theorem mget_mem {m : List (List Int × τ)} {k : List Int} {v : τ} (h : mget m k = some v) : (k, v) ∈ m := by
  induction m with
  | nil => cases h
  | cons a t ih =>
    unfold mget at h
    split at h
    · rename_i e
      cases h
      rw [← e]; exact List.mem_cons_self
    · exact List.mem_cons_of_mem _ (ih h)
theorem mEs_len (vE : τ → Value) : ∀ (m : List (List Int × τ)) (i : Nat), (mEs vE i m).length = m.length
  | [], _ => rfl
  | p :: t, i => by rw [mEs, List.length_cons, List.length_cons, mEs_len vE t]
theorem yg6 (vE : τ → Value) : ∀ (m : List (List Int × τ)) (i j : Nat), (mEs vE i m)[j]? = m[j]?.map fun p => ⟨kE p.1, vE p.2, i + j⟩
  | [], _, _ => by simp [mEs]
  | p :: t, i, 0 => by simp [mEs]
  | p :: t, i, j + 1 => by
    rw [mEs, List.getElem?_cons_succ, List.getElem?_cons_succ, yg6 vE t (i + 1) j]
    congr 1
    funext p
    rw [Nat.add_assoc, Nat.add_comm 1 j]
theorem mget_none {m : List (List Int × τ)} {k : List Int} (h : ∀ p ∈ m, p.1 ≠ k) : mget m k = none := by
  induction m with
  | nil => rfl
  | cons a t ih =>
    unfold mget
    rw [if_neg (h a List.mem_cons_self)]
    exact ih fun p hp => h p (List.mem_cons_of_mem _ hp)
theorem mget_at {m : List (List Int × τ)} (hd : m.Pairwise (fun p q => p.1 ≠ q.1)) {k : List Int} {v : τ} {j : Nat} (h : m[j]? = some (k, v)) : mget m k = some v := by
  induction m generalizing j with
  | nil => simp at h
  | cons a t ih =>
    rw [List.pairwise_cons] at hd
    unfold mget
    cases j with
    | zero => simp at h; subst h; rw [if_pos rfl]
    | succ j =>
      rw [List.getElem?_cons_succ] at h
      rw [if_neg (hd.1 _ (List.mem_of_getElem? h))]
      exact ih hd.2 h
theorem mput_at {m : List (List Int × τ)} (hd : m.Pairwise (fun p q => p.1 ≠ q.1)) {k : List Int} {v v' : τ} {j : Nat} (h : m[j]? = some (k, v)) : mput m k v' = m.set j (k, v') := by
  induction m generalizing j with
  | nil => simp at h
  | cons a t ih =>
    rw [List.pairwise_cons] at hd
    unfold mput
    cases j with
    | zero => simp at h; subst h; rw [if_pos rfl]; rfl
    | succ j =>
      rw [List.getElem?_cons_succ] at h
      rw [if_neg (hd.1 _ (List.mem_of_getElem? h)), List.set_cons_succ, ih hd.2 h]
theorem mput_none {m : List (List Int × τ)} {k : List Int} {v : τ} (h : ∀ p ∈ m, p.1 ≠ k) : mput m k v = m ++ [(k, v)] := by
  induction m with
  | nil => rfl
  | cons a t ih =>
    unfold mput
    rw [if_neg (h a List.mem_cons_self), ih fun p hp => h p (List.mem_cons_of_mem _ hp)]
    rfl
end
section
variable {τ : Type} {P : Program} {w : World} {k e mt : TypeId} {n : Nat} {vE : τ → Value} {m : List (List Int × τ)} {b : Nat} {key : List Int}
structure KeyT (P : Program) (k : TypeId) (n : Nat) : Prop where
  law : Maps.Keyed P k
  of : ∀ l, yit n l → ∃ t, keyOf P k (kE l) = some t
theorem find_m (T : KeyT P k n) (hm : KOk n m) (hk : yit n key) :
    ((Instr.findKey k (kE key) (mEs vE 0 m)).run P w = .ok none w ∧ ∀ p ∈ m, p.1 ≠ key) ∨ ∃ j v, (Instr.findKey k (kE key) (mEs vE 0 m)).run P w = .ok (some (j, vE v)) w ∧ m[j]? = some (key, v) := by
  obtain ⟨t, ht⟩ := T.of key hk
  have hes : ∀ x ∈ mEs vE 0 m, ∃ p ∈ m, x.key = kE p.1 := fun x hx => by
    obtain ⟨j, hj⟩ := List.getElem?_of_mem hx
    rw [yg6] at hj
    cases hq : m[j]? with
    | none => rw [hq] at hj; cases hj
    | some p => rw [hq] at hj; cases hj; exact ⟨p, List.mem_of_getElem? hq, rfl⟩
  rcases T.law.find w ht (mEs vE 0 m) (fun x hx => by obtain ⟨p, hp, e⟩ := hes x hx; rw [e]; exact T.of _ (hm.2 p hp)) with ⟨h1, h2⟩ | ⟨j, x, h1, h2, h3⟩
  · refine .inl ⟨h1, fun p hp e => ?_⟩
    obtain ⟨j, hj⟩ := List.getElem?_of_mem hp
    have : (mEs vE 0 m)[j]? = some ⟨kE p.1, vE p.2, 0 + j⟩ := by rw [yg6, hj]; rfl
    exact h2 _ (List.mem_of_getElem? this) (by rw [e])
  · rw [yg6] at h2
    cases hq : m[j]? with
    | none => rw [hq] at h2; cases h2
    | some p =>
      rw [hq] at h2
      cases h2
      have e := kE_inj h3
      refine .inr ⟨j, p.2, h1, ?_⟩
      rw [← e]; exact hq
theorem run_mget (T : KeyT P k n) (hm : KOk n m) (hk : yit n key) (hu : P.underlying mt = some (.map k e)) {x0 : τ} {by_ : Nat} (hz : (P.info? e).map (fun i => (i.zero, i.size, i.bytes)) = some (some (vE x0), 1, by_)) (hb : w.heap[b]? = some (mapO vE m)) :
    (Instr.lookup mt (.map (some b)) (kE key) true).run P w = .ok (.tuple #[vE ((mget m key).getD x0), .bool (mget m key).isSome]) w := by
  obtain ⟨t, ht⟩ := T.of key hk
  rcases find_m (vE := vE) (w := w) T hm hk with ⟨h1, h2⟩ | ⟨j, v, h1, h2⟩
  · rw [mget_none h2]
    simp [Instr.lookup, run_underlying hu, MapKept.run_getObj_map hb, T.law.check w _ ht, h1, ycZ hz, Result.andThen]
  · rw [mget_at hm.1 h2]
    simp [Instr.lookup, run_underlying hu, MapKept.run_getObj_map hb, T.law.check w _ ht, h1, Result.andThen]
theorem mEs_set (vE : τ → Value) {m : List (List Int × τ)} {j : Nat} {v v' : τ} (h : m[j]? = some (key, v)) : (mEs vE 0 m).toArray.modify j (fun x => { x with key := kE key, val := vE v' }) = (mEs vE 0 (m.set j (key, v'))).toArray := by
  apply Array.ext_getElem?
  intro i
  rw [Array.getElem?_modify]
  simp only [List.getElem?_toArray, yg6, List.getElem?_set]
  by_cases e : j = i
  · subst e
    rw [if_pos rfl, if_pos rfl, h, if_pos (List.getElem?_eq_some_iff.1 h).1]
    rfl
  · rw [if_neg e, if_neg e]
theorem mEs_push (vE : τ → Value) (m : List (List Int × τ)) (v : τ) : (mEs vE 0 m).toArray.push ⟨kE key, vE v, m.length⟩ = (mEs vE 0 (m ++ [(key, v)])).toArray := by
  have H : ∀ (m : List (List Int × τ)) (i : Nat), mEs vE i (m ++ [(key, v)]) = mEs vE i m ++ [⟨kE key, vE v, i + m.length⟩] := by
    intro m
    induction m with
    | nil => intro i; rfl
    | cons a t ih => intro i; simp only [List.cons_append, mEs, ih, List.length_cons]; rw [Nat.add_assoc, Nat.add_comm 1]
  rw [H]; simp
theorem run_mput (T : KeyT P k n) (hm : KOk n m) (hk : yit n key) (hu : P.underlying mt = some (.map k e)) (hb : w.heap[b]? = some (mapO vE m)) (v : τ) :
    ∃ w', (Instr.mapUpdate mt (.map (some b)) (kE key) (vE v)).run P w = .ok () w' ∧ w'.heap[b]? = some (mapO vE (mput m key v)) ∧ Keeps (fun j => j = b) w w' := by
  obtain ⟨t, ht⟩ := T.of key hk
  have hKp : ∀ o : Obj, Keeps (fun j => j = b) w { w with heap := w.heap.setIfInBounds b o } := fun o => ⟨rfl, rfl, rfl, by simp, fun j _ hj => (MapKept.heap_set hb).2 j hj⟩
  have hb' : w.heap[b]? = some (.map (mEs vE 0 m).toArray m.length) := hb
  rcases find_m (vE := vE) (w := w) T hm hk with ⟨h1, h2⟩ | ⟨j, v0, h1, h2⟩
  · refine ⟨{ w with heap := w.heap.setIfInBounds b (.map ((mEs vE 0 m).toArray.push ⟨kE key, vE v, m.length⟩) (m.length + 1)) }, ?_, ?_, hKp _⟩
    · simp [Instr.mapUpdate, run_underlying hu, MapKept.run_getObj_map hb', T.law.check w _ ht, h1, MapKept.run_setObj_map _ hb', Result.andThen]
    · rw [(MapKept.heap_set hb').1, mput_none h2, mEs_push]
      simp [mapO]
  · have hj : (mEs vE 0 m)[j]? = some ⟨kE key, vE v0, 0 + j⟩ := by rw [yg6, h2]; rfl
    refine ⟨{ w with heap := w.heap.setIfInBounds b (.map ((mEs vE 0 m).toArray.modify j (fun x => { x with key := kE key, val := vE v })) m.length) }, ?_, ?_, hKp _⟩
    · simp [Instr.mapUpdate, run_underlying hu, MapKept.run_getObj_map hb', T.law.check w _ ht, h1, hj, T.law.stays w ht, MapKept.run_setObj_map _ hb', Result.andThen]
    · rw [(MapKept.heap_set hb').1, mput_at hm.1 h2, mEs_set vE h2]
      simp [mapO]
end
theorem n_val {P : Program} {o : Oper} {ρ : Operand → Value} {w : World} {K : Value → World → Prop} {v : Value} (h : (execOp ρ o).run P w = .ok (.value v) w) (hk : K v w) : ybk P o ρ w K := by
  unfold ybk; rw [h]; exact hk
section
variable {τ : Type} {P : Program} {E : Env} {w : World} {d : Option Tmp} {x y z : Operand} {ty xt k e : TypeId} {ps : String} {af : Array Edge} {g : Option (Nat × Bool)} {K : Value → World → Prop} {n b : Nat} {vE : τ → Value} {m : List (List Int × τ)} {key : List Int}
theorem n_mkmap {o : Option Operand} (hx : o = none) (h : ∀ g' w', g' = w.heap.size → w' = w.alloc (mapO vE ([] : List (List Int × τ))) → K (.map (some g')) w') : ybk P ⟨d, .makeMap xt o, ty, ps, af, g⟩ (evE E) w K := by
  subst hx
  unfold ybk execOp
  simp only [Instr.makeMap, newObj, Option.map_none, Sem.run_bind, Sem.run_pure, Result.andThen, Sem.run]
  exact h _ _ rfl rfl
theorem v_mget (T : KeyT P k n) (hm : KOk n m) (hk : yit n key) (hx : evE E x = .map (some b)) (hy : evE E y = kE key) (hu : P.underlying xt = some (.map k e)) {x0 : τ} {by_ : Nat} (hz : (P.info? e).map (fun i => (i.zero, i.size, i.bytes)) = some (some (vE x0), 1, by_)) (hb : w.heap[b]? = some (mapO vE m)) :
    (execOp (evE E) ⟨d, .lookup xt x y true, ty, ps, af, g⟩).run P w = .ok (.value (.tuple #[vE ((mget m key).getD x0), .bool (mget m key).isSome])) w := by
  have := run_mget (w := w) T hm hk hu hz hb
  unfold execOp
  simp only [hx, hy, this, Sem.run_bind, Sem.run_pure, Result.andThen]
theorem v_mlen (hx : evE E x = .map (some b)) (hu : P.underlying xt = some (.map k e)) (hb : w.heap[b]? = some (mapO vE m)) : (execOp (evE E) ⟨d, .call ⟨.builtin .len, #[x], #[xt]⟩, ty, ps, af, g⟩).run P w = .ok (.value (.int .i64 ((m.length : Nat) : Int))) w := by
  have hb' : w.heap[b]? = some (.map (mEs vE 0 m).toArray m.length) := hb
  simp [execOp, hx, resolve, invoke, builtin, Builtin.len_, go_sem, underlying, hu, goInt, MapKept.run_getObj_map hb', mEs_len]
theorem n_mput (T : KeyT P k n) (hm : KOk n m) (hk : yit n key) {v : τ} (hx : evE E x = .map (some b)) (hy : evE E y = kE key) (hz : evE E z = vE v) (hu : P.underlying xt = some (.map k e)) (hb : w.heap[b]? = some (mapO vE m))
    (h : ∀ w', w'.heap[b]? = some (mapO vE (mput m key v)) → Keeps (fun j => j = b) w w' → K undef w') : ybk P ⟨d, .mapUpdate xt x y z, ty, ps, af, g⟩ (evE E) w K := by
  obtain ⟨w', h1, h2, h3⟩ := run_mput T hm hk hu hb v
  unfold ybk execOp
  simp only [hx, hy, hz, h1, Sem.run_bind, Sem.run_pure, Result.andThen]
  exact h w' h2 h3
end
section
variable {τ : Type} {w0 w w' : World} {S O : Nat → Prop} {L : Hold} {vE : τ → Value} {m : List (List Int × τ)} {b : Nat}
theorem Sep.newm (h : Sep w0 S O w L) (i : Nat) (hi : L i = .gone) {g : Nat} {o : Obj} (h1 : g = w.heap.size) (h2 : w' = w.alloc o) : Sep w0 S O w' (stl L i (.obj g o)) := by
  subst h1
  refine h.add i hi _ (w' := w') (by rw [h2]; exact (Keeps.refl _ _).alloc _) (fun k hk => by cases hk; exact Nat.le_refl _) ⟨Nat.zero_le _, ?_⟩
  rw [h2]; exact heap_alloc_new w _
theorem Sep.mp (h : Sep w0 S O w L) (i : Nat) {g : Nat} {o : Obj} (hi : L i = .obj g o) : w.heap[g]? = some o := by
  have := h.ok i; rw [hi] at this; exact this.2
theorem Sep.mst (h : Sep w0 S O w L) (i : Nat) {g : Nat} {o o' : Obj} (hi : L i = .obj g o) (h1 : w'.heap[g]? = some o') (h2 : Keeps (fun j => j = g) w w') : Sep w0 S O w' (stl L i (.obj g o')) :=
  h.upd i _ h2 (fun k _ e => by rw [hi, e]; rfl) (fun k hk => by cases hk; rw [hi]; exact .inl rfl) ⟨Nat.zero_le _, h1⟩
end
section
variable {τ : Type} {c : Cod τ} {O : Nat → Prop} {w : World} {A : Option Addr} {l cap : Nat} {xs : List τ}
theorem arr_ix (h : (FP.sl c A l cap xs).P O w) {i : Int} (hx : 0 ≤ i ∧ i < (l : Int)) : 0 ≤ i ∧ i < ((xs.length : Nat) : Int) := ⟨hx.1, by rw [← yaL h]; exact hx.2⟩
theorem yhW {P : Program} {xt : TypeId} {zo : Option Value} {b : Nat} {xs : List Int} (hi : (P.info? xt).map (fun i => (i.zero, i.size, i.bytes)) = some (zo, l, b)) (h : (FP.sl cI A l cap xs).P O w) :
    (P.info? xt).map (fun i => (i.zero, i.size, i.bytes)) = some (zo, (xs.map (Value.int .i64)).length, b) := by rw [hi, List.length_map, yaL h]
theorem ygW {g : Nat} {xs : List Int} (h : (FP.sl cI (some ⟨g, 0, none⟩) l cap xs).P O w) : Cells w ⟨g, 0, none⟩ 0 (xs.map (Value.int .i64)) := by
  have H : ∀ (ys : List Int) (k : Nat), (∀ j, j < ys.length → xs[k + j]? = ys[j]?) → Cells w ⟨g, 0, none⟩ k (ys.map (Value.int .i64)) := by
    intro ys
    induction ys with
    | nil => intro k _; trivial
    | cons y t ih =>
      intro k hk
      have h0 := hk 0 (by simp)
      simp only [Nat.add_zero, List.getElem?_cons_zero] at h0
      have hlt := (List.getElem?_eq_some_iff.1 h0).1
      have hc := rd_1 (f := fI .i64) h (i := (k : Int)) (x := y) ⟨by omega, by omega⟩ (fun _ => by simpa using h0) (u := .int .i64 y) rfl
      refine ⟨?_, ih (k + 1) fun j hj => ?_⟩
      · have e : ixA (some (⟨g, 0, none⟩ : Addr)) (k : Int) (fI .i64).sz = (⟨g, 0, none⟩ : Addr).add k := by
          show (⟨g, 0, none⟩ : Addr).add ((k : Int).toNat * 1) = _
          rw [Int.toNat_natCast, Nat.mul_one]
        rwa [e] at hc
      · have := hk (j + 1) (by simpa using hj)
        rw [List.getElem?_cons_succ] at this
        rw [← this]; congr 1; omega
  exact H xs 0 fun j _ => by rw [Nat.zero_add]
end
section
variable {P : Program} {E : Env} {w : World} {d : Option Tmp} {x y z : Operand} {ty xt yt : TypeId} {ps : String} {af : Array Edge} {g : Option (Nat × Bool)} {K : Value → World → Prop}
theorem yhV {p : Addr} {l : Nat} {e : TypeId} {k : IntKind} {i : Int} {zo : Option Value} {n b : Nat} (hx : evE E x = .pointer (some p)) (hy : evE E y = .int k i) (hu : P.underlying xt = some (.array l e))
    (hi : (P.info? e).map (fun i => (i.zero, i.size, i.bytes)) = some (zo, n, b)) (h : 0 ≤ i ∧ i < (l : Int)) : (execOp (evE E) ⟨d, .indexAddr xt x y, ty, ps, af, g⟩).run P w = .ok (.value (.pointer (some (ixA (some p) i n)))) w :=
  v_iaddra hx hy hu hi h
theorem v_slice_a {gb : Nat} {l : Nat} {e : TypeId} {zo : Option Value} {n b : Nat} (hx : evE E x = .pointer (some ⟨gb, 0, none⟩)) (hu : P.underlying xt = some (.array l e))
    (hi : (P.info? e).map (fun i => (i.zero, i.size, i.bytes)) = some (zo, n, b)) : (execOp (evE E) ⟨d, .slice xt x none none none, ty, ps, af, g⟩).run P w = .ok (.value (.slice (some ⟨gb, 0, none⟩) l l)) w := by
  have e1 : (⟨gb, 0, none⟩ : Addr).add (0 * n) = ⟨gb, 0, none⟩ := by rw [Addr.add_mid]; simp
  unfold execOp
  simp only [hx, Instr.sliceAt, Instr.sureAddr, Instr.sliceBounds, Option.map_none, Sem.run_bind, Sem.run_pure, Result.andThen, run_underlying hu, yby hi, e1, ite_self, Nat.sub_zero]
def cpy (xs ys : List Int) : List Int := ys.take xs.length ++ xs.drop ys.length
theorem cpy_length (xs ys : List Int) : (cpy xs ys).length = xs.length := by unfold cpy; simp; omega
theorem gi_cpy {xs ys : List Int} {i : Nat} (hi : i < xs.length) : gi (cpy xs ys) i = if i < ys.length then gi ys i else gi xs i := by
  have hg : ∀ (l : List Int) k, gi l k = (l[k]?).getD 0 := fun l k => by unfold gi; simp
  rw [hg, hg, hg]
  unfold cpy
  rw [List.getElem?_append, List.length_take, List.getElem?_take, List.getElem?_drop]
  by_cases h : i < ys.length
  · rw [if_pos (by omega), if_pos hi, if_pos h]
  · rw [if_neg (by omega), if_neg h]
    congr 2; omega
theorem OwnS.setN {B : Nat} {e : TypeId} {l c g : Nat} : ∀ (vs : List Value) (k : Nat) {w : World} {xs : List Value}, OwnS w B e 1 (some ⟨g, 0, none⟩) l c xs → k + vs.length ≤ xs.length → OwnS (w.setCells g k vs) B e 1 (some ⟨g, 0, none⟩) l c (xs.take k ++ vs ++ xs.drop (k + vs.length))
  | [], k, w, xs, h, hk => by
    have e : w.setCells g k [] = w := rfl
    rw [e]; simpa using h
  | v :: t, k, w, xs, h, hk => by
    simp only [List.length_cons] at hk
    have h1 := h.set1 (i := k) (by omega) v rfl
    rw [Nat.zero_add] at h1
    have h2 := OwnS.setN t (k + 1) h1 (by rw [List.length_set]; omega)
    have e1 : (xs.set k v).take (k + 1) = xs.take k ++ [v] := by
      rw [List.take_add_one, List.take_set_of_le (Nat.le_refl k), List.getElem?_set_self (by omega)]; rfl
    have e2 : (xs.set k v).drop (k + 1 + t.length) = xs.drop (k + (t.length + 1)) := by
      rw [List.drop_set_of_lt (by omega), show k + 1 + t.length = k + (t.length + 1) by omega]
    rw [e1, e2, List.append_assoc (xs.take k)] at h2
    exact h2
theorem Sep.copied {w0 w' : World} {S O : Nat → Prop} {L : Hold} (h : Sep w0 S O w L) (i : Nat) {t : TypeId} {gb l cp : Nat} {xs ys : List Int} (hi : L i = .own cI t (some ⟨gb, 0, none⟩) l cp xs) (hw : w' = w.setCells gb 0 ((ys.take l).map (Value.int .i64))) :
    Sep w0 S O w' (stl L i (.own cI t (some ⟨gb, 0, none⟩) l cp (cpy xs ys))) := by
  obtain ⟨hl, cells, ho, hE⟩ := h.own i hi
  have hcl : cells = xs.map (Value.int .i64) := by
    refine List.ext_getElem? fun j => ?_
    rw [List.getElem?_map]
    cases hq : xs[j]? with
    | none =>
      have := List.getElem?_eq_none_iff.1 hq
      rw [List.getElem?_eq_none (by rw [ho.1]; show l * 1 ≤ j; omega)]; rfl
    | some q =>
      obtain ⟨vs, hv, hc⟩ := hE j q hq
      have hv : vs = [.int .i64 q] := hv
      subst hv
      have := hc 0 _ rfl
      have e3 : j * cI.sz + 0 = j := by show j * 1 + 0 = j; omega
      rw [e3] at this
      exact this
  subst hcl
  have hn := OwnS.setN ((ys.take l).map (Value.int .i64)) 0 ho (by simp; omega)
  have ecp : (xs.map (Value.int .i64)).take 0 ++ (ys.take l).map (Value.int .i64) ++ (xs.map (Value.int .i64)).drop (0 + ((ys.take l).map (Value.int .i64)).length) = (cpy xs ys).map (Value.int .i64) := by
    have e4 : ((ys.take l).map (Value.int .i64)).length = min l ys.length := by simp
    unfold cpy
    rw [List.take_zero, List.nil_append, Nat.zero_add, e4, List.map_append, hl, ← List.map_drop]
    congr 2
    by_cases c : ys.length ≤ xs.length
    · rw [Nat.min_eq_right c]
    · rw [List.drop_eq_nil_of_le (by omega), List.drop_eq_nil_of_le (by omega)]
  rw [ecp] at hn
  have hblk : (L i).blk = some gb := by rw [hi]; rfl
  have hK : ∀ (vs : List Value) (o : Nat) {a w : World}, Keeps (fun k => k = gb) a w → Keeps (fun k => k = gb) a (w.setCells gb o vs) := by
    intro vs
    induction vs with
    | nil => intro o a w h; exact h
    | cons v t ih => intro o a w h; exact ih (o + 1) (h.setCell (p := ⟨gb, o, none⟩) (fun _ => rfl) v)
  refine h.upd i _ (T := fun k => k = gb) (by rw [hw]; exact hK _ _ (Keeps.refl _ _)) (fun k _ e => by rw [e]; exact hblk) (fun k hk => .inl (by rw [hi]; exact hk)) ⟨by rw [cpy_length]; exact hl, _, by rw [hw]; exact hn, fun j q hj => ⟨[.int .i64 q], rfl, fun u v hu => ?_⟩⟩
  have hu0 : u = 0 := by
    have := (List.getElem?_eq_some_iff.1 hu).1
    simp at this; exact this
  subst hu0
  simp at hu
  subst hu
  have e3 : j * cI.sz + 0 = j := by show j * 1 + 0 = j; omega
  rw [e3, List.getElem?_map, hj]; rfl
theorem n_cpy {w0 : World} {S O : Nat → Prop} {L : Hold} {e t : TypeId} {zo : Option Value} {b gb l cp m c' : Nat} {C : Option Addr} {xs ys : List Int} (hx : evE E x = .slice (some ⟨gb, 0, none⟩) l cp) (hy : evE E y = .slice C m c') (hu : P.underlying xt = some (.slice e)) (hi : (P.info? e).map (fun i => (i.zero, i.size, i.bytes)) = some (zo, 1, b))
    (hS : Sep w0 S O w L) (i : Nat) (hi' : L i = .own cI t (some ⟨gb, 0, none⟩) l cp xs) (hr : (FP.sl cI C m c' ys).P no w) (h0 : 0 < ys.length)
    (h : ∀ w', Sep w0 S O w' (stl L i (.own cI t (some ⟨gb, 0, none⟩) l cp (cpy xs ys))) → K (.int .i64 ((min ys.length l : Nat) : Int)) w') : ybk P ⟨d, .call ⟨.builtin .copy, #[x, y], #[xt, yt]⟩, ty, ps, af, g⟩ (evE E) w K := by
  have hlx := yaL (hS.rdo i hi')
  obtain ⟨hly, hmc, hsl⟩ := hr
  obtain ⟨yb, yo, rfl, -, -, hyc⟩ := hsl h0
  refine n_copy hx hy hu hi ⟨gb, 0, ⟨yb, yo, none⟩, (ys.take l).map (Value.int .i64), rfl, rfl, by simp; omega, fun j u hj => ?_, fun u hu => ?_, ?_, fun w' hw' => ?_⟩
  · rw [List.getElem?_map, List.getElem?_take] at hj
    split at hj
    · cases hq : ys[j]? with
      | none => rw [hq] at hj; cases hj
      | some q =>
        rw [hq] at hj
        cases hj
        obtain ⟨vs, hv, hc⟩ := hyc j q hq
        have hv : vs = [.int .i64 q] := hv
        subst hv
        have := hc 0 _ rfl
        rw [Addr.add_mid]
        simpa [cI, Fl.cod, fI] using this
    · cases hj
  · obtain ⟨q, _, rfl⟩ := List.mem_map.1 hu; rfl
  · obtain ⟨hl, cells, ho, hE⟩ := hS.own i hi'
    intro j hj
    rw [List.length_map, List.length_take] at hj
    obtain ⟨vs, hv, hc⟩ := hE j xs[j] (List.getElem?_eq_getElem (by omega))
    have hv : vs = [.int .i64 xs[j]] := hv
    subst hv
    obtain ⟨g', o', e', _, h1, h2⟩ := ho.cellAt (hc 0 _ rfl)
    cases e'
    have e3 : j * cI.sz + 0 = j := by show j * 1 + 0 = j; omega
    rw [e3] at h1 h2
    exact ⟨by rw [h1]; rfl, h2⟩
  · have hK := h w' (hS.copied i hi' hw')
    rw [← hly] at hK
    exact hK
end
theorem mapM_opt {α β : Type} {f : α → Option β} : ∀ {L : List α}, (∀ a ∈ L, ∃ b, f a = some b) → ∃ bs, L.mapM f = some bs
  | [], _ => ⟨[], rfl⟩
  | a :: t, h => by
    obtain ⟨b, hb⟩ := h a (by simp)
    obtain ⟨bs, hbs⟩ := mapM_opt (L := t) fun c hc => h c (by simp [hc])
    exact ⟨b :: bs, by simp [List.mapM_cons, hb, hbs]⟩
theorem keyT_arr {P : Program} {k e : TypeId} {n m : Nat} (hl : laidOutB P = true) (hm : m + 1 ≤ 10000) (hrow : k < P.types.size) (hkt : P.keyTypeAt m k = true) (hkt2 : P.keyType k = true) (hu : P.underlying k = some (.array n e)) (he : P.underlying e = some (.int .i64)) (hce : P.cellsOf e = 1) (hck : P.cellsOf k = n) (h2 : 2 ≤ P.types.size) : KeyT P k n where
  law := Maps.Keyed.of_law (deep_law_laid hl hm hrow hkt (by rw [hu]))
  of := fun l ⟨hll, hin⟩ => by
    obtain ⟨d, hd⟩ : ∃ d, P.types.size + 1 = d + 1 + 1 + 1 := ⟨P.types.size - 2, by omega⟩
    have hcells : (kE l).cells.toList = l.map (Value.int .i64) := by simp [kE, Value.cells]
    have hform : (kE l).formed P k = true := by
      unfold kE Value.formed
      simp [hu, hck, hll]
    have helt : ∀ i ∈ List.range n, ∃ b, P.keyLits (d + 1 + 1) e (((l.map (Value.int .i64)).drop (i * P.cellsOf e)).take (P.cellsOf e)) = some b := fun i hi => by
      rw [List.mem_range] at hi
      have hi2 : i < l.length := by omega
      have hx := hin l[i] (List.getElem_mem hi2)
      have e1 : ((l.map (Value.int .i64)).drop (i * P.cellsOf e)).take (P.cellsOf e) = [.int .i64 l[i]] := by
        rw [hce, Nat.mul_one, List.drop_eq_getElem_cons (by simpa using hi2)]
        simp
      rw [e1]
      refine ⟨[.int .i64 l[i]], ?_⟩
      have hw : (Lit.int .i64 l[i]).wf = true := by
        simp only [Lit.wf, Bool.and_eq_true, decide_eq_true_eq]
        exact ⟨hx.1, by have := hx.2; show l[i] ≤ 9223372036854775807; omega⟩
      simp [Program.keyLits, he, hw]
    obtain ⟨bs, hbs⟩ := mapM_opt helt
    unfold keyOf
    simp only [hu, hkt2, hform, Bool.and_self, if_true, hcells, hd]
    unfold Program.keyLits
    simp only [hu]
    rw [if_pos (by simp [hck, hll]), hbs]
    exact ⟨_, rfl⟩
end Go.Proofs.YtmeoemmemjipdaaGreat

/- Maps' key types that are arrays of numbers. -/
namespace Go.Proofs.YtmeoemmemjipdaaGreat
open Go Go.RowKit Go.Shelf Go.Proofs.Tryz
theorem yhI : KeyT Tryz.prog 163 12 := keyT_arr (m := 3) (by kernel_rfl) (by decide) (of_decide_eq_true (by kernel_rfl)) (by kernel_rfl) (by kernel_rfl) underlying163 underlying3 (by kernel_rfl) (by kernel_rfl) (of_decide_eq_true (by kernel_rfl))
end Go.Proofs.YtmeoemmemjipdaaGreat

/- A function's end whose results lie partly in memory; pointers that may be nil; products as elements. No program in sight. -/
namespace Go.Proofs.YtmeoemmemjipdaaGreat
open Go Go.RowKit Go.Shelf Go.Proofs.Tryz
set_option linter.unusedVariables false
set_option linter.unusedSimpArgs false
def RvE (P : Program) (E : Env) (w : World) : ResultVar → Value → Prop
  | .tmp t, v => E t = v
  | .cell t y, v => ∃ a, E t = .pointer (some a) ∧ (loadVar y a).run P w = .ok v w
section
variable {P : Program} {E : Env} {w : World} {t : Tmp} {y : TypeId}
theorem rv_t {v : Value} (h : E t = v) : RvE P E w (.tmp t) v := h
theorem rv_n {p : Addr} {u : TypeDesc} {vs : List Value} {zo : Option Value} {b : Nat} (h : E t = .pointer (some p)) (hu : P.underlying y = some u) (hn : aggD u = true) (hi : (P.info? y).map (fun i => (i.zero, i.size, i.bytes)) = some (zo, vs.length, b)) (hc : Cells w p 0 vs) : RvE P E w (.cell t y) (.agg vs.toArray) := by
  refine ⟨p, h, ?_⟩
  have := ye0 (P := P) vs 0 #[] hc
  simp only [loadVar, Sem.run_bind, Result.andThen, ygz hu hn, yby hi, if_true]
  simp only [loadCells, this, Sem.run_bind, Result.andThen, Sem.run_pure]
  simp
def rv1 (tmps : Array Value) : ResultVar → Sem Value
  | .tmp t => pure (tmps.getD t undef)
  | .cell a t => do loadVar t (← asAddr (tmps.getD a undef))
theorem rv1_run {rv : ResultVar} {v : Value} {N : Nat} {ds : List Deferred} {a : Act} (r : Rep N E ds a) (h : RvE P E w rv v) : (rv1 a.tmps rv).run P w = .ok v w := by
  cases rv with
  | tmp t =>
    show (Sem.run P (pure (a.tmps.getD t undef)) w) = _
    rw [r.get]
    rw [show E t = v from h]; rfl
  | cell t y =>
    obtain ⟨p, h1, h2⟩ := h
    show Sem.run P (do loadVar y (← asAddr (a.tmps.getD t undef))) w = _
    rw [r.get, h1]
    simp only [asAddr, Sem.run_bind, Sem.run_pure, Result.andThen, h2]
end
section
variable {P : Program} {fn : Func} {F : Fence} {n : Nat} {N : Nat} {t : List Item} {R : Ending → World → Prop} {E : Env} {w : World} {q1 q2 q3 : ResultVar} {v1 v2 v3 : Value}
theorem results_eq (fn : Func) (tmps : Array Value) : results fn tmps = (do let vs ← fn.results.mapM (rv1 tmps); pure (if h : vs.size = 1 then vs[0] else .tuple vs)) := rfl
theorem wt_retx2 (hr : fn.results = #[q1, q2]) (h1 : RvE P E w q1 v1) (h2 : RvE P E w q2 v2) (h : R (.returned (.tuple #[v1, v2])) w) : WT F n P N (.code .ret :: t) (bodyPost P fn R) E [] w :=
  ycS fun a r => ⟨r.defers, _, by
    rw [results_eq, hr]
    simp [Sem.run_bind, Result.andThen, rv1_run r h1, rv1_run r h2], h⟩
end
def cPr {α β : Type} (a : Cod α) (b : Cod β) : Cod (α × β) where
  sz := a.sz + b.sz
  R := fun O w vs x => ∃ u v, vs = u ++ v ∧ a.R O w u x.1 ∧ b.R O w v x.2
  len := fun ⟨u, v, h, h1, h2⟩ => by rw [h, List.length_append, a.len h1, b.len h2]
  one := fun ⟨u, v, h, h1, h2⟩ y hy => by
    subst h
    rcases List.mem_append.1 hy with q | q
    · exact a.one h1 y q
    · exact b.one h2 y q
  keep := fun ⟨u, v, h, h1, h2⟩ hk => ⟨u, v, h, a.keep h1 hk, b.keep h2 hk⟩
  sub := fun ⟨u, v, h, h1, h2⟩ hs => ⟨u, v, h, a.sub h1 hs, b.sub h2 hs⟩
theorem bp6 {E : Env} {x1 x2 x3 x4 x5 x6 : Operand} {v1 v2 v3 v4 v5 v6 : Value} {i1 i2 i3 i4 i5 i6 : Nat} (h1 : evE E x1 = v1) (h2 : evE E x2 = v2) (h3 : evE E x3 = v3) (h4 : evE E x4 = v4) (h5 : evE E x5 = v5) (h6 : evE E x6 = v6) : #[(i1, x1), (i2, x2), (i3, x3), (i4, x4), (i5, x5), (i6, x6)].map (fun (i, x) => (i, evE E x)) = #[(i1, v1), (i2, v2), (i3, v3), (i4, v4), (i5, v5), (i6, v6)] := by simp [h1, h2, h3, h4, h5, h6]
theorem R_ro {τ : Type} {c : Cod τ} {O : Nat → Prop} {w : World} {u : List Value} {xs : List τ} (h : (cL c).R O w u xs) : ∃ A l cap, u = [.slice A l cap] ∧ (FP.sl c A l cap xs).P O w := h
theorem fpl_ro {τ : Type} {c : Cod τ} {O : Nat → Prop} {w : World} {A : Option Addr} {l cap : Nat} {xs : List τ} {L : Hold} {Φ : FP} (h : (FP.sl c A l cap xs).P (Bl O L) w) {i : Nat} (hi : L i = .gone) : (FP.sl c A l cap xs).P (Bl O (stl L i (.ro Φ))) w :=
  FP.sub (FP.sl c A l cap xs) h fun k _ hk => Bl.add_ro hi rfl k hk
end Go.Proofs.YtmeoemmemjipdaaGreat

/- Effective divisors of a degree in lexicographic order: the next one, all of them. No program in sight. -/
namespace Go.Proofs.YtmeoemmemjipdaaGreat
open Go Go.Proofs.Tryz
set_option linter.unusedVariables false
set_option linter.unusedSimpArgs false
def ydB (n : Nat) (k : Int) : List Int := List.replicate (n - 1) 0 ++ [k]
def yeC : List Int → Option (List Int)
  | [] => none
  | k :: t => match yeC t with
    | some t' => some (k :: t')
    | none => if t.sum = 0 then none else some ((k + 1) :: ydB t.length (t.sum - 1))
theorem yfO {k : Int} {t t' : List Int} (h : yeC t = some t') : yeC (k :: t) = some (k :: t') := by simp [yeC, h]
theorem yd4 {k : Int} {t : List Int} (h : yeC t = none) : yeC (k :: t) = if t.sum = 0 then none else some ((k + 1) :: ydB t.length (t.sum - 1)) := by simp [yeC, h]
theorem yg9 : ∀ (d : List Int), (∀ v, v + 2 ≤ d.length → (d.drop (v + 1)).sum = 0) → yeC d = none
  | [], _ => rfl
  | k :: t, h => by
    have h1 : yeC t = none := yg9 t fun v hv => by
      have := h (v + 1) (by simp; omega)
      simpa using this
    rw [yd4 h1]
    cases t with
    | nil => rfl
    | cons a u =>
      have := h 0 (by simp)
      simp only [Nat.zero_add, List.drop_one, List.tail_cons] at this
      rw [if_pos this]
theorem nextF_some : ∀ (d : List Int) (v : Nat), v + 2 ≤ d.length → (d.drop (v + 1)).sum ≠ 0 → (∀ w, v < w → w + 2 ≤ d.length → (d.drop (w + 1)).sum = 0) →
    yeC d = some (d.take v ++ (gi d v + 1) :: ydB (d.length - v - 1) ((d.drop (v + 1)).sum - 1))
  | [], _, h, _, _ => absurd h (by simp)
  | k :: t, 0, h, h1, h2 => by
    have h3 : yeC t = none := yg9 t fun w hw => by
      have := h2 (w + 1) (by omega) (by simp; omega)
      simpa using this
    rw [yd4 h3]
    simp only [Nat.zero_add, List.drop_one, List.tail_cons] at h1 ⊢
    rw [if_neg h1]
    simp [gi]
  | k :: t, v + 1, h, h1, h2 => by
    have ih := nextF_some t v (by simp at h; omega) (by simpa using h1) fun w hw hw2 => by
      have := h2 (w + 1) (by omega) (by simp; omega)
      simpa using this
    rw [yfO ih]
    simp [gi]
theorem ygH {m : Nat} (hm : 1 ≤ m) (z : Int) : (ydB m z).length = m := by unfold ydB; simp; omega
theorem gi_firstF (m : Nat) (z : Int) (i : Nat) : gi (ydB m z) i = if i = m - 1 then z else 0 := by
  unfold ydB gi
  simp only [List.getD_eq_getElem?_getD, List.getElem?_append, List.length_replicate, List.getElem?_replicate]
  by_cases h : i < m - 1
  · rw [if_pos h, if_pos h, if_neg (by omega)]; rfl
  · rw [if_neg h]
    by_cases e : i = m - 1
    · rw [if_pos e, e, Nat.sub_self]; rfl
    · rw [if_neg e, List.getElem?_eq_none (by simp; omega)]; rfl
theorem gi_next {d : List Int} {v : Nat} (hv : v + 2 ≤ d.length) (x z : Int) {i : Nat} (hi : i < d.length) : gi (d.take v ++ x :: ydB (d.length - v - 1) z) i = if i < v then gi d i else if i = v then x else if i + 1 = d.length then z else 0 := by
  have hg : ∀ (l : List Int) k, gi l k = (l[k]?).getD 0 := fun l k => by unfold gi; simp
  rw [hg, List.getElem?_append, List.length_take, Nat.min_eq_left (by omega)]
  by_cases h : i < v
  · rw [if_pos h, if_pos h, List.getElem?_take, if_pos h, ← hg]
  · rw [if_neg h, if_neg h]
    by_cases e : i = v
    · rw [if_pos e, e, Nat.sub_self]; rfl
    · rw [if_neg e, show i - v = (i - v - 1) + 1 by omega, List.getElem?_cons_succ, ← hg, gi_firstF]
      by_cases e2 : i + 1 = d.length
      · rw [if_pos e2, if_pos (by omega)]
      · rw [if_neg e2, if_neg (by omega)]
theorem next_length {d : List Int} {v : Nat} (hv : v + 2 ≤ d.length) (x z : Int) : (d.take v ++ x :: ydB (d.length - v - 1) z).length = d.length := by
  rw [List.length_append, List.length_take, List.length_cons, ygH (by omega)]; omega
def yfq : List (List Int) → Option (List Int) → Prop
  | [], _ => False
  | [x], o => yeC x = o
  | x :: y :: t, o => yeC x = some y ∧ yfq (y :: t) o
theorem yfq.append : ∀ {A : List (List Int)} {b : List Int} {B : List (List Int)} {o : Option (List Int)}, yfq A (some b) → yfq (b :: B) o → yfq (A ++ b :: B) o
  | [], _, _, _, h, _ => h.elim
  | [x], b, B, o, h, h2 => ⟨h, h2⟩
  | x :: y :: t, b, B, o, h, h2 => ⟨h.1, yfq.append (A := y :: t) h.2 h2⟩
theorem yfq.at_ : ∀ {A : List (List Int)} {d : List Int} {B : List (List Int)} {o : Option (List Int)}, yfq (A ++ d :: B) o → yeC d = (B.head?.or o)
  | [], d, [], o, h => h
  | [], d, b :: B, o, h => h.1
  | [x], d, B, o, h => yfq.at_ (A := []) h.2
  | x :: y :: t, d, B, o, h => yfq.at_ (A := y :: t) h.2
theorem yfq.map {s : Int} {m : Nat} (k : Int) : ∀ {L : List (List Int)}, yfq L none → (∀ t ∈ L, t.sum = s ∧ t.length = m) → yfq (L.map (k :: ·)) (if s = 0 then none else some ((k + 1) :: ydB m (s - 1)))
  | [], h, _ => h.elim
  | [x], h, hs => by
    have hx := hs x (by simp)
    show yeC (k :: x) = _
    rw [yd4 h, hx.1, hx.2]
  | x :: y :: t, h, hs => ⟨yfO h.1, yfq.map (L := y :: t) k h.2 fun u hu => hs u (by simp [hu])⟩
def ybG : Nat → Nat → List (List Int)
  | 0, _ => []
  | 1, k => [[(k : Int)]]
  | n + 2, k => (List.range (k + 1)).flatMap fun i => (ybG (n + 1) (k - i)).map ((i : Int) :: ·)
theorem ydW : ∀ (n k : Nat) (x : List Int), x ∈ ybG (n + 1) k ↔ x.length = n + 1 ∧ (∀ a ∈ x, 0 ≤ a) ∧ x.sum = k
  | 0, k, x => by
    show x ∈ [[(k : Int)]] ↔ _
    rw [List.mem_singleton]
    constructor
    · rintro rfl; simp
    · rintro ⟨h1, h2, h3⟩
      obtain ⟨a, rfl⟩ := List.length_eq_one_iff.1 h1
      simpa using h3
  | n + 1, k, x => by
    show x ∈ (List.range (k + 1)).flatMap (fun i => (ybG (n + 1) (k - i)).map ((i : Int) :: ·)) ↔ _
    rw [List.mem_flatMap]
    constructor
    · rintro ⟨i, hi, hx⟩
      rw [List.mem_range] at hi
      obtain ⟨t, ht, rfl⟩ := List.mem_map.1 hx
      obtain ⟨h1, h2, h3⟩ := (ydW n (k - i) t).1 ht
      refine ⟨by simp [h1], fun a ha => ?_, ?_⟩
      · rcases List.mem_cons.1 ha with rfl | ha
        · omega
        · exact h2 a ha
      · rw [List.sum_cons, h3]; omega
    · rintro ⟨h1, h2, h3⟩
      cases x with
      | nil => simp at h1
      | cons a t =>
        have ha := h2 a (by simp)
        have hts : 0 ≤ t.sum := by
          have : ∀ l : List Int, (∀ a ∈ l, 0 ≤ a) → 0 ≤ l.sum := fun l => by
            induction l with
            | nil => simp
            | cons b l ih => intro h; rw [List.sum_cons]; have := h b (by simp); have := ih fun c hc => h c (by simp [hc]); omega
          exact this t fun b hb => h2 b (by simp [hb])
        rw [List.sum_cons] at h3
        refine ⟨a.toNat, by rw [List.mem_range]; omega, List.mem_map.2 ⟨t, (ydW n (k - a.toNat) t).2 ⟨by simpa using h1, fun b hb => h2 b (by simp [hb]), by omega⟩, ?_⟩⟩
        rw [Int.toNat_of_nonneg ha]
theorem firstF_succ (n : Nat) (k : Int) : ydB (n + 2) k = 0 :: ydB (n + 1) k := by
  unfold ydB
  rw [show n + 2 - 1 = n + 1 by omega, show n + 1 - 1 = n by omega, List.replicate_succ]; rfl
theorem ygj : ∀ (n k : Nat), (∃ B, ybG (n + 1) k = ydB (n + 1) k :: B) ∧ yfq (ybG (n + 1) k) none
  | 0, k => ⟨⟨[], rfl⟩, rfl⟩
  | n + 1, k => by
    have blocks : ∀ (j i : Nat), i + j = k → (∃ B, (List.range' i (j + 1)).flatMap (fun i => (ybG (n + 1) (k - i)).map ((i : Int) :: ·)) = ((i : Int) :: ydB (n + 1) ((k - i : Nat) : Int)) :: B) ∧ yfq ((List.range' i (j + 1)).flatMap fun i => (ybG (n + 1) (k - i)).map ((i : Int) :: ·)) none := by
      intro j
      induction j with
      | zero =>
        intro i hi
        have e : k - i = 0 := by omega
        obtain ⟨⟨B, hB⟩, hs⟩ := ygj n (k - i)
        have e0 : List.range' i (0 + 1) = [i] := rfl
        rw [e0, List.flatMap_cons, List.flatMap_nil, List.append_nil]
        refine ⟨⟨B.map ((i : Int) :: ·), by rw [hB]; rfl⟩, ?_⟩
        have := hs.map (s := ((k - i : Nat) : Int)) (m := n + 1) (i : Int) fun t ht => by
          obtain ⟨h1, h2, h3⟩ := (ydW n (k - i) t).1 ht
          exact ⟨h3, h1⟩
        rwa [if_pos (by rw [e]; rfl)] at this
      | succ j ih =>
        intro i hi
        obtain ⟨⟨B, hB⟩, hs⟩ := ygj n (k - i)
        obtain ⟨⟨B2, hB2⟩, hs2⟩ := ih (i + 1) (by omega)
        rw [List.range'_succ, List.flatMap_cons]
        refine ⟨⟨B.map ((i : Int) :: ·) ++ _, by rw [hB]; rfl⟩, ?_⟩
        have := hs.map (s := ((k - i : Nat) : Int)) (m := n + 1) (i : Int) fun t ht => by
          obtain ⟨h1, h2, h3⟩ := (ydW n (k - i) t).1 ht
          exact ⟨h3, h1⟩
        rw [if_neg (by omega)] at this
        rw [hB2] at hs2 ⊢
        have e1 : ((k - i : Nat) : Int) - 1 = ((k - (i + 1) : Nat) : Int) := by omega
        rw [e1] at this
        exact this.append hs2
    obtain ⟨⟨B, hB⟩, hs⟩ := blocks k 0 (by omega)
    have e : ybG (n + 1 + 1) k = (List.range' 0 (k + 1)).flatMap fun i => (ybG (n + 1) (k - i)).map ((i : Int) :: ·) := by
      rw [← List.range_eq_range']; rfl
    rw [e]
    refine ⟨⟨B, ?_⟩, hs⟩
    rw [hB, firstF_succ]; rfl
end Go.Proofs.YtmeoemmemjipdaaGreat

/- What the arguments of the laws read as: numbers, lists, graphs; and what is handed back. -/
namespace Go.Proofs.YtmeoemmemjipdaaGreat
open Go Go.ChangeShapes Go.WideShapes Go.ChangeAt Go.RowKit Go.Joins Go.Deep Go.Proofs.Tryz
theorem own : ownKnob Tryz.prog.godebug = none := by kernel_rfl
theorem laidOut : laidOutB Tryz.prog = true := by kernel_rfl
theorem cells_int : Tryz.prog.cellsOf 3 = 1 := by kernel_rfl
theorem cells_graph : Tryz.prog.cellsOf 24 = 2 := by kernel_rfl
theorem cells_edge : Tryz.prog.cellsOf 76 = 3 := by kernel_rfl
theorem cells3 {w : World} {base : Nat} {a : Addr} {cs : List Value} (h : w.cells? base a 3 = some cs) : ∃ x y z, cs = [x, y, z] ∧ w.cell? a = some x ∧ w.cell? (a.add 1) = some y ∧ w.cell? (a.add 2) = some z := by
  unfold World.cells? at h
  split at h
  · have e : List.range 3 = [0, 1, 2] := rfl
    rw [e] at h
    cases h0 : w.cell? (a.add 0) with
    | none => simp [h0] at h
    | some x =>
      cases h1 : w.cell? (a.add 1) with
      | none => simp [h0, h1] at h
      | some y =>
        cases h2 : w.cell? (a.add 2) with
        | none => simp [h0, h1, h2] at h
        | some z =>
          simp [h0, h1, h2] at h
          exact ⟨x, y, z, h.symm, h0, rfl, rfl⟩
  · cases h
theorem ints_sl {W : World} {A : Option Addr} {xs : List Int} {c : Nat} (hc : xs.length ≤ c) (h : Ints W A xs) : (FP.sl cI A xs.length c xs).P no W := by
  refine ⟨rfl, hc, fun h0 => ?_⟩
  obtain ⟨b, off, e, hb, hcell⟩ := h h0
  refine ⟨b, off, e, hb, id, fun k x hx => ⟨_, rfl, fun j u hj => ?_⟩⟩
  have hk : k < xs.length := (List.getElem?_eq_some_iff.1 hx).1
  have hj0 : j = 0 := by
    have := (List.getElem?_eq_some_iff.1 hj).1
    simp [fI] at this; exact this
  subst hj0
  have hu : u = .int .i64 x := by
    have : (some (Value.int .i64 x)) = some u := hj
    simpa using this.symm
  rw [yaI hk] at hx
  cases hx
  rw [hu]
  have := hcell k hk
  simpa [cI, Fl.cod, fI] using this
theorem edges_sl {W : World} {A : Option Addr} {xs : List E3} {c : Nat} (hc : xs.length ≤ c) (h : ycY W A xs) : (FP.sl c3 A xs.length c xs).P no W := by
  refine ⟨rfl, hc, fun h0 => ?_⟩
  obtain ⟨b, off, e, hb, hcell⟩ := h h0
  refine ⟨b, off, e, hb, id, fun k x hx => ⟨_, rfl, fun j u hj => ?_⟩⟩
  have hk : k < xs.length := (List.getElem?_eq_some_iff.1 hx).1
  rw [ydj hk] at hx
  cases hx
  obtain ⟨q0, q1, q2⟩ := hcell k hk
  match j, hj with
  | 0, hj =>
    have : (some (Value.int .i64 (ge xs k).1)) = some u := hj
    cases this; exact q0
  | 1, hj =>
    have : (some (Value.int .i64 (ge xs k).2.1)) = some u := hj
    cases this; exact q1
  | 2, hj =>
    have : (some (Value.int .i64 (ge xs k).2.2)) = some u := hj
    cases this; exact q2
  | j + 3, hj => cases hj
set_option maxRecDepth 100000
variable {H : Type} {enc : TypeId × Value → H} {W : World} {r : Reach} {b0 : Nat}
theorem open_list {t : TypeId} (ht : Tryz.prog.underlying t = some (.slice 3)) {v : Value} {d : DataW H} {p : List MemPlace} (hv : Value.okWide Tryz.prog W r b0 t v) (h : DataW.Trod enc Tryz.prog W 0 (fun _ => true) true t v d p) :
    ∃ (A : Option Addr) (l : List Int) (c : Nat), v = .slice A l.length c ∧ (FP.sl cI A l.length c l).P no W := by
  suffices h : ∃ (A : Option Addr) (l : List Int) (c : Nat), v = .slice A l.length c ∧ l.length ≤ c ∧ Ints W A l by
    obtain ⟨A, l, c, e, hlc, hi⟩ := h
    exact ⟨A, l, c, e, ints_sl hlc hi⟩
  obtain ⟨a0, len, cap, rfl⟩ := okWide_slice ht hv
  obtain ⟨fuel, hf⟩ := h
  rcases open_ints ht underlying3 cells_int hf with ⟨hcs, hx⟩ | ⟨a, len', cap', zs, hcs, _, hl, hm, hz, hx, hcell, hwz⟩
  · simp [Value.cells] at hcs
    obtain ⟨rfl, rfl, rfl⟩ := hcs
    exact ⟨none, [], 0, rfl, Nat.le_refl _, Ints.nil _ _⟩
  · simp [Value.cells] at hcs
    obtain ⟨rfl, rfl, rfl⟩ := hcs
    simp only [if_true] at hz
    refine ⟨some a, zs.take len, cap, by rw [List.length_take, Nat.min_eq_left (by omega)], by rw [List.length_take]; omega, fun hp => ?_⟩
    rw [List.length_take, Nat.min_eq_left (by omega)] at hp ⊢
    obtain ⟨b, off, rfl, hc⟩ := ints_at hcell (by omega)
    refine ⟨b, off, rfl, ?_, fun k hk => ?_⟩
    · have := hc 0 (by omega)
      apply Nat.lt_of_not_le
      intro hle
      unfold World.cell? at this
      rw [Array.getElem?_eq_none hle] at this
      simp at this
    · rw [hc k (by omega), ybb (by rw [List.length_take]; omega), List.getElem_take, List.getD_eq_getElem?_getD, List.getElem?_eq_getElem (by omega)]
      rfl
theorem open_edge {fuel base : Nat} {spare : Nat → Bool} {held : Bool} {x y z : Value} {o : DataW H × List MemPlace} (h : DataW.trod enc Tryz.prog W base spare held fuel 76 [x, y, z] = some o) : ∃ a b c : Int, x = .int .i64 a ∧ y = .int .i64 b ∧ z = .int .i64 c := by
  obtain ⟨xs, n, _, rfl, hl, hlen, hf⟩ := DataW.trod_struct underlying76 h
  obtain ⟨x0, x1, x2, rfl⟩ : ∃ x0 x1 x2, xs = [x0, x1, x2] := by
    match xs, hlen with
    | [x0, x1, x2], _ => exact ⟨_, _, _, rfl⟩
  have f0 := hf 0 _ rfl
  have f1 := hf 1 _ rfl
  have f2 := hf 2 _ rfl
  simp [cells_int] at f0 f1 f2
  obtain ⟨a, e0, -, -⟩ := DataW.trod_int underlying3 f0
  obtain ⟨b, e1, -, -⟩ := DataW.trod_int underlying3 f1
  obtain ⟨c, e2, -, -⟩ := DataW.trod_int underlying3 f2
  simp at e0 e1 e2
  exact ⟨a, b, c, e0, e1, e2⟩
theorem open_graph {v : Value} {d : DataW H} {p : List MemPlace} (hv : Value.okWide Tryz.prog W r b0 24 v) (h : DataW.Trod enc Tryz.prog W 0 (fun _ => true) true 24 v d p) :
    ∃ (n : Int) (A : Option Addr) (es : List E3) (c : Nat), v = .agg #[.int .i64 n, .slice A es.length c] ∧ (FP.sl c3 A es.length c es).P no W := by
  suffices h : ∃ (n : Int) (A : Option Addr) (es : List E3) (c : Nat), v = .agg #[.int .i64 n, .slice A es.length c] ∧ es.length ≤ c ∧ ycY W A es by
    obtain ⟨n, A, l, c, e, hlc, hi⟩ := h
    exact ⟨n, A, l, c, e, edges_sl hlc hi⟩
  obtain ⟨c0, c1, y0, y1, m, rfl, rfl, rfl, hy0, hy1⟩ := open_agg2 underlying24 (by kernel_rfl) cells_graph hv h
  obtain ⟨n, e0, -, -⟩ := DataW.trod_int underlying3 hy0
  simp at e0
  subst e0
  rcases open_slice underlying22 hy1 with ⟨hcs, -⟩ | ⟨a, len, cap, mm, nn, D, Pl, hcs, -, hl, hm, hmm, -, hel⟩
  · simp at hcs
    subst hcs
    exact ⟨n, none, [], 0, rfl, Nat.le_refl _, fun h => absurd h (by simp)⟩
  · simp at hcs
    subst hcs
    simp only [if_true] at hmm
    have hex : ∀ i, i < len → ∃ e : E3, W.cell? (a.add (i * 3)) = some (.int .i64 e.1) ∧ W.cell? ((a.add (i * 3)).add 1) = some (.int .i64 e.2.1) ∧ W.cell? ((a.add (i * 3)).add 2) = some (.int .i64 e.2.2) := fun i hi => by
      obtain ⟨cs', hc, ht⟩ := hel i (by omega)
      rw [cells_edge] at hc
      obtain ⟨x, y, z, rfl, k0, k1, k2⟩ := cells3 hc
      obtain ⟨xa, xb, xc, rfl, rfl, rfl⟩ := open_edge ht
      exact ⟨(xa, xb, xc), k0, k1, k2⟩
    let f : Nat → E3 := fun i => if h : i < len then Classical.choose (hex i h) else (0, 0, 0)
    have hf : ∀ i, i < len → W.cell? (a.add (i * 3)) = some (.int .i64 (f i).1) ∧ W.cell? ((a.add (i * 3)).add 1) = some (.int .i64 (f i).2.1) ∧ W.cell? ((a.add (i * 3)).add 2) = some (.int .i64 (f i).2.2) := fun i hi => by
      show _ ∧ _ ∧ _
      have e : f i = Classical.choose (hex i hi) := dif_pos hi
      rw [e]
      exact Classical.choose_spec (hex i hi)
    have hlen : ((List.range len).map f).length = len := by simp
    refine ⟨n, some a, (List.range len).map f, cap, by rw [hlen], by rw [hlen]; omega, fun hp => ?_⟩
    rw [hlen] at hp ⊢
    obtain ⟨b, off, spot⟩ := a
    have hspot : spot = none := by simpa [Addr.add] using World.cell?_spot (hf 0 hp).1
    subst hspot
    refine ⟨b, off, rfl, ?_, fun k hk => ?_⟩
    · have := (hf 0 hp).1
      apply Nat.lt_of_not_le
      intro hle
      unfold World.cell? at this
      rw [Array.getElem?_eq_none (by simpa [Addr.add] using hle)] at this
      simp at this
    · have hg : ge ((List.range len).map f) k = f k := by rw [ydR (by rw [hlen]; exact hk)]; simp
      rw [hg]
      have := hf k hk
      simpa [Addr.add_mid] using this
end Go.Proofs.YtmeoemmemjipdaaGreat

/- What arguments read as: lists of lists, pairs of lists. -/
namespace Go.Proofs.YtmeoemmemjipdaaGreat
open Go Go.ChangeShapes Go.WideShapes Go.ChangeAt Go.RowKit Go.Joins Go.Deep Go.Proofs.Tryz
set_option maxRecDepth 100000
set_option linter.unusedVariables false
variable {H : Type} {enc : TypeId × Value → H} {W : World} {r : Reach} {b0 : Nat}
end Go.Proofs.YtmeoemmemjipdaaGreat
