/- The walk over an environment: operations on memory, calls, ends of functions. No program in sight. -/
import Derived.Test.YtnhmeckhlajeaaaOps
import Derived.Deep.MidRow
import Derived.Deep.WholeRow
import Derived.Laws.OwnMore
import Derived.Shelf.Abstract
namespace Go.Proofs.Ytnhmeckhlajeaaa
open Go Go.RowKit Go.Shelf
set_option linter.unusedVariables false
set_option linter.unusedSimpArgs false

/-- Block g stays what it was. -/
def Kp (w w' : World) (g : Nat) : Prop := g < w.heap.size → w'.heap[g]? = w.heap[g]?
theorem Kp.refl (w : World) (g : Nat) : Kp w w g := fun _ => rfl
theorem Keeps.kp {S : Nat → Prop} {w w' : World} (h : Keeps S w w') {g : Nat} (hg : ¬ S g) : Kp w w' g := fun hl => h.block g hl hg
theorem Row.kp {w w' : World} {g : Nat} {e : TypeId} {size : Nat} {xs : List Value} (h : Row w g e size xs) (k : Kp w w' g) : Row w' g e size xs := h.keep (k h.lt)
/-- A new block. -/
structure New (w : World) (g : Nat) (w' : World) (cs : Array Value) (e : TypeId) : Prop where
  at_ : g = w.heap.size
  to_ : w' = w.alloc (.cells cs e)
theorem New.row {w w' : World} {g : Nat} {cs : Array Value} {e : TypeId} (h : New w g w' cs e) : Row w' g e cs.size cs.toList := by rw [h.at_, h.to_]; exact Row.new _ _ _
theorem New.kp {w w' : World} {g : Nat} {cs : Array Value} {e : TypeId} (h : New w g w' cs e) (k : Nat) : Kp w w' k := fun hl => by rw [h.to_]; exact Below.heap_alloc _ _ _ hl
theorem New.keeps {w w' : World} {g : Nat} {cs : Array Value} {e : TypeId} (h : New w g w' cs e) (S : Nat → Prop) : Keeps S w w' := by rw [h.to_]; exact (Keeps.refl S w).alloc _
theorem New.size {w w' : World} {g : Nat} {cs : Array Value} {e : TypeId} (h : New w g w' cs e) : w'.heap.size = g + 1 := by rw [h.at_, h.to_]; simp
theorem kp_set {w : World} {p : Addr} {v : Value} {g : Nat} (h : p.block ≠ g) : Kp w (w.setCell p v) g := fun _ => Below.heap_setCell w p v g (Ne.symm h)
theorem kp_drew (w : World) (g : Nat) : Kp w w.drew g := fun _ => rfl

/-- The slice's base, its length and the index fit. -/
def Ix (A : Option Addr) (l : Nat) (i : Int) : Prop := A.isSome = true ∧ 0 ≤ i ∧ i < (l : Int)
def ixA (A : Option Addr) (i : Int) (sz : Nat) : Addr := (A.getD default).add (i.toNat * sz)
/-- A cell that can be written. -/
def Wr (w : World) (p : Addr) : Prop := (w.cell? p).isSome = true ∧ w.frozen? p = false

def aggD : TypeDesc → Bool
  | .struct _ | .array _ _ => true
  | _ => false

section
variable {P : Program} {E : Env} {w : World} {d : Option Tmp} {x y z : Operand} {ty xt yt : TypeId} {ps : String} {af : Array Edge} {g : Option (Nat × Bool)}

theorem run_isAgg_no {t : TypeId} {u : TypeDesc} (hu : P.underlying t = some u) (hn : aggD u = false) (w : World) : (isAgg t).run P w = .ok false w := by
  unfold isAgg underlying program
  simp only [Sem.run_bind, Sem.run, hu, Result.andThen, bind, Sem.bind]
  cases u <;> first | rfl | cases hn
theorem run_isAgg_yes {t : TypeId} {u : TypeDesc} (hu : P.underlying t = some u) (hn : aggD u = true) (w : World) : (isAgg t).run P w = .ok true w := by
  unfold isAgg underlying program
  simp only [Sem.run_bind, Sem.run, hu, Result.andThen, bind, Sem.bind]
  cases u <;> first | rfl | cases hn
theorem run_sizeOf {t : TypeId} {z : Option Value} {n b : Nat} (hi : (P.info? t).map (fun i => (i.zero, i.size, i.bytes)) = some (z, n, b)) (w : World) : (sizeOf t).run P w = .ok n w := by
  cases hq : P.info? t with
  | none => rw [hq] at hi; cases hi
  | some i =>
    rw [hq] at hi
    simp only [Option.map_some, Option.some.injEq, Prod.mk.injEq] at hi
    simp [sizeOf, typeInfo, hq, hi.2.1, go_sem]

theorem run_load (a : Addr) (v : Value) (h : w.cell? a = some v) : (load a).run P w = .ok v w := by
  unfold load
  simp only [Sem.run, h]
theorem v_load {p : Addr} {u : TypeDesc} {v : Value} (hx : evE E x = .pointer (some p)) (hu : P.underlying xt = some u) (hn : aggD u = false) (hc : w.cell? p = some v) :
    (execOp (evE E) ⟨d, .load xt x, ty, ps, af, g⟩).run P w = .ok (.value v) w := by
  unfold execOp
  simp only [hx, Instr.loadAt, Instr.sureAddr, loadVar, Sem.run_bind, Sem.run_pure, Result.andThen, run_isAgg_no hu hn, run_load p v hc, Bool.false_eq_true, if_false]

/-- Cells that stand one behind the other. -/
def Cells (w : World) (p : Addr) : Nat → List Value → Prop
  | _, [] => True
  | i, v :: t => w.cell? (p.add i) = some v ∧ Cells w p (i + 1) t
theorem run_loadCells {p : Addr} : ∀ (vs : List Value) (i : Nat) (acc : Array Value), Cells w p i vs → (loadCellsFrom p i vs.length acc).run P w = .ok (acc ++ vs.toArray) w
  | [], i, acc, _ => by simp [loadCellsFrom, go_sem]
  | v :: vs, i, acc, h => by
    simp only [List.length_cons, loadCellsFrom, Sem.run_bind, run_load _ v h.1, Result.andThen]
    rw [run_loadCells vs (i + 1) (acc.push v) h.2]
    simp
theorem v_loadn {p : Addr} {u : TypeDesc} {vs : List Value} {zo : Option Value} {b : Nat} (hx : evE E x = .pointer (some p)) (hu : P.underlying xt = some u) (hn : aggD u = true) (hi : (P.info? xt).map (fun i => (i.zero, i.size, i.bytes)) = some (zo, vs.length, b)) (hc : Cells w p 0 vs) :
    (execOp (evE E) ⟨d, .load xt x, ty, ps, af, g⟩).run P w = .ok (.value (.agg vs.toArray)) w := by
  unfold execOp
  have := run_loadCells (P := P) vs 0 #[] hc
  simp only [hx, Instr.loadAt, Instr.sureAddr, loadVar, Sem.run_bind, Sem.run_pure, Result.andThen, run_isAgg_yes hu hn, if_true, loadCells, run_sizeOf hi, this]
  simp

theorem v_field {cs : Array Value} {k : Nat} {fs : Array Field} {f : Field} {u : TypeDesc} {v : Value} (hx : evE E x = .agg cs) (hs : P.underlying xt = some (.struct fs)) (hf : fs[k]? = some f) (hu : P.underlying f.type = some u) (hn : aggD u = false) (hv : cs[f.offset]? = some v) :
    (execOp (evE E) ⟨d, .field xt x k, ty, ps, af, g⟩).run P w = .ok (.value v) w := by
  unfold execOp
  simp only [hx, Instr.field, Sem.run_bind, Sem.run_pure, Result.andThen, run_underlying hs, hf, asAgg, part, run_isAgg_no hu hn, Bool.false_eq_true, if_false, hv]
theorem v_faddr {p : Addr} {k : Nat} {fs : Array Field} {f : Field} {zo : Option Value} {n b : Nat} (hx : evE E x = .pointer (some p)) (hs : P.underlying xt = some (.struct fs)) (hf : fs[k]? = some f)
    (hi : (P.info? f.type).map (fun i => (i.zero, i.size, i.bytes)) = some (zo, n + 1, b)) : (execOp (evE E) ⟨d, .fieldAddr xt x k, ty, ps, af, g⟩).run P w = .ok (.value (.pointer (some (p.add f.offset)))) w := by
  unfold execOp
  simp only [hx, Instr.fieldAt, Instr.sureAddr, fieldPlace, Sem.run_bind, Sem.run_pure, Result.andThen, run_underlying hs, hf, run_sizeOf hi]
  rfl
theorem v_iaddr {A : Option Addr} {l c : Nat} {e : TypeId} {k : IntKind} {i : Int} {zo : Option Value} {n b : Nat} (hx : evE E x = .slice A l c) (hy : evE E y = .int k i) (hu : P.underlying xt = some (.slice e))
    (hi : (P.info? e).map (fun i => (i.zero, i.size, i.bytes)) = some (zo, n, b)) (h : Ix A l i) : (execOp (evE E) ⟨d, .indexAddr xt x y, ty, ps, af, g⟩).run P w = .ok (.value (.pointer (some (ixA A i n)))) w := by
  obtain ⟨hA, h0, h1⟩ := h
  cases A with
  | none => cases hA
  | some a =>
    unfold execOp
    have hc : (0 ≤ i ∧ i < (l : Int)) = True := by simp [h0, h1]
    simp only [hx, hy, Instr.indexAt, asIntOf, Sem.run_bind, Sem.run_pure, Result.andThen, run_underlying hu]
    simp only [hc, if_true, Sem.run_bind, Sem.run_pure, Result.andThen, run_sizeOf hi]
    rfl
theorem v_index {cs : Array Value} {l : Nat} {e : TypeId} {k : IntKind} {i : Int} {zo : Option Value} {u : TypeDesc} {b : Nat} {v : Value} (hx : evE E x = .agg cs) (hy : evE E y = .int k i) (hu : P.underlying xt = some (.array l e)) (he : P.underlying e = some u) (hn : aggD u = false)
    (hi : (P.info? e).map (fun i => (i.zero, i.size, i.bytes)) = some (zo, 1, b)) (h0 : 0 ≤ i ∧ i < (l : Int)) (hv : cs[i.toNat]? = some v) : (execOp (evE E) ⟨d, .index xt x y, ty, ps, af, g⟩).run P w = .ok (.value v) w := by
  unfold execOp
  have hc : (0 ≤ i ∧ i < (l : Int)) = True := by simp [h0]
  simp only [hx, hy, Instr.index, asIntOf, Sem.run_bind, Sem.run_pure, Result.andThen, run_underlying hu, hc, if_true, run_sizeOf hi, part, run_isAgg_no he hn, Nat.mul_one, hv, Bool.false_eq_true, if_false]

variable {K : Value → World → Prop}
theorem n_store {p : Addr} {v : Value} {zo : Option Value} {b : Nat} (hx : evE E x = .pointer (some p)) (hy : evE E y = v) (h1 : v.oneCell' = true) (hi : (P.info? xt).map (fun i => (i.zero, i.size, i.bytes)) = some (zo, 1, b)) (hw : Wr w p)
    (h : ∀ w', w' = w.setCell p v → K undef w') : noisy P ⟨d, .store xt x y, ty, ps, af, g⟩ (evE E) w K := by
  have hcs : v.cells = #[v] := by cases v <;> first | rfl | cases h1
  have hadd : p.add 0 = p := rfl
  obtain ⟨u, hu⟩ := Option.isSome_iff_exists.1 hw.1
  have hst : (store p v).run P w = .ok () (w.setCell p v) := by
    rw [run_store P w p v _ h1, hu]
    simp [hw.2]
  unfold noisy execOp
  simp only [hx, hy, Instr.storeAt, Instr.sureAddr, storeVar, Sem.run_bind, Sem.run_pure, Result.andThen, run_sizeOf hi, hcs, List.size_toArray, List.length_cons, List.length_nil, ne_eq, Nat.zero_add, not_true_eq_false, if_false, storeCells, hadd, hst]
  exact h _ rfl
theorem n_storen {b o : Nat} {cells : Array Value} {n : Nat} (hx : evE E x = .pointer (some ⟨b, o, none⟩)) (hy : evE E y = .agg cells) {zo : Option Value} {by' : Nat} (hi' : (P.info? xt).map (fun i => (i.zero, i.size, i.bytes)) = some (zo, n, by')) (hn : cells.size = n) (h1' : cells.toList.all (·.oneCell') = true) (ht : w.there b o n)
    (h : ∀ w', w' = w.setCells b o cells.toList → K undef w') : noisy P ⟨d, .store xt x y, ty, ps, af, g⟩ (evE E) w K := by
  have h1 : cells.all (·.oneCell') = true := by rw [← Array.all_toList]; exact h1'
  have hi : (P.info? xt).map (·.size) = some n := by
    cases hq : P.info? xt with
    | none => rw [hq] at hi'; cases hi'
    | some i => rw [hq] at hi'; simp only [Option.map_some, Option.some.injEq, Prod.mk.injEq] at hi' ⊢; exact hi'.2.1
  subst hn
  have := run_storeAt_mid (P := P) w b o xt cells ht hi h1
  unfold noisy execOp
  simp only [hx, hy, Sem.run_bind, this, Result.andThen, Sem.run_pure]
  exact h _ rfl
theorem run_zeroValue {t : TypeId} {z : Value} {n b : Nat} (hi : (P.info? t).map (fun i => (i.zero, i.size, i.bytes)) = some (some z, n, b)) (w : World) : (zeroValue t).run P w = .ok z w := by
  cases hq : P.info? t with
  | none => rw [hq] at hi; cases hi
  | some i =>
    rw [hq] at hi
    simp only [Option.map_some, Option.some.injEq, Prod.mk.injEq] at hi
    simp [zeroValue, typeInfo, hq, hi.1, go_sem]
theorem n_alloc {z : Value} {n b : Nat} (hi : (P.info? xt).map (fun i => (i.zero, i.size, i.bytes)) = some (some z, n, b))
    (h : ∀ g' w', New w g' w' z.cells xt → K (.pointer (some ⟨g', 0, none⟩)) w') : noisy P ⟨d, .alloc xt, ty, ps, af, g⟩ (evE E) w K := by
  unfold noisy execOp
  simp only [Instr.alloc, newVar, newRow, newObj, Sem.run_bind, Sem.run_pure, Result.andThen, run_zeroValue hi, Sem.run]
  exact h _ _ ⟨rfl, rfl⟩
theorem n_box {v : Value} (hx : evE E x = v) (h : ∀ g' w', New w g' w' v.cells xt → K (.pointer (some ⟨g', 0, none⟩)) w') : noisy P ⟨d, .box xt x, ty, ps, af, g⟩ (evE E) w K := by
  unfold noisy execOp
  simp only [hx, Instr.box, newVar, newRow, newObj, Sem.run_bind, Sem.run_pure, Result.andThen, Sem.run]
  exact h _ _ ⟨rfl, rfl⟩
theorem n_make {e : TypeId} {z : Value} {b : Nat} {n : Int} (hx : evE E x = .int .i64 n) (hy : evE E y = .int .i64 n) (hu : P.underlying xt = some (.slice e)) (hi : (P.info? e).map (fun i => (i.zero, i.size, i.bytes)) = some (some z, 1, b)) (hb : b ≤ 64) (hz : z.cells = #[z])
    (hn : 0 ≤ n ∧ n ≤ 1000000) (h : ∀ g' w', New w g' w' (Array.replicate n.toNat z) e → K (.slice (some ⟨g', 0, none⟩) n.toNat n.toNat) w') : noisy P ⟨d, .makeSlice xt x y, ty, ps, af, g⟩ (evE E) w K := by
  obtain ⟨i0, hi0, hz0, hz1, hz2⟩ := info_parts hi
  obtain ⟨k, rfl⟩ : ∃ k : Nat, n = (k : Int) := ⟨n.toNat, by omega⟩
  have := run_make_one (P := P) xt e i0 z hu hi0 hz0 hz1 (by omega) hz k (by omega) w
  unfold noisy execOp
  simp only [hx, hy, Sem.run_bind, this, Result.andThen, Sem.run_pure]
  exact h _ _ ⟨rfl, rfl⟩
theorem n_call {f : FuncId} {args : Array Operand} {ats : Array TypeId} {vs us : Array Value} {fo : Operand} (hf : evE E fo = .func (.func f) #[] us) (ha : args.map (evE E) = vs) (he : Enters P f)
    (h : Calls P f (vs ++ us) w fun e w'' => ∃ v, e = .returned v ∧ K v w'') : noisy P ⟨d, .call ⟨.value fo, args, ats⟩, ty, ps, af, g⟩ (evE E) w K := by
  unfold noisy execOp
  simp only [resolve, hf, ha, Deferred.ofValue, Sem.run_bind, Sem.run_pure, Result.andThen, invoke, Array.empty_append, he (vs ++ us) w]
  exact h
/-- A slice that is the only one on its block (behind the first B): it reads as xs. -/
def OwnS (w : World) (B : Nat) (e : TypeId) (sz : Nat) (A : Option Addr) (l c : Nat) (xs : List Value) : Prop :=
  xs.length = l * sz ∧ ((A = none ∧ l = 0 ∧ c = 0) ∨ ∃ g o cur, A = some ⟨g, o, none⟩ ∧ B ≤ g ∧ w.heap[g]? = some (.cells cur e (0, 0)) ∧ l ≤ c ∧ c ≤ maxLen ∧ o + c * sz ≤ cur.size ∧ (cur.toList.drop o).take (l * sz) = xs)
theorem OwnS.nil (w : World) (B : Nat) (e : TypeId) (sz : Nat) : OwnS w B e sz none 0 0 [] := ⟨by simp, .inl ⟨rfl, rfl, rfl⟩⟩
theorem run_append_S (B : Nat) (t ty e : TypeId) (i : TypeInfo) (z : Value) (sz bytes : Nat) (ht : P.underlying t = some (.slice e)) (hi : P.info? e = some i) (hz : i.zero = some z)
    (hsize : i.size = sz) (hby : i.bytes = bytes) (hzs : z.cells.size = sz) (hsz : 0 < sz)
    (A : Option Addr) (l cp : Nat) (xs : List Value) (hown : OwnS w B e sz A l cp xs)
    (a : Addr) (m c : Nat) (news : List Value) (hl : news.length = m * sz) (hnews : ∀ j u, news[j]? = some u → w.cell? (a.add j) = some u) (h1 : ∀ u ∈ news, u.oneCell' = true)
    (h63 : l + m ≤ maxLen) (hbytes : (l + m) * bytes ≤ 140737488355328) (hbase : B ≤ w.heap.size) :
    ∃ A' c' w', (Builtin.append_ #[t, t] ty #[.slice A l cp, .slice (some a) m c]).run P w = .ok (.slice A' (l + m) c') w' ∧ OwnS w' B e sz A' (l + m) c' (xs ++ news) ∧ w.grownBy w' (A.map (·.block)) ∧ (A'.map (·.block) = A.map (·.block) ∨ A'.map (·.block) = some w.heap.size) := by
  subst hsize
  subst hby
  have hlen : (xs ++ news).length = (l + m) * i.size := by rw [List.length_append, hown.1, hl, Nat.add_mul]
  have grown : ∀ (old : Nat), old < l + m → ∀ (row : Option Nat),
      OwnS (w.drew.alloc (.cells (xs.toArray ++ news.toArray ++ Builtin.zeroCells z.cells (grownCap w (l + m) old e - (l + m))) e)) B e i.size (some ⟨w.heap.size, 0, none⟩) (l + m) (grownCap w (l + m) old e) (xs ++ news) ∧
      w.grownBy (w.drew.alloc (.cells (xs.toArray ++ news.toArray ++ Builtin.zeroCells z.cells (grownCap w (l + m) old e - (l + m))) e)) row := by
    intro old ho row
    have hge := grownCap_ge w (l + m) old e
    have hcm : grownCap w (l + m) old e ≤ maxLen := grownCap_le_maxLen w (l + m) old e h63
    refine ⟨⟨hlen, .inr ⟨w.heap.size, 0, _, rfl, hbase, heap_alloc_new w.drew _, hge, hcm, ?_, ?_⟩⟩, ⟨rfl, rfl, rfl, by simp, fun k hk _ => heap_alloc_old w.drew _ k hk⟩⟩
    · simp only [Array.size_append, List.size_toArray, size_zeroCells, hzs, hown.1, hl, ← Nat.add_mul]
      rw [Nat.zero_add]
      exact Nat.le_of_eq (by congr 1; omega)
    · simp only [Array.toList_append, List.append_assoc, List.drop_zero]
      rw [← List.append_assoc, ← hlen]
      exact List.take_left
  rcases hown.2 with ⟨rfl, rfl, rfl⟩ | ⟨g, o, cur, rfl, hbg, hg, hnc, hcm, hcs, htake⟩
  · have hx : xs = [] := List.eq_nil_of_length_eq_zero (by simpa using hown.1)
    subst hx
    by_cases hm : m = 0
    · subst hm
      have hn : news = [] := List.eq_nil_of_length_eq_zero (by simpa using hl)
      subst hn
      refine ⟨none, 0, w, ?_, OwnS.nil w B e i.size, ⟨rfl, rfl, rfl, Nat.le_refl _, fun _ _ _ => rfl⟩, .inl rfl⟩
      simp [Builtin.append_, run_underlying ht, sizeOf, typeInfo, hi, Builtin.lenOf, Builtin.firstCells, loadCells, loadCellsFrom]
    · have hr := run_append_nil (P := P) w t ty e i z ht hi hz a m c news hl hnews (by omega) (by simp only [maxLen] at h63; omega) (by have hb := hbytes; simp only [Nat.zero_add] at hb; omega)
      have hgr := grown 0 (by omega) none
      simp only [Nat.zero_add, List.nil_append, Array.empty_append] at hgr ⊢
      exact ⟨_, _, _, hr, hgr.1, hgr.2, .inr rfl⟩
  · by_cases hroom : l + m ≤ cp
    · have hfit : o + l * i.size + news.length ≤ cur.size := by
        have := Nat.mul_le_mul_right i.size hroom
        rw [Nat.add_mul] at this
        omega
      have hf := run_firstCells_some (P := P) w i.size m a m c news hl hnews
      have hst := run_storeCells_at P g (o + l * i.size) e news 0 cur w hg (by simpa using hfit) h1
      simp only [Nat.add_zero] at hst
      have hadd : (⟨g, o, none⟩ : Addr).add (l * i.size) = ⟨g, o + l * i.size, none⟩ := Addr.add_mid _ _ _
      refine ⟨some ⟨g, o, none⟩, cp, w.setRow g (cur.toList.take (o + l * i.size) ++ news ++ cur.toList.drop (o + l * i.size + news.length)).toArray, ?_, ⟨hlen, .inr ⟨g, o, _, rfl, hbg, setRow_heap w g cur _ e _ hg, hroom, hcm, ?_, ?_⟩⟩, ⟨rfl, rfl, rfl, by simp, fun k _ hk => setRow_other w g k _ (fun e => hk (by simp [e]))⟩, .inl rfl⟩
      · simp [Builtin.append_, run_underlying ht, sizeOf, typeInfo, hi, Builtin.lenOf, hroom, hf, hadd, hst]
      · simp only [List.size_toArray, List.length_append, List.length_take, List.length_drop, Array.length_toList]
        omega
      · have h2 : (cur.toList.take (o + l * i.size) ++ news ++ cur.toList.drop (o + l * i.size + news.length)).drop o = xs ++ news ++ cur.toList.drop (o + l * i.size + news.length) := by
          rw [List.append_assoc, List.drop_append_of_le_length (by simp; omega), List.drop_take, Nat.add_sub_cancel_left, htake, List.append_assoc]
        rw [List.toList_toArray, h2, ← hlen]
        exact List.take_left
    · have hxl : xs.length = l * i.size := hown.1
      have holds : ∀ j u, xs[j]? = some u → w.cell? ((⟨g, o, none⟩ : Addr).add j) = some u := by
        intro j u hj
        rw [Addr.add_mid]
        have hjl : j < l * i.size := by
          rcases Nat.lt_or_ge j xs.length with h | h
          · omega
          · rw [List.getElem?_eq_none h] at hj; cases hj
        rw [← htake, List.getElem?_take, if_pos hjl, List.getElem?_drop] at hj
        rw [cell_of_row w g (o + j) cur e (0, 0) hg]
        simpa using hj
      have hr := run_append_grow (P := P) w t ty e i z ht hi hz ⟨g, o, none⟩ l cp xs hown.1 holds a m c news hl hnews (by omega) (by simp only [maxLen] at h63; omega) (growslice_fits (by omega) hbytes)
      have hgr := grown cp (by omega) (some g)
      exact ⟨_, _, _, hr, hgr.1, hgr.2, .inr rfl⟩
/-- What follows is laid behind an owned slice. -/
theorem n_append {e : TypeId} {z : Value} {n b : Nat} {A C : Option Addr} {l c m c' : Nat} (hx : evE E x = .slice A l c) (hy : evE E y = .slice C m c') (hu : P.underlying xt = some (.slice e)) (hi : (P.info? e).map (fun i => (i.zero, i.size, i.bytes)) = some (some z, n + 1, b)) (hz : z.cells.size = n + 1)
    (h : ∃ (B : Nat) (xs news : List Value) (a : Addr), OwnS w B e (n + 1) A l c xs ∧ C = some a ∧ news.length = m * (n + 1) ∧ (∀ j u, news[j]? = some u → w.cell? (a.add j) = some u) ∧ (∀ u ∈ news, u.oneCell' = true) ∧ l + m ≤ maxLen ∧ (l + m) * b ≤ 140737488355328 ∧ B ≤ w.heap.size ∧
      ∀ A' c' w', OwnS w' B e (n + 1) A' (l + m) c' (xs ++ news) → w.grownBy w' (A.map (·.block)) → (A'.map (·.block) = A.map (·.block) ∨ A'.map (·.block) = some w.heap.size) → K (.slice A' (l + m) c') w') : noisy P ⟨d, .call ⟨.builtin .append, #[x, y], #[xt, xt]⟩, ty, ps, af, g⟩ (evE E) w K := by
  obtain ⟨B, xs, news, a, hown, hC, hl, hnews, h1, h63, hby, hB, hK⟩ := h
  subst hC
  obtain ⟨i0, hi0, hz0, hz1, hz2⟩ := info_parts hi
  obtain ⟨A', c'', w', hr, ho, hg, hbk⟩ := run_append_S (P := P) (w := w) B xt ty e i0 z (n + 1) b hu hi0 hz0 hz1 hz2 hz (by omega) A l c xs hown a m c' news hl hnews h1 h63 hby hB
  unfold noisy execOp
  simp only [resolve, hx, hy, List.map_toArray, List.map_cons, List.map_nil, Sem.run_bind, Sem.run_pure, Result.andThen, invoke, builtin, hr]
  exact hK _ _ _ ho hg hbk
/-- Another type's slice is laid behind (two names of one element type). -/
theorem n_append2 {yt : TypeId} {e : TypeId} {z : Value} {n b : Nat} {A C : Option Addr} {l c m c' : Nat} (hx : evE E x = .slice A l c) (hy : evE E y = .slice C m c') (hu : P.underlying xt = some (.slice e)) (hu2 : P.underlying yt = some (.slice e)) (hi : (P.info? e).map (fun i => (i.zero, i.size, i.bytes)) = some (some z, n + 1, b)) (hz : z.cells.size = n + 1)
    (h : ∃ (B : Nat) (xs news : List Value) (a : Addr), OwnS w B e (n + 1) A l c xs ∧ C = some a ∧ news.length = m * (n + 1) ∧ (∀ j u, news[j]? = some u → w.cell? (a.add j) = some u) ∧ (∀ u ∈ news, u.oneCell' = true) ∧ l + m ≤ maxLen ∧ (l + m) * b ≤ 140737488355328 ∧ B ≤ w.heap.size ∧
      ∀ A' c' w', OwnS w' B e (n + 1) A' (l + m) c' (xs ++ news) → w.grownBy w' (A.map (·.block)) → (A'.map (·.block) = A.map (·.block) ∨ A'.map (·.block) = some w.heap.size) → K (.slice A' (l + m) c') w') : noisy P ⟨d, .call ⟨.builtin .append, #[x, y], #[xt, yt]⟩, ty, ps, af, g⟩ (evE E) w K := by
  obtain ⟨B, xs, news, a, hown, hC, hl, hnews, h1, h63, hby, hB, hK⟩ := h
  subst hC
  obtain ⟨i0, hi0, hz0, hz1, hz2⟩ := info_parts hi
  obtain ⟨A', c'', w', hr, ho, hg, hbk⟩ := run_append_S (P := P) (w := w) B xt ty e i0 z (n + 1) b hu hi0 hz0 hz1 hz2 hz (by omega) A l c xs hown a m c' news hl hnews h1 h63 hby hB
  have hr2 : (Builtin.append_ #[xt, yt] ty #[.slice A l c, .slice (some a) m c']).run P w = .ok (.slice A' (l + m) c'') w' := by
    rw [← hr]
    simp only [Builtin.append_, List.getElem?_toArray, List.getElem?_cons_zero, List.getElem?_cons_succ, Sem.run_bind, run_underlying hu, run_underlying hu2, Result.andThen]
  unfold noisy execOp
  simp only [resolve, hx, hy, List.map_toArray, List.map_cons, List.map_nil, Sem.run_bind, Sem.run_pure, Result.andThen, invoke, builtin, hr2]
  exact hK _ _ _ ho hg hbk
end

/-! ### A function -/
def lenv : List Value → Env
  | [], _ => undef
  | v :: _, 0 => v
  | _ :: t, k + 1 => lenv t k
theorem lenv_eq (l : List Value) (m : Nat) : ∀ t, (l.toArray ++ Array.replicate m undef).getD t undef = lenv l t := by
  intro t
  rw [Array.getD_eq_getD_getElem?]
  induction l generalizing t with
  | nil => simp [lenv, Array.getElem?_replicate]; split <;> rfl
  | cons v l ih =>
    cases t with
    | zero => rw [← Array.getD_eq_getD_getElem?]; simp [lenv, Array.getD_eq_getD_getElem?, Array.getElem?_append]
    | succ t =>
      rw [lenv, ← ih t]
      simp [Array.getElem?_append]
theorem calls_sh {P : Program} {f : FuncId} {fn : Func} {c : Code} {l : List Value} {w : World} {R : Ending → World → Prop} {N : Nat} (hf : P.funcs[f]? = some fn) (hb : fn.body = some c) (hN : fn.ntmps = N) (hl : l.length ≤ N)
    (h : WT Fence.wide 0 P N [.code c] (bodyPost P fn R) (lenv l) [] w) : Calls P f l.toArray w R := by
  refine (callsIn_wide (n := 0)).1 (callsIn_of_wp hf hb trivial (WTa.code (h _ ⟨?_, lenv_eq l _, rfl⟩)) rfl)
  simp
  omega
section
variable {P : Program} {fn : Func} {F : Fence} {n : Nat} {N : Nat} {t : List Item} {R : Ending → World → Prop} {E : Env} {w : World}
theorem wt_ret0 (hr : fn.results = #[]) (h : R (.returned (.tuple #[])) w) : WT F n P N (.code .ret :: t) (bodyPost P fn R) E [] w :=
  wt_ret fun a r => ⟨r.defers, _, results_none hr _ _ _, h⟩
theorem wt_ret1 {t1 : Tmp} {v1 : Value} (hr : fn.results = #[.tmp t1]) (h1 : E t1 = v1) (h : R (.returned v1) w) : WT F n P N (.code .ret :: t) (bodyPost P fn R) E [] w :=
  wt_ret fun a r => ⟨r.defers, _, results_tmp hr _ _ _, by rw [r.get, h1]; exact h⟩
theorem wt_ret2 {t1 t2 : Tmp} {v1 v2 : Value} (hr : fn.results = #[.tmp t1, .tmp t2]) (h1 : E t1 = v1) (h2 : E t2 = v2) (h : R (.returned (.tuple #[v1, v2])) w) : WT F n P N (.code .ret :: t) (bodyPost P fn R) E [] w :=
  wt_ret fun a r => ⟨r.defers, _, results_tmp2 hr _ _ _, by rw [r.get, r.get, h1, h2]; exact h⟩
theorem wt_ret3 {t1 t2 t3 : Tmp} {v1 v2 v3 : Value} (hr : fn.results = #[.tmp t1, .tmp t2, .tmp t3]) (h1 : E t1 = v1) (h2 : E t2 = v2) (h3 : E t3 = v3) (h : R (.returned (.tuple #[v1, v2, v3])) w) : WT F n P N (.code .ret :: t) (bodyPost P fn R) E [] w :=
  wt_ret fun a r => ⟨r.defers, _, results_tmp3 hr _ _ _, by rw [r.get, r.get, r.get, h1, h2, h3]; exact h⟩
theorem wt_end0 (hr : fn.results = #[]) (h : R (.returned (.tuple #[])) w) : WT F n P N [] (bodyPost P fn R) E [] w :=
  wt_nil fun a r => ⟨r.defers, _, results_none hr _ _ _, h⟩
end

/-! ### Guards -/
theorem wanted_g {ops : Array Oper} {E : Env} {o : Oper} {j : Nat} {b : Bool} (hg : o.guard = some (j, b)) (h : yE ops E j = some b) : Region.wanted o (yE ops E) = true := by
  unfold Region.wanted; rw [hg]; simp [h]
theorem wanted_n {ops : Array Oper} {E : Env} {o : Oper} {j : Nat} {b b' : Bool} (hg : o.guard = some (j, b)) (h : yE ops E j = some b') (hne : (b' == b) = false) : Region.wanted o (yE ops E) = false := by
  unfold Region.wanted; rw [hg]; simp [h]; simpa using hne
theorem wanted_u {ops : Array Oper} {E : Env} {o : Oper} {j : Nat} {b : Bool} (hg : o.guard = some (j, b)) (h : yE ops E j = none) : Region.wanted o (yE ops E) = false := by
  unfold Region.wanted; rw [hg]; simp [h]
theorem yE_of {ops : Array Oper} {E : Env} {j d : Nat} {b : Bool} (h : (ops[j]?).bind (·.dst) = some d) (hE : E d = .bool b) : yE ops E j = some b := by
  unfold yE; rw [h]; simp only [hE]
/-! ### More operations -/
theorem n_callx {P : Program} {E : Env} {w : World} {d : Option Tmp} {ty : TypeId} {ps : String} {af : Array Edge} {g : Option (Nat × Bool)} {K : Value → World → Prop} {f : FuncId} {args : Array Operand} {ats : Array TypeId} {vs us fs : Array Value} {all : List Value} {fo : Operand} (hf : evE E fo = .func (.func f) fs us) (ha : args.map (evE E) = vs) (he : Enters P f)
    (hall : fs.toList ++ vs.toList ++ us.toList = all) (h : Calls P f all.toArray w fun e w'' => ∃ v, e = .returned v ∧ K v w'') : noisy P ⟨d, .call ⟨.value fo, args, ats⟩, ty, ps, af, g⟩ (evE E) w K := by
  have hq : fs ++ vs ++ us = all.toArray := by rw [← hall]; simp
  unfold noisy execOp
  simp only [resolve, hf, ha, Deferred.ofValue, Sem.run_bind, Sem.run_pure, Result.andThen, invoke, he (fs ++ vs ++ us) w]
  rw [hq]; exact h
theorem n_call0 {P : Program} {E : Env} {w : World} {d : Option Tmp} {ty : TypeId} {ps : String} {af : Array Edge} {g : Option (Nat × Bool)} {K : Value → World → Prop} {f : FuncId} {args : Array Operand} {ats : Array TypeId} {vs : Array Value} {fo : Operand} (hf : evE E fo = .func (.func f) #[] #[]) (ha : args.map (evE E) = vs) (he : Enters P f)
    (h : Calls P f vs w fun e w'' => ∃ v, e = .returned v ∧ K v w'') : noisy P ⟨d, .call ⟨.value fo, args, ats⟩, ty, ps, af, g⟩ (evE E) w K :=
  n_call hf ha he (by rw [Array.append_empty]; exact h)
section
variable {E : Env} {x1 x2 x3 x4 x5 x6 : Operand} {v1 v2 v3 v4 v5 v6 : Value}
theorem am0 : (#[] : Array Operand).map (evE E) = #[] := by simp
theorem am1 (h1 : evE E x1 = v1) : #[x1].map (evE E) = #[v1] := by simp [h1]
theorem am2 (h1 : evE E x1 = v1) (h2 : evE E x2 = v2) : #[x1, x2].map (evE E) = #[v1, v2] := by simp [h1, h2]
theorem am3 (h1 : evE E x1 = v1) (h2 : evE E x2 = v2) (h3 : evE E x3 = v3) : #[x1, x2, x3].map (evE E) = #[v1, v2, v3] := by simp [h1, h2, h3]
theorem am4 (h1 : evE E x1 = v1) (h2 : evE E x2 = v2) (h3 : evE E x3 = v3) (h4 : evE E x4 = v4) : #[x1, x2, x3, x4].map (evE E) = #[v1, v2, v3, v4] := by simp [h1, h2, h3, h4]
theorem am5 (h1 : evE E x1 = v1) (h2 : evE E x2 = v2) (h3 : evE E x3 = v3) (h4 : evE E x4 = v4) (h5 : evE E x5 = v5) : #[x1, x2, x3, x4, x5].map (evE E) = #[v1, v2, v3, v4, v5] := by simp [h1, h2, h3, h4, h5]
theorem bp0 : (#[] : Array (Nat × Operand)).map (fun (i, x) => (i, evE E x)) = #[] := by simp
theorem bp1 {i1 : Nat} (h1 : evE E x1 = v1) : #[(i1, x1)].map (fun (i, x) => (i, evE E x)) = #[(i1, v1)] := by simp [h1]
theorem bp2 {i1 i2 : Nat} (h1 : evE E x1 = v1) (h2 : evE E x2 = v2) : #[(i1, x1), (i2, x2)].map (fun (i, x) => (i, evE E x)) = #[(i1, v1), (i2, v2)] := by simp [h1, h2]
theorem bp3 {i1 i2 i3 : Nat} (h1 : evE E x1 = v1) (h2 : evE E x2 = v2) (h3 : evE E x3 = v3) : #[(i1, x1), (i2, x2), (i3, x3)].map (fun (i, x) => (i, evE E x)) = #[(i1, v1), (i2, v2), (i3, v3)] := by simp [h1, h2, h3]
theorem bp4 {i1 i2 i3 i4 : Nat} (h1 : evE E x1 = v1) (h2 : evE E x2 = v2) (h3 : evE E x3 = v3) (h4 : evE E x4 = v4) : #[(i1, x1), (i2, x2), (i3, x3), (i4, x4)].map (fun (i, x) => (i, evE E x)) = #[(i1, v1), (i2, v2), (i3, v3), (i4, v4)] := by simp [h1, h2, h3, h4]
theorem bp5 {i1 i2 i3 i4 i5 : Nat} (h1 : evE E x1 = v1) (h2 : evE E x2 = v2) (h3 : evE E x3 = v3) (h4 : evE E x4 = v4) (h5 : evE E x5 = v5) : #[(i1, x1), (i2, x2), (i3, x3), (i4, x4), (i5, x5)].map (fun (i, x) => (i, evE E x)) = #[(i1, v1), (i2, v2), (i3, v3), (i4, v4), (i5, v5)] := by simp [h1, h2, h3, h4, h5]
end
theorem row_set {w w' : World} {g : Nat} {e : TypeId} {size : Nat} {xs : List Value} (h : Row w g e size xs) (i : Nat) (v : Value) (e1 : w' = w.setCell ((⟨g, 0, none⟩ : Addr).add i) v) : Row w' g e size (xs.set i v) := by
  have : (⟨g, 0, none⟩ : Addr).add i = ⟨g, i, none⟩ := by rw [Addr.add_mid, Nat.zero_add]
  rw [e1, this]; exact h.set_ i v
theorem wr_row {w : World} {g : Nat} {e : TypeId} {size : Nat} {xs : List Value} (h : Row w g e size xs) {i : Nat} {v : Value} (hv : xs[i]? = some v) : Wr w ((⟨g, 0, none⟩ : Addr).add i) := by
  have : (⟨g, 0, none⟩ : Addr).add i = ⟨g, i, none⟩ := by rw [Addr.add_mid, Nat.zero_add]
  rw [this]; exact ⟨by rw [h.cell hv]; rfl, h.frozen i⟩
theorem kp_setn {w : World} {b g : Nat} (h : b ≠ g) : ∀ (vs : List Value) (o : Nat), Kp w (w.setCells b o vs) g
  | [], _ => Kp.refl _ _
  | v :: vs, o => fun hl => by
    have h1 := kp_set (w := w) (p := ⟨b, o, none⟩) (v := v) (g := g) h hl
    have h2 := kp_setn (w := w.setCell ⟨b, o, none⟩ v) h vs (o + 1) (by simpa using hl)
    exact h2.trans h1
/-- The values laid over a list from place o on. -/
def setL : List Value → Nat → List Value → List Value
  | xs, _, [] => xs
  | xs, o, v :: vs => setL (xs.set o v) (o + 1) vs
theorem row_setn {g : Nat} {e : TypeId} {size : Nat} : ∀ (vs : List Value) (o : Nat) {w : World} {xs : List Value}, Row w g e size xs → Row (w.setCells g o vs) g e size (setL xs o vs)
  | [], _, _, _, h => h
  | v :: vs, o, _, _, h => row_setn vs (o + 1) (h.set_ o v)
theorem there_row {w : World} {g : Nat} {e : TypeId} {size : Nat} {xs : List Value} (h : Row w g e size xs) {o n : Nat} (hn : o + n ≤ xs.length) : w.there g o n := fun j hj => by
  have hlt : o + j < xs.length := by omega
  exact ⟨by rw [h.cell (List.getElem?_eq_getElem hlt)]; rfl, h.frozen _⟩

/-- The larger, the smaller of two numbers, as the program has it. -/
def mxF (a b : Int) : Int := if b > a then b else a
def mnF (a b : Int) : Int := if b < a then b else a
def mxF4 (a b c d : Int) : Int := mxF (mxF (mxF a b) c) d
theorem mxF_eq (a b : Int) : mxF a b = max a b := by unfold mxF; omega
theorem mnF_eq (a b : Int) : mnF a b = min a b := by unfold mnF; omega
section
variable {P : Program} {E : Env} {w : World} {d : Option Tmp} {x y z u : Operand} {ty xt yt : TypeId} {ps : String} {af : Array Edge} {g : Option (Nat × Bool)} {ats : Array TypeId}
theorem v_max2 {k : IntKind} {a b : Int} (hx : evE E x = .int k a) (hy : evE E y = .int k b) : (execOp (evE E) ⟨d, .call ⟨.builtin .max, #[x, y], ats⟩, ty, ps, af, g⟩).run P w = .ok (.value (.int k (mxF a b))) w := by
  simp [execOp, hx, hy, resolve, invoke, builtin, Builtin.max_, Builtin.max2, mxF, go_sem]
theorem v_min2 {k : IntKind} {a b : Int} (hx : evE E x = .int k a) (hy : evE E y = .int k b) : (execOp (evE E) ⟨d, .call ⟨.builtin .min, #[x, y], ats⟩, ty, ps, af, g⟩).run P w = .ok (.value (.int k (mnF a b))) w := by
  simp [execOp, hx, hy, resolve, invoke, builtin, Builtin.min_, Builtin.min2, mnF, go_sem]
theorem v_max4 {k : IntKind} {a b c e : Int} (hx : evE E x = .int k a) (hy : evE E y = .int k b) (hz : evE E z = .int k c) (hu : evE E u = .int k e) : (execOp (evE E) ⟨d, .call ⟨.builtin .max, #[x, y, z, u], ats⟩, ty, ps, af, g⟩).run P w = .ok (.value (.int k (mxF4 a b c e))) w := by
  simp [execOp, hx, hy, hz, hu, resolve, invoke, builtin, Builtin.max_, Builtin.max2, mxF4, mxF, go_sem]
theorem v_conv {k k' : IntKind} {a : Int} (hx : evE E x = .int k a) (h1 : P.underlying xt = some (.int k')) (h2 : P.underlying yt = some (.int .i64)) (hi : In64 a) : (execOp (evE E) ⟨d, .convert xt yt x, ty, ps, af, g⟩).run P w = .ok (.value (.int .i64 a)) w := by
  unfold execOp
  simp only [hx, Sem.run_bind, convert, run_underlying h1, run_underlying h2, Result.andThen, Conv.intToInt, Sem.run_pure, hi.wrap]
theorem v_seql {A : Option Addr} {l c l2 c2 : Nat} {e : TypeId} (hx : evE E x = .slice A l c) (hy : evE E y = .slice none l2 c2) (hu : P.underlying xt = some (.slice e)) : (execOp (evE E) ⟨d, .binOp .eql xt x y yt, ty, ps, af, g⟩).run P w = .ok (.value (.bool A.isNone)) w := by
  have h2 : binOp .eql xt (.slice A l c) (.slice none l2 c2) = (do pure (.bool (← Op.equal xt (.slice A l c) (.slice none l2 c2)))) := rfl
  have h3 : eqGuard .eql xt x y (.slice A l c) (.slice none l2 c2) = pure () := rfl
  have h4 : (Op.equal xt (.slice A l c) (.slice none l2 c2)).run P w = .ok A.isNone w := by
    unfold Op.equal Op.maxDepth
    rw [show (10000 : Nat) = 9999 + 1 from rfl, Op.equalIn]
    simp only [Sem.run_bind, run_underlying hu, Result.andThen]
    cases A <;> rfl
  unfold execOp
  simp only [hx, hy, h2, h3, h4, Sem.run_bind, Sem.run_pure, Result.andThen]
theorem v_lena {l : Nat} {e : TypeId} {v : Value} (hx : evE E x = v) (hu : P.underlying xt = some (.array l e)) : (execOp (evE E) ⟨d, .call ⟨.builtin .len, #[x], #[xt]⟩, ty, ps, af, g⟩).run P w = .ok (.value (.int .i64 (l : Int))) w := by
  unfold execOp
  simp [hx, resolve, invoke, builtin, Builtin.len_, go_sem, underlying, hu, goInt]
theorem v_iaddra {p : Addr} {l : Nat} {e : TypeId} {k : IntKind} {i : Int} {zo : Option Value} {n b : Nat} (hx : evE E x = .pointer (some p)) (hy : evE E y = .int k i) (hu : P.underlying xt = some (.array l e))
    (hi : (P.info? e).map (fun i => (i.zero, i.size, i.bytes)) = some (zo, n, b)) (h : 0 ≤ i ∧ i < (l : Int)) : (execOp (evE E) ⟨d, .indexAddr xt x y, ty, ps, af, g⟩).run P w = .ok (.value (.pointer (some (p.add (i.toNat * n))))) w := by
  unfold execOp
  have hc : (0 ≤ i ∧ i < (l : Int)) = True := by simp [h]
  simp only [hx, hy, Instr.indexAt, asIntOf, Instr.sureAddr, Sem.run_bind, Sem.run_pure, Result.andThen, run_underlying hu]
  simp only [hc, if_true, Sem.run_bind, Sem.run_pure, Result.andThen, run_sizeOf hi]
/-- The base of a slice of a slice. -/
def slA (A : Option Addr) (c lo sz : Nat) : Option Addr := if c = lo then A else A.map (·.add (lo * sz))
theorem run_sliceBound {k : IntKind} {i : Int} {y : Nat} {cd : BoundsCode} (h : 0 ≤ i ∧ i ≤ (y : Int)) : (Instr.sliceBound (.int k i) y cd).run P w = .ok i.toNat w := by
  have hc : (0 ≤ i ∧ i ≤ (y : Int)) = True := by simp [h]
  unfold Instr.sliceBound
  simp only [asIntOf, Sem.run_bind, Sem.run_pure, Result.andThen, hc, if_true]
theorem v_slice_l {A : Option Addr} {l c : Nat} {e : TypeId} {k : IntKind} {i : Int} {zo : Option Value} {n b : Nat} (hx : evE E x = .slice A l c) (hy : evE E y = .int k i) (hu : P.underlying xt = some (.slice e)) (hi : (P.info? e).map (fun i => (i.zero, i.size, i.bytes)) = some (zo, n, b))
    (h : 0 ≤ i ∧ i ≤ (l : Int)) : (execOp (evE E) ⟨d, .slice xt x (some y) none none, ty, ps, af, g⟩).run P w = .ok (.value (.slice (slA A c i.toNat n) (l - i.toNat) (c - i.toNat))) w := by
  unfold execOp
  simp only [hx, hy, Option.map_some, Option.map_none, Instr.sliceAt, Instr.slice, Instr.sliceBounds, Sem.run_bind, Sem.run_pure, Result.andThen, run_underlying hu, run_sizeOf hi, run_sliceBound h, Option.isSome_none, slA]
theorem v_slice_h {A : Option Addr} {l c : Nat} {e : TypeId} {k : IntKind} {i : Int} {zo : Option Value} {n b : Nat} (hx : evE E x = .slice A l c) (hy : evE E y = .int k i) (hu : P.underlying xt = some (.slice e)) (hi : (P.info? e).map (fun i => (i.zero, i.size, i.bytes)) = some (zo, n, b))
    (h : 0 ≤ i ∧ i ≤ (c : Int)) : (execOp (evE E) ⟨d, .slice xt x none (some y) none, ty, ps, af, g⟩).run P w = .ok (.value (.slice A i.toNat c)) w := by
  have h0 : (if c = 0 then A else A.map (·.add (0 * n))) = A := by
    split
    · rfl
    · cases A with
      | none => rfl
      | some a => simp [Addr.add]
  unfold execOp
  simp only [hx, hy, Option.map_some, Option.map_none, Instr.sliceAt, Instr.slice, Instr.sliceBounds, Sem.run_bind, Sem.run_pure, Result.andThen, run_underlying hu, run_sizeOf hi, run_sliceBound h, Option.isSome_none]
  simp [run_sliceBound h, Sem.run_bind, Sem.run_pure, Result.andThen]
  intro _
  cases A <;> simp [Addr.add]
theorem bits_and (a b : Int) (h : 0 ≤ a ∧ a < 9223372036854775808 ∧ 0 ≤ b ∧ b < 9223372036854775808) : IntKind.i64.wrap ((BitVec.ofInt IntKind.i64.bits a &&& BitVec.ofInt IntKind.i64.bits b).toNat : Int) = ((a.toNat &&& b.toNat : Nat) : Int) := by
  obtain ⟨a, rfl⟩ : ∃ k : Nat, a = k := ⟨a.toNat, by omega⟩
  obtain ⟨b, rfl⟩ : ∃ k : Nat, b = k := ⟨b.toNat, by omega⟩
  have e1 : (BitVec.ofInt IntKind.i64.bits (a : Int)).toNat = a := by
    simp only [BitVec.toNat_ofInt, IntKind.bits]; omega
  have e2 : (BitVec.ofInt IntKind.i64.bits (b : Int)).toNat = b := by
    simp only [BitVec.toNat_ofInt, IntKind.bits]; omega
  rw [BitVec.toNat_and, e1, e2]
  have hle : a &&& b ≤ a := Nat.and_le_left
  simp only [Int.toNat_natCast]
  exact In64.wrap ⟨by omega, by omega⟩
theorem bits_or (a b : Int) (h : 0 ≤ a ∧ a < 9223372036854775808 ∧ 0 ≤ b ∧ b < 9223372036854775808) : IntKind.i64.wrap ((BitVec.ofInt IntKind.i64.bits a ||| BitVec.ofInt IntKind.i64.bits b).toNat : Int) = ((a.toNat ||| b.toNat : Nat) : Int) := by
  obtain ⟨a, rfl⟩ : ∃ k : Nat, a = k := ⟨a.toNat, by omega⟩
  obtain ⟨b, rfl⟩ : ∃ k : Nat, b = k := ⟨b.toNat, by omega⟩
  have e1 : (BitVec.ofInt IntKind.i64.bits (a : Int)).toNat = a := by
    simp only [BitVec.toNat_ofInt, IntKind.bits]; omega
  have e2 : (BitVec.ofInt IntKind.i64.bits (b : Int)).toNat = b := by
    simp only [BitVec.toNat_ofInt, IntKind.bits]; omega
  rw [BitVec.toNat_or, e1, e2]
  have hlt : a ||| b < 2 ^ 63 := Nat.or_lt_two_pow (by omega) (by omega)
  simp only [Int.toNat_natCast]
  exact In64.wrap ⟨by omega, by omega⟩
theorem v_andb {a b : Int} (hx : evE E x = .int .i64 a) (hy : evE E y = .int .i64 b) (h : 0 ≤ a ∧ a < 9223372036854775808 ∧ 0 ≤ b ∧ b < 9223372036854775808) : (execOp (evE E) ⟨d, .binOp .and xt x y yt, ty, ps, af, g⟩).run P w = .ok (.value (.int .i64 ((a.toNat &&& b.toNat : Nat) : Int))) w := by
  have h1 : (binOp .and xt (.int .i64 a) (.int .i64 b)).run P w = .ok (.int .i64 (IntKind.i64.wrap ((BitVec.ofInt IntKind.i64.bits a &&& BitVec.ofInt IntKind.i64.bits b).toNat : Int))) w := rfl
  have h3 : eqGuard .and xt x y (.int .i64 a) (.int .i64 b) = pure () := rfl
  unfold execOp
  simp only [hx, hy, h3, h1, bits_and a b h, Sem.run_bind, Sem.run_pure, Result.andThen]
theorem v_orb {a b : Int} (hx : evE E x = .int .i64 a) (hy : evE E y = .int .i64 b) (h : 0 ≤ a ∧ a < 9223372036854775808 ∧ 0 ≤ b ∧ b < 9223372036854775808) : (execOp (evE E) ⟨d, .binOp .or xt x y yt, ty, ps, af, g⟩).run P w = .ok (.value (.int .i64 ((a.toNat ||| b.toNat : Nat) : Int))) w := by
  have h1 : (binOp .or xt (.int .i64 a) (.int .i64 b)).run P w = .ok (.int .i64 (IntKind.i64.wrap ((BitVec.ofInt IntKind.i64.bits a ||| BitVec.ofInt IntKind.i64.bits b).toNat : Int))) w := rfl
  have h3 : eqGuard .or xt x y (.int .i64 a) (.int .i64 b) = pure () := rfl
  unfold execOp
  simp only [hx, hy, h3, h1, bits_or a b h, Sem.run_bind, Sem.run_pure, Result.andThen]

/-- The parts laid over the cells, by lists. -/
def fillL (place : Nat → Option (Nat × Nat)) (cells : List Value) : List (Nat × Value) → Option (List Value)
  | [] => some cells
  | (i, v) :: rest => match place i with
    | none => none
    | some (off, size) => bif Nat.beq v.cells.toList.length size && Nat.ble (off + v.cells.toList.length) cells.length then fillL place (setL cells off v.cells.toList) rest else none
theorem fold_setL : ∀ (vs : List Value) (k off : Nat) (cs : Array Value), (vs.zipIdx k).foldl (fun (cs : Array Value) (x : Value × Nat) => cs.setIfInBounds (off + x.2) x.1) cs = (setL cs.toList (off + k) vs).toArray
  | [], _, _, cs => by simp [setL]
  | v :: vs, k, off, cs => by
    rw [List.zipIdx_cons, List.foldl_cons, fold_setL vs (k + 1) off]
    simp [setL, Nat.add_assoc]
theorem setL_length : ∀ (vs : List Value) (o : Nat) (xs : List Value), (setL xs o vs).length = xs.length
  | [], _, _ => rfl
  | v :: vs, o, xs => by rw [setL, setL_length vs]; simp
theorem fillL_fill {place : Nat → Option (Nat × Nat)} : ∀ (l : List (Nat × Value)) (cs ds : List Value), fillL place cs l = some ds → Instr.fill place cs.toArray l = some ds.toArray
  | [], cs, ds, h => by simp only [fillL, Option.some.injEq] at h; rw [h]; rfl
  | (i, v) :: rest, cs, ds, h => by
    simp only [fillL] at h
    simp only [Instr.fill]
    cases hp : place i with
    | none => rw [hp] at h; cases h
    | some p =>
      obtain ⟨off, size⟩ := p
      rw [hp] at h
      simp only at h ⊢
      cases hc : (Nat.beq v.cells.toList.length size && Nat.ble (off + v.cells.toList.length) cs.length) with
      | false => rw [hc] at h; cases h
      | true =>
        rw [hc] at h
        simp only [cond_true] at h
        rw [Bool.and_eq_true] at hc
        have h1 := Nat.eq_of_beq_eq_true hc.1
        have h2 := Nat.le_of_ble_eq_true hc.2
        have h3 : ¬ (v.cells.size ≠ size || off + v.cells.size > cs.toArray.size) = true := by
          simp at h1 h2 ⊢; exact ⟨h1, h2⟩
        rw [if_neg h3]
        have h4 : v.cells.zipIdx.foldl (fun (cs : Array Value) (x : Value × Nat) => cs.setIfInBounds (off + x.2) x.1) cs.toArray = (setL cs off v.cells.toList).toArray := by
          rw [← Array.foldl_toList, Array.toList_zipIdx, fold_setL]
          simp
        have h5 := fillL_fill rest _ _ h
        rw [← h4] at h5
        exact h5
def zerosL (z : List Value) (n : Nat) : List Value := (List.range n).map fun i => z.getD (i % z.length) default
theorem zerosL_eq (z : Array Value) (n : Nat) : (Array.range n).map (fun i => z[i % z.size]!) = (zerosL z.toList n).toArray := by
  apply Array.ext
  · simp [zerosL]
  · intro i h1 h2
    simp [zerosL, Array.getD_eq_getD_getElem?, Array.getElem!_eq_getD]

variable {K : Value → World → Prop}
theorem n_bslice {n : Nat} {parts : Array (Nat × Operand)} {l : List (Nat × Value)} {e : TypeId} {z : Value} {sz b : Nat} {cells : List Value} (hl : parts.map (fun (i, x) => (i, evE E x)) = l.toArray) (hu : P.underlying xt = some (.slice e)) (hi : (P.info? e).map (fun i => (i.zero, i.size, i.bytes)) = some (some z, sz, b))
    (hs : Nat.ble (n * sz) 1000 = true) (hf : fillL (fun i => some (i * sz, sz)) (zerosL z.cells.toList (n * sz)) l = some cells)
    (h : ∀ g' w', New w g' w' cells.toArray e → K (.slice (some ⟨g', 0, none⟩) n n) w') : noisy P ⟨d, .buildSlice xt n parts, ty, ps, af, g⟩ (evE E) w K := by
  have h1 : ¬ (n * sz > 2 ^ 24) := by have := Nat.le_of_ble_eq_true hs; omega
  have hf := fillL_fill _ _ _ hf
  rw [← zerosL_eq] at hf
  unfold noisy execOp
  simp only [hl, Instr.buildSlice, Sem.run_bind, Sem.run_pure, Result.andThen, run_underlying hu, run_sizeOf hi, h1, if_false]
  by_cases h0 : n * sz = 0
  · simp only [h0, if_true, Sem.run_pure, Result.andThen] at hf ⊢
    have e0 : ∀ f : Nat → Value, (Array.range 0).map f = #[] := fun f => by simp
    rw [e0] at hf
    simp only [e0, hf, Sem.run_bind, Sem.run_pure, newRow, newObj, Sem.run, Result.andThen]
    exact h _ _ ⟨rfl, rfl⟩
  · simp only [h0, if_false, Sem.run_bind, run_zeroValue hi, Sem.run_pure, Result.andThen, hf, newRow, newObj, Sem.run]
    exact h _ _ ⟨rfl, rfl⟩
theorem n_build {fs : Array Field} {parts : Array (Nat × Operand)} {l : List (Nat × Value)} {zo : Value} {n b : Nat} {cells : List Value} {places : List (Nat × Nat)} (hl : parts.map (fun (i, x) => (i, evE E x)) = l.toArray) (hu : P.underlying xt = some (.struct fs)) (hi : (P.info? xt).map (fun i => (i.zero, i.size, i.bytes)) = some (some zo, n, b))
    (hp : fs.toList.mapM (m := Option) (fun f => (P.info? f.type).map fun i => (f.offset, i.size)) = some places) (hf : fillL (places[·]?) zo.cells.toList l = some cells)
    (h : K (.agg cells.toArray) w) : noisy P ⟨d, .build xt parts, ty, ps, af, g⟩ (evE E) w K := by
  have key : ∀ (fs : List Field) (ps : List (Nat × Nat)), fs.mapM (m := Option) (fun f => (P.info? f.type).map fun i => (f.offset, i.size)) = some ps → (fs.mapM (m := Sem) (fun f => do pure (f.offset, ← sizeOf f.type))).run P w = .ok ps w := by
    intro fs
    induction fs with
    | nil => intro ps h; simp at h; subst h; simp [go_sem]
    | cons f fs ih =>
      intro ps h
      rw [List.mapM_cons] at h
      cases hq : P.info? f.type with
      | none => simp [hq] at h
      | some i =>
        cases hr : fs.mapM (m := Option) (fun f => (P.info? f.type).map fun i => (f.offset, i.size)) with
        | none => simp [hq, hr] at h
        | some rs =>
          simp [hq, hr] at h
          subst h
          rw [List.mapM_cons]
          have h1 : (sizeOf f.type).run P w = .ok i.size w := by simp [sizeOf, typeInfo, hq, go_sem]
          simp only [Sem.run_bind, h1, Result.andThen, Sem.run_pure, ih rs hr]
  have hp' : (fs.mapM (m := Sem) (fun f => do pure (f.offset, ← sizeOf f.type))).run P w = .ok places.toArray w := by
    have h2 := key _ _ hp
    rw [← Array.toList_mapM] at h2
    simp only [map_eq_pure_bind, Sem.run_bind] at h2
    cases hq : (fs.mapM (m := Sem) (fun f => do pure (f.offset, ← sizeOf f.type))).run P w with
    | ok a w' => rw [hq] at h2; simp only [Result.andThen, Sem.run_pure] at h2; cases a; simp at h2; simp [h2]
    | halt e w' => rw [hq] at h2; cases h2
  have hf := fillL_fill _ _ _ hf
  have hpl : (fun i => places.toArray[i]?) = (fun i : Nat => places[i]?) := by funext i; simp
  unfold noisy execOp
  simp only [hl, Instr.build, Sem.run_bind, Sem.run_pure, Result.andThen, run_underlying hu, run_zeroValue hi, hp', hpl]
  rw [show zo.cells = zo.cells.toList.toArray by simp, hf]
  exact h
theorem n_builda {k : Nat} {e : TypeId} {parts : Array (Nat × Operand)} {l : List (Nat × Value)} {zo : Value} {z1 : Option Value} {n b n1 b1 : Nat} {cells : List Value} (hl : parts.map (fun (i, x) => (i, evE E x)) = l.toArray) (hu : P.underlying xt = some (.array k e)) (hi : (P.info? xt).map (fun i => (i.zero, i.size, i.bytes)) = some (some zo, n, b))
    (he : (P.info? e).map (fun i => (i.zero, i.size, i.bytes)) = some (z1, n1, b1)) (hf : fillL (fun i => some (i * n1, n1)) zo.cells.toList l = some cells)
    (h : K (.agg cells.toArray) w) : noisy P ⟨d, .build xt parts, ty, ps, af, g⟩ (evE E) w K := by
  have hf := fillL_fill _ _ _ hf
  unfold noisy execOp
  simp only [hl, Instr.build, Sem.run_bind, Sem.run_pure, Result.andThen, run_underlying hu, run_zeroValue hi, run_sizeOf he]
  rw [show zo.cells = zo.cells.toList.toArray by simp, hf]
  exact h
end

/-! ### Other kinds of ints; copies -/
/-- A number that the kind can hold. -/
def InK (k : IntKind) (a : Int) : Prop := k.wrap a = a
section
variable {P : Program} {E : Env} {w : World} {d : Option Tmp} {x y z u : Operand} {ty xt yt : TypeId} {ps : String} {af : Array Edge} {g : Option (Nat × Bool)} {ats : Array TypeId} {k : IntKind}
theorem v_addk {a b : Int} (hx : evE E x = .int k a) (hy : evE E y = .int k b) (hi : InK k (a + b)) : (execOp (evE E) ⟨d, .binOp .add xt x y yt, ty, ps, af, g⟩).run P w = .ok (.value (.int k (a + b))) w := by
  unfold InK at hi
  simp [execOp, hx, hy, eqGuard, binOp, Op.intArith, go_sem, hi]
theorem v_subk {a b : Int} (hx : evE E x = .int k a) (hy : evE E y = .int k b) (hi : InK k (a - b)) : (execOp (evE E) ⟨d, .binOp .sub xt x y yt, ty, ps, af, g⟩).run P w = .ok (.value (.int k (a - b))) w := by
  unfold InK at hi
  simp [execOp, hx, hy, eqGuard, binOp, Op.intArith, go_sem, hi]
theorem v_mulk {a b : Int} (hx : evE E x = .int k a) (hy : evE E y = .int k b) (hi : InK k (a * b)) : (execOp (evE E) ⟨d, .binOp .mul xt x y yt, ty, ps, af, g⟩).run P w = .ok (.value (.int k (a * b))) w := by
  unfold InK at hi
  simp [execOp, hx, hy, eqGuard, binOp, Op.intArith, go_sem, hi]
theorem v_remk {a b : Int} (hx : evE E x = .int k a) (hy : evE E y = .int k b) (hb : b ≠ 0) : (execOp (evE E) ⟨d, .binOp .rem xt x y yt, ty, ps, af, g⟩).run P w = .ok (.value (.int k (a.tmod b))) w := by
  simp [execOp, hx, hy, eqGuard, binOp, Op.intDiv, go_sem, hb]
theorem v_shru {k' : IntKind} {a b : Int} (hx : evE E x = .int .u64 a) (hy : evE E y = .int k' b) (h0 : 0 ≤ b ∧ b < 64) : (execOp (evE E) ⟨d, .binOp .shr xt x y yt, ty, ps, af, g⟩).run P w = .ok (.value (.int .u64 (a / 2 ^ b.toNat))) w := by
  have h1 : ¬ b < 0 := by omega
  have h2 : min b.toNat IntKind.u64.bits = b.toNat := by have : IntKind.u64.bits = 64 := rfl; omega
  simp [execOp, hx, hy, eqGuard, binOp, Op.shift, go_sem, h1, h2]
theorem v_convk {k' k2 : IntKind} {a : Int} (hx : evE E x = .int k a) (h1 : P.underlying xt = some (.int k')) (h2 : P.underlying yt = some (.int k2)) (hi : InK k2 a) : (execOp (evE E) ⟨d, .convert xt yt x, ty, ps, af, g⟩).run P w = .ok (.value (.int k2 a)) w := by
  unfold InK at hi
  unfold execOp
  simp only [hx, Sem.run_bind, convert, run_underlying h1, run_underlying h2, Result.andThen, Conv.intToInt, Sem.run_pure, hi]
theorem v_andu {a b : Int} (hx : evE E x = .int .u64 a) (hy : evE E y = .int .u64 b) (h : 0 ≤ a ∧ a < 18446744073709551616 ∧ 0 ≤ b ∧ b < 18446744073709551616) : (execOp (evE E) ⟨d, .binOp .and xt x y yt, ty, ps, af, g⟩).run P w = .ok (.value (.int .u64 ((a.toNat &&& b.toNat : Nat) : Int))) w := by
  have h1 : (binOp .and xt (.int .u64 a) (.int .u64 b)).run P w = .ok (.int .u64 (IntKind.u64.wrap ((BitVec.ofInt IntKind.u64.bits a &&& BitVec.ofInt IntKind.u64.bits b).toNat : Int))) w := rfl
  have h3 : eqGuard .and xt x y (.int .u64 a) (.int .u64 b) = pure () := rfl
  have h4 : IntKind.u64.wrap ((BitVec.ofInt IntKind.u64.bits a &&& BitVec.ofInt IntKind.u64.bits b).toNat : Int) = ((a.toNat &&& b.toNat : Nat) : Int) := by
    obtain ⟨a, rfl⟩ : ∃ k : Nat, a = k := ⟨a.toNat, by omega⟩
    obtain ⟨b, rfl⟩ : ∃ k : Nat, b = k := ⟨b.toNat, by omega⟩
    have e1 : (BitVec.ofInt IntKind.u64.bits (a : Int)).toNat = a := by
      simp only [BitVec.toNat_ofInt, IntKind.bits]; omega
    have e2 : (BitVec.ofInt IntKind.u64.bits (b : Int)).toNat = b := by
      simp only [BitVec.toNat_ofInt, IntKind.bits]; omega
    rw [BitVec.toNat_and, e1, e2]
    have hle : a &&& b ≤ a := Nat.and_le_left
    simp only [Int.toNat_natCast]
    simp [IntKind.wrap, IntKind.bits, IntKind.signed]
    omega
  unfold execOp
  simp only [hx, hy, h3, h1, h4, Sem.run_bind, Sem.run_pure, Result.andThen]
variable {K : Value → World → Prop}
theorem n_copy {e : TypeId} {zo : Option Value} {b : Nat} {A C : Option Addr} {l c m c' : Nat} (hx : evE E x = .slice A l c) (hy : evE E y = .slice C m c') (hu : P.underlying xt = some (.slice e)) (hi : (P.info? e).map (fun i => (i.zero, i.size, i.bytes)) = some (zo, 1, b))
    (h : ∃ (bl o : Nat) (a : Addr) (vs : List Value), A = some ⟨bl, o, none⟩ ∧ C = some a ∧ vs.length = min m l ∧ (∀ j u, vs[j]? = some u → w.cell? (a.add j) = some u) ∧ (∀ u ∈ vs, u.oneCell' = true) ∧ w.there bl o vs.length ∧ ∀ w', w' = w.setCells bl o vs → K (.int .i64 ((min m l : Nat) : Int)) w') : noisy P ⟨d, .call ⟨.builtin .copy, #[x, y], #[xt, yt]⟩, ty, ps, af, g⟩ (evE E) w K := by
  obtain ⟨bl, o, a, vs, rfl, rfl, hl, hc, h1, ht, hK⟩ := h
  have hf := run_firstCells_some (P := P) w 1 (min m l) a m c' vs (by omega) hc
  have hst := run_storeCells_cells (P := P) bl o vs 0 w (fun j hj => by simpa using (ht j hj).1) (fun j hj => by simpa using (ht j hj).2) h1
  have hlen : (Builtin.lenOf (.slice (some a) m c')).run P w = .ok m w := rfl
  have hmin : Nat.min m l = min m l := rfl
  unfold noisy execOp
  simp only [resolve, hx, hy, List.map_toArray, List.map_cons, List.map_nil, Sem.run_bind, Sem.run_pure, Result.andThen, invoke, builtin, Builtin.copy_, List.getElem?_toArray, List.getElem?_cons_zero, List.getElem?_cons_succ, run_underlying hu, run_sizeOf hi, hlen, hmin, hf, hst, goInt, Nat.zero_add, Nat.add_zero]
  exact hK _ rfl
end

/-! ### Cuts: what follows is shown once -/
section
variable {F : Fence} {n : Nat} {P : Program} {N : Nat} {Q : Exit → Act → World → Prop} {E : Env} {ds : List Deferred} {w : World} {t : List Item} {x y z A B : Code} {c : Operand}
theorem wt_cutT0 (J : Env → List Deferred → World → Prop) (hj : ∀ E ds w, J E ds w → WT F n P N t Q E ds w) (h : (∀ E ds w, J E ds w → WT F n P N t Q E ds w) → WT F n P N (.code x :: t) Q E ds w) : WT F n P N (.code x :: t) Q E ds w := h hj
theorem wt_cutT1 (J : Env → List Deferred → World → Prop) (hj : ∀ E ds w, J E ds w → WT F n P N t Q E ds w) (h : (∀ E ds w, J E ds w → WT F n P N t Q E ds w) → WT F n P N (.code x :: .code y :: t) Q E ds w) : WT F n P N (.code x :: .code y :: t) Q E ds w := h hj
theorem wt_cutT2 (J : Env → List Deferred → World → Prop) (hj : ∀ E ds w, J E ds w → WT F n P N (.code z :: t) Q E ds w) (h : (∀ E ds w, J E ds w → WT F n P N (.code z :: t) Q E ds w) → WT F n P N (.code x :: .code (.seq y z) :: t) Q E ds w) : WT F n P N (.code x :: .code (.seq y z) :: t) Q E ds w := h hj
theorem wt_cutA1 (J : Env → List Deferred → World → Prop) (hj : ∀ E ds w, J E ds w → WT F n P N (.code A :: t) Q E ds w) (h : (∀ E ds w, J E ds w → WT F n P N (.code A :: t) Q E ds w) → WT F n P N (.code x :: .code (.cond c A B) :: t) Q E ds w) : WT F n P N (.code x :: .code (.cond c A B) :: t) Q E ds w := h hj
theorem wt_cutB1 (J : Env → List Deferred → World → Prop) (hj : ∀ E ds w, J E ds w → WT F n P N (.code B :: t) Q E ds w) (h : (∀ E ds w, J E ds w → WT F n P N (.code B :: t) Q E ds w) → WT F n P N (.code x :: .code (.cond c A B) :: t) Q E ds w) : WT F n P N (.code x :: .code (.cond c A B) :: t) Q E ds w := h hj
theorem wt_cutA2 (J : Env → List Deferred → World → Prop) (hj : ∀ E ds w, J E ds w → WT F n P N (.code A :: .code z :: t) Q E ds w) (h : (∀ E ds w, J E ds w → WT F n P N (.code A :: .code z :: t) Q E ds w) → WT F n P N (.code x :: .code (.seq (.cond c A B) z) :: t) Q E ds w) : WT F n P N (.code x :: .code (.seq (.cond c A B) z) :: t) Q E ds w := h hj
theorem wt_cutB2 (J : Env → List Deferred → World → Prop) (hj : ∀ E ds w, J E ds w → WT F n P N (.code B :: .code z :: t) Q E ds w) (h : (∀ E ds w, J E ds w → WT F n P N (.code B :: .code z :: t) Q E ds w) → WT F n P N (.code x :: .code (.seq (.cond c A B) z) :: t) Q E ds w) : WT F n P N (.code x :: .code (.seq (.cond c A B) z) :: t) Q E ds w := h hj
end
end Go.Proofs.Ytnhmeckhlajeaaa
