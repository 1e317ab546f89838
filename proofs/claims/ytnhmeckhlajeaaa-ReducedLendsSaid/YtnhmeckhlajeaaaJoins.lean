/- The loop that adds up the single edges from a vertex to those with a property. -/
import Derived.RangeFuncNested
import Derived.RangeFuncBound
import Derived.RangeFuncCalls
import Derived.RangeFuncLeaves
import Derived.RangeFuncFrom
import Derived.Shelf.Abstract
import Derived.Shelf.RegionOpen
import Derived.OwnWalkIn
import Derived.TacticsInMore
import Derived.LoopNIn
import Derived.LoopIn
import Derived.Test.YtnhmeckhlajeaaaLinks
namespace Go.Proofs.Ytnhmeckhlajeaaa
open Go.RowKit Go.Shelf
attribute [local go_sem] Oper.semAt_some
set_option maxRecDepth 100000
set_option maxHeartbeats 1000000

/-- How many single edges lead from a vertex to those with a property. -/
def addF (p : Int → Bool) (l : List (Int × Int)) : Int := l.foldl (fun n x => if p x.1 then n + x.2 else n) 0
def joinsF (es : List E3) (v : Int) (p : Int → Bool) : Int := addF p (linksF es v)
theorem addF_snoc (p : Int → Bool) (l : List (Int × Int)) (x : Int × Int) : addF p (l ++ [x]) = if p x.1 then addF p l + x.2 else addF p l := by unfold addF; rw [List.foldl_append]; rfl
theorem addF_bound {p : Int → Bool} (l : List (Int × Int)) (h : ∀ q ∈ l, 0 ≤ q.2 ∧ q.2 ≤ 50) : 0 ≤ addF p l ∧ addF p l ≤ 50 * l.length := by
  suffices H : ∀ (l : List (Int × Int)) (a : Int), (∀ q ∈ l, 0 ≤ q.2 ∧ q.2 ≤ 50) → a ≤ l.foldl (fun n x => if p x.1 then n + x.2 else n) a ∧ l.foldl (fun n x => if p x.1 then n + x.2 else n) a ≤ a + 50 * l.length by
    have := H l 0 h
    unfold addF; omega
  intro l
  induction l with
  | nil => intro a _; simp
  | cons x l ih =>
    intro a h
    have hx := h x (by simp)
    have h1 := ih (if p x.1 then a + x.2 else a) (fun q hq => h q (by simp [hq]))
    rw [List.foldl_cons, List.length_cons]
    split at h1 <;> rename_i hp <;> simp only [hp] at h1 ⊢ <;> simp at h1 ⊢ <;> omega
theorem Row.owned {W W' : World} {row : Option Nat} {g : Nat} {e : TypeId} {size : Nat} {xs : List Value} (h : Row W g e size xs) (hg : W.grownBy W' row) (hr : ∀ r, row = some r → ∃ o : Obj, W.heap[r]? = some o ∧ o.isCells = false) : Row W' g e size xs := by
  have hlt := h.lt
  refine h.keep (hg.block g hlt (fun e' => ?_))
  obtain ⟨o, ho, hc⟩ := hr g e'.symm
  obtain ⟨cur, h1, _⟩ := h
  rw [h1] at ho
  cases ho
  simp [Obj.isCells] at hc
theorem Keeps.owned {S : Nat → Prop} {w W W' : World} {row : Option Nat} {B : Nat} (h : Keeps S w W) (hg : W.grownBy W' row) (hB : w.heap.size ≤ B) (hr : ∀ r, row = some r → B ≤ r) : Keeps S w W' :=
  h.grown hg (fun k e hk => by have := hr k e; omega)

theorem joins_any (X : Nat) (A : Option Addr) (es : List E3) (cap : Nat) (v : Int) (fid : Nat) (caps : Array Value) (p : Int → Bool) (w : World)
    (hX : w.cell? ⟨X, 1, none⟩ = some (.slice A es.length cap)) (hes : Edges w A es) (hE : Ends12 es) (hM : ∀ x ∈ es, 0 ≤ x.2.2 ∧ x.2.2 ≤ 50) (hv0 : 0 ≤ v) (hv : v < 12) (hlen : es.length ≤ 1000)
    (heg : ∀ args w, (callFunc fid args).run Try.prog w = .ok (.enter fid args) w)
    (hp : ∀ (u : Int) (W : World), Pure w W → (∃ m, (u, m) ∈ linksF es v) → Calls Try.prog fid (#[.int .i64 u] ++ caps) W fun e W' => e = .returned (.bool (p u)) ∧ W = W') :
    Calls Try.prog 114 #[.pointer (some ⟨X, 0, none⟩), .int .i64 v, .func (.func fid) #[] caps] w fun e w' => e = .returned (.int .i64 (joinsF es v p)) ∧ Pure w w' := by
  refine (callsIn_wide (n := 3)).1 ?_
  refine callsIn_of_wp_marks Try.func114 rfl trivial ?_ rfl
  simp only [Try.ntmps114, List.size_toArray, List.length_cons, List.length_nil, Nat.reduceAdd, Nat.reduceSub, Array.replicate_succ, Array.replicate_zero, List.push_toArray, List.append_toArray, List.nil_append, List.cons_append]
  gi_wp2_with fail
  refine ⟨trivial, (callsIn_wide.2 (links_any _ _ _)).mono ?_⟩
  rintro e w' ⟨rfl, rfl⟩
  gi_wp2
  have HES := Lib.hid hes
  have HE := Lib.hid hE
  have HM := Lib.hid hM
  have HP := Lib.hid hp
  clear hes hE hM hp
  obtain ⟨b, off, hA, hbl, hcs⟩ : ∃ b off, (0 < es.length → A = some ⟨b, off, none⟩) ∧ (0 < es.length → b < w.heap.size) ∧ ∀ k, k < es.length → w.cell? ⟨b, off + k * 3, none⟩ = some (.int .i64 (ge es k).1) ∧ w.cell? ⟨b, off + k * 3 + 1, none⟩ = some (.int .i64 (ge es k).2.1) ∧ w.cell? ⟨b, off + k * 3 + 2, none⟩ = some (.int .i64 (ge es k).2.2) := by
    rcases Nat.eq_zero_or_pos es.length with h0 | h0
    · exact ⟨0, 0, fun h => absurd h (by omega), fun h => absurd h (by omega), fun k hk => absurd hk (by omega)⟩
    · obtain ⟨b, off, e, hb, hc⟩ := HES.out h0
      exact ⟨b, off, fun _ => e, fun _ => hb, hc⟩
  obtain ⟨W0, hW0⟩ : ∃ W0, ((((w.alloc (.cells #[.func (.func fid) #[] caps] 59)).alloc (.cells #[.int .i64 0] 3)).alloc (.cells #[.pointer (some ⟨X, 0, none⟩)] 93)).alloc (.cells #[.int .i64 v] 3)) = W0 := ⟨_, rfl⟩
  have hpu : Pure w W0 := by rw [← hW0]; exact (by repeat (first | exact Keeps.refl _ _ | assumption | refine Keeps.drew ?_ | refine Keeps.drewN ?_ _ | refine Keeps.alloc ?_ _ | refine Keeps.setRow ?_ (by simp) _ | refine Keeps.setRow ?_ (by simp; omega) _ | refine Keeps.setCell ?_ (by simp) _ | refine Keeps.setCell ?_ (by simp; omega) _))
  have hsz : W0.heap.size = w.heap.size + 4 := by rw [← hW0]; simp
  have rf : Row W0 w.heap.size 59 1 [.func (.func fid) #[] caps] := by rw [← hW0]; exact (((Row.new w #[.func (.func fid) #[] caps] 59).alloc _).alloc _).alloc _
  have rn : Row W0 (w.heap.size + 1) 3 1 [.int .i64 0] := by
    rw [← hW0]
    have := Row.new (w.alloc (.cells #[.func (.func fid) #[] caps] 59)) #[.int .i64 0] 3
    rw [World.size_alloc] at this
    exact (this.alloc _).alloc _
  have rx : Row W0 (w.heap.size + 1 + 1) 93 1 [.pointer (some ⟨X, 0, none⟩)] := by
    rw [← hW0]
    have := Row.new ((w.alloc (.cells #[.func (.func fid) #[] caps] 59)).alloc (.cells #[.int .i64 0] 3)) #[.pointer (some ⟨X, 0, none⟩)] 93
    rw [World.size_alloc, World.size_alloc] at this
    exact this.alloc _
  have rv : Row W0 (w.heap.size + 1 + 1 + 1) 3 1 [.int .i64 v] := by
    rw [← hW0]
    have := Row.new (((w.alloc (.cells #[.func (.func fid) #[] caps] 59)).alloc (.cells #[.int .i64 0] 3)).alloc (.cells #[.pointer (some ⟨X, 0, none⟩)] 93)) #[.int .i64 v] 3
    rw [World.size_alloc, World.size_alloc, World.size_alloc] at this
    exact this
  rw [hW0]
  clear hW0
  refine wpIn_rangeFunc_ownF (α := LinkOf es v) (encs := encL es v) (Kp := KB (fun k => k < w.heap.size ∨ k = w.heap.size + 1 + 1 + 1)) (S := fun xs => xs.map (·.1) = linksF es v) (Sp := fun _ => True) (N := es.length) (w0 := W0) rfl (by omega) (gf := 165) (lb := #[.pointer (some ⟨w.heap.size + 1 + 1, 0, none⟩), .pointer (some ⟨w.heap.size + 1 + 1 + 1, 0, none⟩)]) rfl trivial (enters_of Try.func165 (by kernel_rfl) rfl)
    ?seq (fun h k => h.trans k) (fun W l o o' h1 h2 h3 h4 => KB.put (fun k hk => by omega) W l o o' h1 h2 h3 h4) (Below.refl _ _) (fun _ => rfl)
    (fun pre W => (Row W w.heap.size 59 1 [.func (.func fid) #[] caps] ∧ Row W (w.heap.size + 1) 3 1 [.int .i64 (addF p (pre.map (·.1)))]) ∧ Pure w W)
    (fun _ _ _ => False)
    (OwnFrom.and (Own.from (fun s A B row hs hg hr => ⟨hs.1.owned hg hr, hs.2.owned hg hr⟩) _) (fun s W W' row hs hg hr => hs.owned hg (B := W0.heap.size) (by omega) (fun r e => (hr r e).1)))
    (fun _ _ _ _ _ hs _ _ => hs)
    ⟨⟨rf, rn⟩, hpu⟩
    (fun x => { tmps := #[.pointer (some ⟨X, 0, none⟩), .int .i64 v, .func (.func fid) #[] caps, undef, undef, .pointer (some ⟨w.heap.size, 0, none⟩), .int .i64 0, .pointer (some ⟨w.heap.size + 1, 0, none⟩), .int .i64 x.1.1, .int .i64 x.1.2, .pointer (some ⟨X, 0, none⟩), .int .i64 v, .func (.func 165) #[] #[.pointer (some ⟨w.heap.size + 1 + 1, 0, none⟩), .pointer (some ⟨w.heap.size + 1 + 1 + 1, 0, none⟩)], .int .i64 x.1.1, .int .i64 x.1.2, undef, undef, undef, undef, undef, undef, undef], defers := [] }) ?assign ?body ?done ?stop
  case seq =>
    intro l J Jx W hW hJ hJx hY h0
    have hk : Pure w W := hpu.then (Keeps.of_below hW (Nat.le_refl _)) (fun _ _ h => h)
    exact links_in 2 (by omega) l (w.heap.size + 1 + 1) (w.heap.size + 1 + 1 + 1) b off X W es cap v A hA _ (.inr rfl) (fun h => .inl (hbl h)) (fun k hk' => by have := hW.size; omega) HE.out hv0 hv (by omega) J Jx hJ hY h0
      ((hW.cell (p := ⟨w.heap.size + 1 + 1, 0, none⟩) (by simp; omega)).trans (Row.cell rx (i := 0) rfl)) ((hW.cell (p := ⟨w.heap.size + 1 + 1 + 1, 0, none⟩) (by simp; omega)).trans (Row.cell rv (i := 0) rfl))
      (hk.cell id hX) (fun k hk' => ⟨hk.cell id (hcs k hk').1, hk.cell id (hcs k hk').2.1, hk.cell id (hcs k hk').2.2⟩)
  case assign =>
    intro l x W K hK
    gi_wp2
    exact hK
  case body =>
    rintro l pre x W ⟨⟨rf, rn⟩, hpu⟩ hlt
    have cf := Row.cell rf (i := 0) rfl
    have cn := Row.cell rn (i := 0) rfl
    have ff := Row.frozen rn 0
    have hx := HP.out x.1.1 W hpu (by
      obtain ⟨e, he, hl⟩ := x.2
      exact ⟨x.1.2, List.mem_filterMap.2 ⟨e, he, hl⟩⟩)
    have HB := addF_bound (p := p) (pre.map (·.1)) (by
      intro q hq
      rw [List.mem_map] at hq
      obtain ⟨y, _, rfl⟩ := hq
      obtain ⟨e, he, hl⟩ := y.2
      unfold link at hl
      split at hl
      · simp only [Option.some.injEq] at hl
        rw [← hl]; exact HM.out e he
      · cases hl)
    obtain ⟨hB1, hB2⟩ := HB
    have hlen' : (pre.map (·.1)).length ≤ 1000 := by rw [List.length_map]; omega
    have hx2 : 0 ≤ x.1.2 ∧ x.1.2 ≤ 50 := by
      obtain ⟨e, he, hl⟩ := x.2
      unfold link at hl
      split at hl
      · simp only [Option.some.injEq] at hl
        rw [← hl]; exact HM.out e he
      · cases hl
    obtain ⟨hx3, hx4⟩ := hx2
    obtain ⟨S, hS⟩ : ∃ S, S = addF p (pre.map (·.1)) := ⟨_, rfl⟩
    rw [← hS] at cn rn hB1 hB2
    have hS1 : 0 ≤ S := hB1
    have hS2 : S ≤ 50000 := by omega
    have HS : Hid (addF p ((pre ++ [x]).map (·.1)) = if p x.1.1 then S + x.1.2 else S) := by
      rw [Hid, List.map_append, hS]; exact addF_snoc p _ _
    clear hS hB2 hlen'
    by_cases hpx : p x.1.1 = true
    · gi_wp2
      refine ⟨trivial, (CallsIn.inRound l (callsIn_wide.2 hx)).mono ?_⟩
      rintro e w' ⟨rfl, rfl⟩
      rw [hpx]
      gi_wp2
      refine ⟨KeepsOthers.setCell _ _ _, fun k hk => Below.heap_setCell _ _ _ _ (by simp; omega), ⟨rf.far (by simp) _, ?_⟩, hpu.setCell (by simp) _⟩
      rw [HS.out, if_pos hpx]
      exact rn.set_ 0 _
    · have hpx' : p x.1.1 = false := by simpa using hpx
      gi_wp2
      refine ⟨trivial, (CallsIn.inRound l (callsIn_wide.2 hx)).mono ?_⟩
      rintro e w' ⟨rfl, rfl⟩
      rw [hpx']
      gi_wp2
      refine ⟨KeepsOthers.refl _, fun k hk => rfl, ⟨rf, ?_⟩, hpu⟩
      rw [HS.out, if_neg hpx]
      exact rn
  case done =>
    rintro D ys W hD hys ⟨⟨rf, rn⟩, hpu⟩ hK
    have cn := Row.cell rn (i := 0) rfl
    gi_wp2
    refine ⟨by simp, .inl ⟨_, _, rfl, run_takeDeferred hK, ?_⟩⟩
    exact ⟨_, results_tmp rfl _ _ _, by simp [joinsF, ← hys], hpu.grown (grownBy_putObj' W D _) (fun k e hk => by cases e; omega)⟩
  case stop =>
    rintro D c pre W _ _ h _
    exact h.elim

/-- The iterator as a value, in a world of which the two new blocks are known. -/
theorem links_pure (X : Nat) (v : Int) (w : World) :
    Calls Try.prog 148 #[.pointer (some ⟨X, 0, none⟩), .int .i64 v] w fun e w' => ∃ bx bv, e = .returned (.func (.func 165) #[] #[.pointer (some ⟨bx, 0, none⟩), .pointer (some ⟨bv, 0, none⟩)]) ∧
      w.heap.size ≤ bx ∧ w.heap.size ≤ bv ∧ Row w' bx 93 1 [.pointer (some ⟨X, 0, none⟩)] ∧ Row w' bv 3 1 [.int .i64 v] ∧ Pure w w' := by
  refine (links_any X v w).mono ?_
  rintro e w' ⟨rfl, rfl⟩
  refine ⟨_, _, rfl, Nat.le_refl _, Nat.le_succ _, (Row.new w #[.pointer (some ⟨X, 0, none⟩)] 93).alloc _, ?_, (by repeat (first | exact Keeps.refl _ _ | assumption | refine Keeps.drew ?_ | refine Keeps.drewN ?_ _ | refine Keeps.alloc ?_ _ | refine Keeps.setRow ?_ (by simp) _ | refine Keeps.setRow ?_ (by simp; omega) _ | refine Keeps.setCell ?_ (by simp) _ | refine Keeps.setCell ?_ (by simp; omega) _))⟩
  have := Row.new (w.alloc (.cells #[.pointer (some ⟨X, 0, none⟩)] 93)) #[.int .i64 v] 3
  rw [World.size_alloc] at this
  exact this
end Go.Proofs.Ytnhmeckhlajeaaa
