/- The iterator over the single edges at a vertex, and the loop that adds up what a property picks. -/
import Derived.RangeFuncNested
import Derived.RangeFuncBound
import Derived.RangeFuncCalls
import Derived.RangeFuncLeaves
import Derived.RangeFuncFrom
import Derived.Shelf.Abstract
import Derived.Shelf.RegionOpen
import Derived.OwnWalkIn
import Derived.TacticsInMore
import Derived.LoopNIn
import Derived.LoopIn
import Derived.Test.YtnhmeckhlajeaaaSlices
import Derived.Test.YtnhmeckhlajeaaaForest
namespace Go.Proofs.Ytnhmeckhlajeaaa
open Go.RowKit Go.Shelf
attribute [local go_sem] Oper.semAt_some
set_option maxRecDepth 100000
set_option maxHeartbeats 1000000

/-- What an edge gives at a vertex: the other end, and how often. -/
def link (v : Int) (x : E3) : Option (Int × Int) := if x.1 ≠ x.2.1 ∧ (x.1 = v ∨ x.2.1 = v) then some (x.1 + x.2.1 - v, x.2.2) else none
/-- The links of a vertex, in the order of the edges. -/
def linksF (es : List E3) (v : Int) : List (Int × Int) := es.filterMap (link v)
theorem linksF_take {es : List E3} {v : Int} {k : Nat} (hk : k < es.length) : linksF (es.take (k + 1)) v = linksF (es.take k) v ++ (link v (ge es k)).toList := by
  unfold linksF
  rw [List.take_add_one, List.getElem?_eq_getElem hk, List.filterMap_append, ge_of_lt hk]
  congr 1

/-- Blocks that are to stay as they are. -/
def KB (K : Nat → Prop) (W W' : World) : Prop := ∀ k, K k → W'.heap[k]? = W.heap[k]?
theorem KB.refl (K : Nat → Prop) (W : World) : KB K W W := fun _ _ => rfl
theorem KB.trans {K : Nat → Prop} {A B C : World} (h : KB K A B) (k : KB K B C) : KB K A C := fun i hi => (k i hi).trans (h i hi)
theorem KB.alloc {K : Nat → Prop} {A W : World} (h : KB K A W) (hK : ∀ k, K k → k < A.heap.size) (o : Obj) : KB K A (W.alloc o) := fun i hi => by
  have h1 := h i hi
  rw [Array.getElem?_eq_getElem (hK i hi)] at h1
  rw [Below.heap_alloc W o i (Array.getElem?_eq_some_iff.1 h1).1]
  exact h i hi
theorem KB.cell {K : Nat → Prop} {W W' : World} (h : KB K W W') {p : Addr} (hp : K p.block) {v : Value} (hc : W.cell? p = some v) : W'.cell? p = some v := by
  rw [World.cell?_of_block (w := W) (h p.block hp)]; exact hc
theorem KB.put {K : Nat → Prop} {w : World} (hK : ∀ k, K k → k < w.heap.size) (W : World) (l : Nat) (o o' : Obj) (hl : w.heap.size ≤ l) (_ : W.heap[l]? = some o) (_ : o.isCells = false) (_ : o.isWalk = false) : KB K W (W.putObj l o') :=
  fun k hk => by
    have h1 := hK k hk
    exact World.putObj_heap_other (by omega)

/-- Links as they are handed to a loop's body: they come from the edges. -/
abbrev LinkOf (es : List E3) (v : Int) := { p : Int × Int // ∃ x ∈ es, link v x = some p }
abbrev encL (es : List E3) (v : Int) (p : LinkOf es v) : Array Value := #[.int .i64 p.1.1, .int .i64 p.1.2]

theorem link_snoc {es : List E3} {v : Int} {pre : List (LinkOf es v)} {L : List (Int × Int)} (hp : pre.map (·.1) = L) (x : LinkOf es v) {e : E3} (h : link v e = some x.1) : (pre ++ [x]).map (·.1) = L ++ (link v e).toList := by
  have : (link v e).toList = [x.1] := by rw [h]; rfl
  rw [this, List.map_append, hp]; rfl

theorem links_in (n : Nat) (hn : 1 ≤ n) (l bx bv b off X : Nat) (W : World) (es : List E3) (cap : Nat) (v : Int) (A : Option Addr) (hA : 0 < es.length → A = some ⟨b, off, none⟩) (K : Nat → Prop) (hKv : K bv) (hKb : 0 < es.length → K b) (hKlt : ∀ k, K k → k < W.heap.size)
    (hE : Ends12 es) (hv0 : 0 ≤ v) (hv : v < 12) (hlen : es.length ≤ 1000000000)
    (J Jx : List (LinkOf es v) → World → Prop) (hJ : AbidesFrom W.heap.size J)
    (hY : ∀ pre x W1, J pre W1 → pre.length < es.length → YieldAt Fence.wide (n - 1) Try.prog l (encL es v x) W1 fun e W' =>
      (e = .returned (.bool true) ∧ J (pre ++ [x]) W' ∧ KB K W1 W') ∨ (e = .returned (.bool false) ∧ Jx (pre ++ [x]) W'))
    (h0 : J [] W) (hx : W.cell? ⟨bx, 0, none⟩ = some (.pointer (some ⟨X, 0, none⟩))) (hbv : W.cell? ⟨bv, 0, none⟩ = some (.int .i64 v))
    (hX : W.cell? ⟨X, 1, none⟩ = some (.slice A es.length cap))
    (hes : ∀ k, k < es.length → W.cell? ⟨b, off + k * 3, none⟩ = some (.int .i64 (ge es k).1) ∧ W.cell? ⟨b, off + k * 3 + 1, none⟩ = some (.int .i64 (ge es k).2.1) ∧ W.cell? ⟨b, off + k * 3 + 2, none⟩ = some (.int .i64 (ge es k).2.2)) :
    CallsIn Fence.wide n Try.prog 165 #[.func (.yield l) #[] #[], .pointer (some ⟨bx, 0, none⟩), .pointer (some ⟨bv, 0, none⟩)] W fun e W' => (∃ v, e = .returned v) ∧
      ((∃ xs, (xs.map (·.1)) = linksF es v ∧ J xs W') ∨ (∃ pre, True ∧ Jx pre W')) := by
  have HES := Lib.hid hes
  have HA := Lib.hid hA
  have HEE := Lib.hid hE
  have HJ := Lib.hid hJ
  have HYY := Lib.hid hY
  clear hes hE hJ hY hA
  refine callsIn_of_wp Try.func165 rfl trivial ?_ rfl
  simp only [Try.ntmps165, List.size_toArray, List.length_cons, List.length_nil, Nat.reduceAdd, Nat.reduceSub, Array.replicate_succ, Array.replicate_zero, List.push_toArray, List.append_toArray, List.nil_append, List.cons_append]
  gi_wp2
  gi_loopw [13] (fun i wr => ∃ (k : Nat) (pre : List (LinkOf es v)), k ≤ es.length ∧ i = .int .i64 k ∧ Hid (pre.map (·.1) = linksF (es.take k) v) ∧ Hid (pre.length ≤ k) ∧ J pre wr ∧ KB K W wr) (fun i _ => es.length - (intOf i).toNat)
  case atStart => exact ⟨0, [], Nat.zero_le _, rfl, rfl, Nat.le_refl _, h0, KB.refl _ _⟩
  case round =>
    obtain ⟨k, pre, hk, rfl, hpre, hpl, hJs, hkb⟩ := hrel
    by_cases hlt : k < es.length
    · obtain rfl : A = some ⟨b, off, none⟩ := HA.out (by omega)
      obtain ⟨e0, e1, e2⟩ := HES.out k hlt
      have hKb' := hKb (by omega)
      have c0 := hkb.cell (p := ⟨b, off + k * 3, none⟩) hKb' e0
      have c1 := hkb.cell (p := ⟨b, off + k * 3 + 1, none⟩) hKb' e1
      have c2 := hkb.cell (p := ⟨b, off + k * 3 + 2, none⟩) hKb' e2
      have cv := hkb.cell (p := ⟨bv, 0, none⟩) hKv hbv
      clear e0 e1 e2
      obtain ⟨x1, x2, x3, x4⟩ := HEE.out _ (ge_mem hlt)
      have lb1 := block_lt_of_cell c0
      have lb2 := block_lt_of_cell cv
      have hmem := ge_mem hlt
      have htk := linksF_take (es := es) (v := v) hlt
      have HTK := Lib.hid htk
      have HMEM := Lib.hid hmem
      clear htk hmem
      obtain ⟨A, hA'⟩ : ∃ A, A = (ge es k).1 := ⟨_, rfl⟩
      obtain ⟨B, hB⟩ : ∃ B, B = (ge es k).2.1 := ⟨_, rfl⟩
      obtain ⟨M, hM⟩ : ∃ M, M = (ge es k).2.2 := ⟨_, rfl⟩
      have HGE : Hid (ge es k = (A, B, M)) := by rw [Hid, hA', hB, hM]
      rw [← hA'] at c0 x1 x2
      rw [← hB] at c1 x3 x4
      rw [← hM] at c2
      clear hA' hB hM
      have hJa := HJ.out pre wr (wr.alloc (.cells #[.int .i64 A, .int .i64 B, .int .i64 M] 117)) none hJs (World.grownBy_alloc wr _ none) (fun r e => by cases e)
      have hka : KB K W (wr.alloc (.cells #[.int .i64 A, .int .i64 B, .int .i64 M] 117)) := hkb.alloc hKlt _
      by_cases hab : A = B
      · have b1 := neF hab
        have HN : Hid (link v (ge es k) = none) := by rw [Hid, HGE.out]; unfold link; rw [if_neg (by simp [hab])]
        clear hab
        gi_wp2
        refine ⟨fun _ h => (by cases h), ?_⟩
        gi_wp2
        go_roundw
        case rel => exact ⟨k + 1, pre, by omega, by go_num, by rw [Hid, HTK.out, HN.out]; simp; exact hpre.out, Nat.le_succ_of_le hpl.out, hJa, hka⟩
        case measure => simp [intOf]; omega
      · have b1 := neT hab
        by_cases hav : A = v
        · have b2 := eqT hav
          have HC : Hid ((A, B, M).1 ≠ (A, B, M).2.1 ∧ ((A, B, M).1 = v ∨ (A, B, M).2.1 = v)) := ⟨hab, .inl hav⟩
          clear hab hav
          have hl : link v (A, B, M) = some (A + B - v, M) := by unfold link; rw [if_pos]; exact HC.out
          have HN : Hid (link v (ge es k) = some (A + B - v, M)) := by rw [Hid, HGE.out]; exact hl
          clear hl
          obtain ⟨fn, tmps, assign, body, hy, hR⟩ := HYY.out pre ⟨(A + B - v, M), ge es k, HMEM.out, HN.out⟩ (wr.alloc (.cells #[.int .i64 A, .int .i64 B, .int .i64 M] 117)) hJa (by have := hpl.out; omega)
          dsimp only [encL] at hy
          gi_wp2
          refine hR.mono ?_
          rintro e W3 (⟨rfl, hJ3, hk3⟩ | ⟨rfl, hJx3⟩)
          · gi_wp2
            go_roundw
            case rel => exact ⟨k + 1, _, by omega, by go_num, by rw [Hid, HTK.out]; exact link_snoc hpre.out _ HN.out, by rw [Hid, List.length_append]; exact Nat.succ_le_succ hpl.out, hJ3, hka.trans hk3⟩
            case measure => simp [intOf]; omega
          · gi_wp2
            refine bodyPost_ret (results_none rfl _ _ _) rfl ?_
            exact ⟨⟨_, rfl⟩, .inr ⟨_, trivial, hJx3⟩⟩
        · have b2 := eqF hav
          by_cases hbv' : B = v
          · have b3 := eqT hbv'
            have HC : Hid ((A, B, M).1 ≠ (A, B, M).2.1 ∧ ((A, B, M).1 = v ∨ (A, B, M).2.1 = v)) := ⟨hab, .inr hbv'⟩
            clear hab hav hbv'
            have hl : link v (A, B, M) = some (A + B - v, M) := by unfold link; rw [if_pos]; exact HC.out
            have HN : Hid (link v (ge es k) = some (A + B - v, M)) := by rw [Hid, HGE.out]; exact hl
            clear hl
            obtain ⟨fn, tmps, assign, body, hy, hR⟩ := HYY.out pre ⟨(A + B - v, M), ge es k, HMEM.out, HN.out⟩ (wr.alloc (.cells #[.int .i64 A, .int .i64 B, .int .i64 M] 117)) hJa (by have := hpl.out; omega)
            dsimp only [encL] at hy
            gi_wp2
            refine hR.mono ?_
            rintro e W3 (⟨rfl, hJ3, hk3⟩ | ⟨rfl, hJx3⟩)
            · gi_wp2
              go_roundw
              case rel => exact ⟨k + 1, _, by omega, by go_num, by rw [Hid, HTK.out]; exact link_snoc hpre.out _ HN.out, by rw [Hid, List.length_append]; exact Nat.succ_le_succ hpl.out, hJ3, hka.trans hk3⟩
              case measure => simp [intOf]; omega
            · gi_wp2
              refine bodyPost_ret (results_none rfl _ _ _) rfl ?_
              exact ⟨⟨_, rfl⟩, .inr ⟨_, trivial, hJx3⟩⟩
          · have b3 := eqF hbv'
            have HN : Hid (link v (ge es k) = none) := by rw [Hid, HGE.out]; unfold link; rw [if_neg (by simp [hav, hbv'])]
            clear hab hav hbv'
            gi_wp2
            refine ⟨fun _ h => (by cases h), ?_⟩
            gi_wp2
            go_roundw
            case rel => exact ⟨k + 1, pre, by omega, by go_num, by rw [Hid, HTK.out, HN.out]; simp; exact hpre.out, Nat.le_succ_of_le hpl.out, hJa, hka⟩
            case measure => simp [intOf]; omega
    · gi_wp2
      go_end0
      obtain rfl : k = es.length := by omega
      exact ⟨⟨_, rfl⟩, .inl ⟨pre, by rw [hpre.out, List.take_length], hJs⟩⟩

theorem links_any (X : Nat) (v : Int) (w : World) :
    Calls Try.prog 148 #[.pointer (some ⟨X, 0, none⟩), .int .i64 v] w fun e w' =>
      e = .returned (.func (.func 165) #[] #[.pointer (some ⟨w.heap.size, 0, none⟩), .pointer (some ⟨w.heap.size + 1, 0, none⟩)]) ∧
        (w.alloc (.cells #[.pointer (some ⟨X, 0, none⟩)] 93)).alloc (.cells #[.int .i64 v] 3) = w' := by
  have hmf : ∀ (fn : Fn) (first cap : Array Value) (w : World), (Instr.makeFunc fn first cap).run Try.prog w = .ok (.func fn first cap) w := fun _ _ _ _ => rfl
  go_enter Try.func148, Try.ntmps148
  go_wp2
  go_ret
  exact ⟨rfl, rfl⟩

end Go.Proofs.Ytnhmeckhlajeaaa
