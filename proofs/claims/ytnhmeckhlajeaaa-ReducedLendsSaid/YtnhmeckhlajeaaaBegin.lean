/- The walk of reduced.begin: the state of a divisor. -/
import Derived.Test.YtnhmeckhlajeaaaSlices
import Derived.Deep.RegionHeld3
import Derived.Deep.RegionWith
namespace Go.Proofs.Ytnhmeckhlajeaaa
open Go.RowKit
set_option maxRecDepth 100000
set_option maxHeartbeats 1000000

theorem make_script (n : Nat) (hn : n ≤ 1000000) (w : World) :
    (Instr.makeSlice 30 (.int .i64 (n : Int)) (.int .i64 (n : Int))).run Try.prog w = .ok (.slice (some ⟨w.heap.size, 0, none⟩) n n) (w.alloc (.cells (Array.replicate n (.int .i64 0)) 3)) := by
  obtain ⟨i0, hi, hz, hs, hb⟩ := info_parts int_info
  exact run_make_one _ _ i0 _ Try.underlying30 hi hz hs (by omega) rfl n hn w

/-- A state: its block, those of its chips and of its script, and what they hold. -/
def State (w : World) (X gd gs : Nat) (n : Nat) (A : Option Addr) (es : List E3) (cap cd cs : Nat) (q : Int) (d s : List Int) (e : Int) : Prop :=
  Row w X 137 6 [.int .i64 (n : Int), .slice A es.length cap, .int .i64 q, .slice (some ⟨gd, 0, none⟩) d.length cd, .slice (some ⟨gs, 0, none⟩) s.length cs, .int .i64 e] ∧
    IRow w gd 3 cd d ∧ IRow w gs 3 cs s ∧ gd ≠ gs ∧ d.length = n ∧ s.length = n

def BeginPost (A : Option Addr) (es : List E3) (d : List Int) (cap n : Nat) (q : Int) (w : World) (e : Ending) (w' : World) : Prop :=
  ∃ X gd gs cd, e = .returned (.pointer (some ⟨X, 0, none⟩)) ∧ w.heap.size ≤ X ∧ w.heap.size ≤ gd ∧ w.heap.size ≤ gs ∧ State w' X gd gs n A es cap cd n q d (List.replicate n 0) 0 ∧ Pure w w' ∧ cd ≤ maxLen

theorem begin_any (A D : Option Addr) (es : List E3) (d : List Int) (cap ca : Nat) (n : Nat) (q : Int) (w : World) (hd : Ints w D d) (hdl : d.length = n) (hn : 1 ≤ n) (hn12 : n ≤ 12) :
    Calls Try.prog 64 #[.agg #[.int .i64 (n : Int), .slice A es.length cap], .int .i64 q, .slice D d.length ca] w (BeginPost A es d cap n q w) := by
  have hmk := make_script n (by omega)
  have HL := Lib.hid hdl
  have hl1 : 0 < d.length := by omega
  have hl2 : d.length ≤ 12 := by omega
  clear hdl
  have hD := Lib.hid hd
  clear hd
  go_enter Try.func64, Try.ntmps64
  go_wp2
  go_region_held3 (fun w' => w'.cell? ⟨w.heap.size, 0, none⟩ = some (.int .i64 (n : Int)) ∧ w'.cell? ⟨w.heap.size, 1, none⟩ = some (.slice A es.length cap))
    (first
      | go_keep
      | (go_split_ands
         exact ⟨hp1.cell id (by assumption), hp1.cell id (by assumption)⟩)
      | (go_split_ands
         exact ⟨hp1.cell id (by simp [go_sem, World.cell?_alloc_past]), hp1.cell id (by simp [go_sem, World.cell?_alloc_past])⟩))
    ((first | (go_at_call 22; refine (clone_any D d ca _ (by exact hD.out.keep (by repeat (first | exact Keeps.refl _ _ | assumption | refine Keeps.drew ?_ | refine Keeps.drewN ?_ _ | refine Keeps.alloc ?_ _ | refine Keeps.setRow ?_ (by simp) _ | refine Keeps.setRow ?_ (by simp; omega) _ | refine Keeps.setCell ?_ (by simp) _ | refine Keeps.setCell ?_ (by simp; omega) _))) hl1 (by omega)).mono ?_; rintro e w1 ⟨gd, cd, rfl, hgd, hrd, hp1, hcm⟩)))
  · have hX := Row.new (w1.alloc (.cells (Array.replicate n (.int .i64 0)) 3)) #[.int .i64 (n : Int), .slice A es.length cap, .int .i64 q, .slice (some ⟨gd, 0, none⟩) d.length cd, .slice (some ⟨w1.heap.size, 0, none⟩) n n, .int .i64 0] 137
    have hs := Row.alloc (irow_made w1 n 3) (.cells #[.int .i64 (n : Int), .slice A es.length cap, .int .i64 q, .slice (some ⟨gd, 0, none⟩) d.length cd, .slice (some ⟨w1.heap.size, 0, none⟩) n n, .int .i64 0] 137)
    have hdd := Row.alloc (Row.alloc hrd (.cells (Array.replicate n (.int .i64 0)) 3)) (.cells #[.int .i64 (n : Int), .slice A es.length cap, .int .i64 q, .slice (some ⟨gd, 0, none⟩) d.length cd, .slice (some ⟨w1.heap.size, 0, none⟩) n n, .int .i64 0] 137)
    have hlt := Row.lt hrd
    have hsz := hp1.size
    have hpw : Pure w w1 := Pure.after (by repeat (first | exact Keeps.refl _ _ | assumption | refine Keeps.drew ?_ | refine Keeps.drewN ?_ _ | refine Keeps.alloc ?_ _ | refine Keeps.setRow ?_ (by simp) _ | refine Keeps.setRow ?_ (by simp; omega) _ | refine Keeps.setCell ?_ (by simp) _ | refine Keeps.setCell ?_ (by simp; omega) _)) hp1
    rw [World.size_alloc] at hX
    simp only [World.size_alloc, World.size_drew] at hgd hsz
    go_wp2
    go_ret
    refine ⟨_, gd, w1.heap.size, cd, rfl, by omega, by omega, by omega, ⟨?_, hdd, hs, by omega, HL.out, by simp⟩, (by repeat (first | exact Keeps.refl _ _ | assumption | refine Keeps.drew ?_ | refine Keeps.drewN ?_ _ | refine Keeps.alloc ?_ _ | refine Keeps.setRow ?_ (by simp) _ | refine Keeps.setRow ?_ (by simp; omega) _ | refine Keeps.setCell ?_ (by simp) _ | refine Keeps.setCell ?_ (by simp; omega) _)), hcm⟩
    rw [List.length_replicate]
    exact hX
  · have hs0 := hp1.row (Row.drew (irow_made (w.alloc (.cells #[.int .i64 (n : Int), .slice A es.length cap] 24)) n 3)) id
    have hX := Row.new w1 #[.int .i64 (n : Int), .slice A es.length cap, .int .i64 q, .slice (some ⟨gd, 0, none⟩) d.length cd, .slice (some ⟨w.heap.size + 1, 0, none⟩) n n, .int .i64 0] 137
    have hs := Row.alloc hs0 (.cells #[.int .i64 (n : Int), .slice A es.length cap, .int .i64 q, .slice (some ⟨gd, 0, none⟩) d.length cd, .slice (some ⟨w.heap.size + 1, 0, none⟩) n n, .int .i64 0] 137)
    have hdd := Row.alloc hrd (.cells #[.int .i64 (n : Int), .slice A es.length cap, .int .i64 q, .slice (some ⟨gd, 0, none⟩) d.length cd, .slice (some ⟨w.heap.size + 1, 0, none⟩) n n, .int .i64 0] 137)
    have hlt := Row.lt hrd
    have hsz := hp1.size
    have hpw : Pure w w1 := Pure.after (by repeat (first | exact Keeps.refl _ _ | assumption | refine Keeps.drew ?_ | refine Keeps.drewN ?_ _ | refine Keeps.alloc ?_ _ | refine Keeps.setRow ?_ (by simp) _ | refine Keeps.setRow ?_ (by simp; omega) _ | refine Keeps.setCell ?_ (by simp) _ | refine Keeps.setCell ?_ (by simp; omega) _)) hp1
    simp only [World.size_alloc, World.size_drew] at hgd hsz hs
    go_wp2
    go_ret
    refine ⟨_, gd, w.heap.size + 1, cd, rfl, by omega, by omega, by omega, ⟨?_, hdd, hs, by omega, HL.out, by simp⟩, (by repeat (first | exact Keeps.refl _ _ | assumption | refine Keeps.drew ?_ | refine Keeps.drewN ?_ _ | refine Keeps.alloc ?_ _ | refine Keeps.setRow ?_ (by simp) _ | refine Keeps.setRow ?_ (by simp; omega) _ | refine Keeps.setCell ?_ (by simp) _ | refine Keeps.setCell ?_ (by simp; omega) _)), hcm⟩
    rw [List.length_replicate]
    exact hX
end Go.Proofs.Ytnhmeckhlajeaaa
