/- The ring with three vertices. -/
import Derived.Test.YtnhmeckhlajeaaaUnb
namespace Go.Proofs.Ytnhmeckhlajeaaa
open Go Go.RowKit Go.Shelf
set_option linter.unusedVariables false

theorem ring_any (w : World) : Calls Try.prog 62 #[] w fun e w' => ∃ g, e = .returned (.agg #[.int .i64 3, .slice (some ⟨g, 0, none⟩) 3 3]) ∧ Row w' g 117 9 [.int .i64 0, .int .i64 1, .int .i64 1, .int .i64 0, .int .i64 2, .int .i64 1, .int .i64 1, .int .i64 2, .int .i64 1] ∧ w.heap.size ≤ g ∧ Pure w w' := by
  go_enter Try.func62, Try.ntmps62
  go_wp2
  have h1 : ∀ o o' : Obj, ((w.alloc o).alloc o').heap[w.heap.size]? = some o := fun o o' => by
    rw [Below.heap_alloc _ _ _ (by show _ < (w.heap.push o).size; simp)]
    exact heap_alloc_new w o
  refine bodyPost_ret (results_cell_row rfl _ _ w.heap.size 24 _ (0, 0) _ rfl (h1 _ _) Try.underlying24 rfl (by obtain ⟨i, hi, -, h2, -⟩ := info_parts info_24; rw [hi]; simpa using h2)) rfl ⟨w.heap.size + 1, rfl, ?_, by omega, (Keeps.refl _ w |>.alloc _).alloc _⟩
  have := Row.new (w.alloc (Obj.cells #[Value.int IntKind.i64 3, Value.slice (some { block := w.heap.size + 1, off := 0 }) 3 3] 24)) #[Value.int IntKind.i64 0, Value.int IntKind.i64 1, Value.int IntKind.i64 1, Value.int IntKind.i64 0,
          Value.int IntKind.i64 2, Value.int IntKind.i64 1, Value.int IntKind.i64 1, Value.int IntKind.i64 2, Value.int IntKind.i64 1] 117
  have e : (w.alloc (Obj.cells #[Value.int IntKind.i64 3, Value.slice (some { block := w.heap.size + 1, off := 0 }) 3 3] 24)).heap.size = w.heap.size + 1 := by show (w.heap.push _).size = _; simp
  rw [e] at this
  exact this
end Go.Proofs.Ytnhmeckhlajeaaa
