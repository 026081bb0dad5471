/- Tops of layer 5: awake5, tidy5, few5. -/
import Derived.Test.YtloogollfconpaaTape7
set_option linter.unusedSimpArgs false
set_option linter.unusedVariables false
namespace Go.Proofs.Ytloogollfconpaa
open Go.RowKit
attribute [local go_sem] Later.cell Same.cell

def row2 : List Tp := [(0, 1, 2), (1, 2, 3)]
theorem row2_E : resE 3 row2 0 2 = 0 := by decide +kernel
theorem row2_N : rsN 3 row2 0 2 = 5 := by decide +kernel
theorem row2_D : rsD 3 row2 0 2 = 1 := by decide +kernel
theorem row2_rows (W : World) (t : TypeId) : Rows 3 int3 (0,0,0) (W.alloc (.cells #[.int .i64 0, .int .i64 1, .int .i64 2, .int .i64 1, .int .i64 2, .int .i64 3] t)) (W.alloc (.cells #[.int .i64 0, .int .i64 1, .int .i64 2, .int .i64 1, .int .i64 2, .int .i64 3] t)).heap.size (some ⟨W.heap.size, 0, none⟩) 2 row2 := by
  refine ⟨rfl, fun _ => ⟨W.heap.size, 0, rfl, by simp, fun k hk j v hj => ?_⟩⟩
  have hj3 : j < 3 := by
    have := (List.getElem?_eq_some_iff.1 hj).1
    simpa [int3] using this
  rw [World.cell?_alloc_at _ _ _ _ rfl, ← hj]
  rcases (by omega : k = 0 ∨ k = 1) with rfl | rfl <;> rcases (by omega : j = 0 ∨ j = 1 ∨ j = 2) with rfl | rfl | rfl <;> rfl
def tidB (a b : Int) : Bool := decide (1 ≤ b) && (decide (b ≤ 1000000) && (decide (0 ≤ a) && decide (a ≤ 1000000)))
def fwB (n : Int) (l : List Tp) : Bool := decide (l.length ≤ 4) && (decide (n ≤ 3) && l.all (fun t => decide (t.2.2 ≤ 20)))
end Go.Proofs.Ytloogollfconpaa
