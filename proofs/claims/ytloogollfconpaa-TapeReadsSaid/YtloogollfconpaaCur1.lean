/- Currents between a node and itself: none. -/
import Derived.Test.YtloogollfconpaaTape7
import Derived.Test.YtloogollfconpaaCurM
set_option linter.unusedSimpArgs false
set_option linter.unusedVariables false
namespace Go.Proofs.Ytloogollfconpaa
open Go.RowKit
attribute [local go_sem] Later.cell Same.cell

theorem info_ratio : (Try.prog.info? 39).map (fun i => (i.zero, i.size, i.bytes)) = some (some (.agg #[.int .i64 0, .int .i64 0]), 2, 16) := by kernel_rfl
theorem made2 (n : Nat) : (madeCells (Value.agg #[.int .i64 0, .int .i64 0]).cells (n * 2)).toList = List.replicate (n * 2) (.int .i64 0) := by
  apply List.ext_getElem?
  intro i
  by_cases hi : i < n * 2
  · have e : (Value.agg #[.int .i64 0, .int .i64 0]).cells = #[.int .i64 0, .int .i64 0] := rfl
    rw [e]
    rcases (by omega : i % 2 = 0 ∨ i % 2 = 1) with h | h <;> simp [madeCells, hi, h]
  · simp [madeCells, hi]
/-- The head of the walk: the row is made, its denominators are laid. -/
def OutR (w w1 : World) (len : Nat) (i : Value) (W : World) : Prop := ∃ k : Nat, k ≤ len ∧ i = .int .i64 k ∧ CA W (w.heap.size + 1 + 1) (pcells (onesK len k)) ∧ Below (w.heap.size + 1 + 1) w1 W
theorem OutR.store {w w1 : World} {len k : Nat} {W : World} (hk : k < len) (hC : CA W (w.heap.size + 1 + 1) (pcells (onesK len k))) (hB : Below (w.heap.size + 1 + 1) w1 W) :
    CA (W.setCell ⟨w.heap.size + 1 + 1, k * 2 + 1, none⟩ (.int .i64 1)) (w.heap.size + 1 + 1) (pcells (onesK len (k + 1))) ∧ Below (w.heap.size + 1 + 1) w1 (W.setCell ⟨w.heap.size + 1 + 1, k * 2 + 1, none⟩ (.int .i64 1)) := by
  refine ⟨(hC.set (k := k * 2 + 1) (by rw [pcells_len, onesK_len]; omega) _).cast ?_, hB.setCell (Nat.le_refl _) _⟩
  rw [onesK_succ hk, pcells_set _ _ _ (by rw [onesK_len]; exact hk)]
end Go.Proofs.Ytloogollfconpaa
