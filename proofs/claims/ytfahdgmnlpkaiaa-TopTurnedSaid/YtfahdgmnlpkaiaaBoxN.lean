/- A block of some cells that the call made. No program is named. -/
import Derived.Test.YtfahdgmnlpkaiaaMixS
import Derived.RangeFuncBox
set_option linter.unusedSimpArgs false
set_option linter.unusedVariables false
namespace Go.Proofs.Ytfahdgmnlpkaiaa
open Go.RowKit
def BoxN (W : World) (B : Nat) (t : TypeId) (vs : Array Value) : Prop := W.heap[B]? = some (.cells vs t (0, 0))
section
variable {W W' : World} {B : Nat} {t : TypeId} {vs : Array Value}
theorem BoxN.lt (h : BoxN W B t vs) : B < W.heap.size := (Array.getElem?_eq_some_iff.1 h).1
theorem BoxN.cell (h : BoxN W B t vs) (j : Nat) : W.cell? ⟨B, j, none⟩ = vs[j]? := by simp [World.cell?, show W.heap[B]? = _ from h]
theorem BoxN.frozen (h : BoxN W B t vs) (j : Nat) : W.frozen? ⟨B, j, none⟩ = false := by simp [World.frozen?, show W.heap[B]? = _ from h]
theorem BoxN.new (W : World) (t : TypeId) (vs : Array Value) : BoxN (W.alloc (.cells vs t)) W.heap.size t vs := World.alloc_heap_new W _
theorem BoxN.block (h : BoxN W B t vs) (hb : W'.heap[B]? = W.heap[B]?) : BoxN W' B t vs := hb.trans h
theorem BoxN.set (j : Nat) (v : Value) (h : BoxN W B t vs) : BoxN (W.setCell ⟨B, j, none⟩ v) B t (vs.setIfInBounds j v) := by
  obtain ⟨hlt, hk⟩ := Array.getElem?_eq_some_iff.1 h
  show (W.heap.modify B _)[B]? = _
  rw [Array.getElem?_eq_getElem (by rw [Array.size_modify]; exact hlt), Array.getElem_modify_self, hk]
  rfl
theorem BoxN.other (h : BoxN W B t vs) {b j : Nat} {v : Value} (hne : B ≠ b) : BoxN (W.setCell ⟨b, j, none⟩ v) B t vs := (Below.heap_setCell W _ v B hne).trans h
end
theorem own_set_other {W : World} {base : Nat} {e : TypeId} {size : Nat} {v : Value} {n : Nat} {xs : List Value} (h : W.ownsRow base e size v n xs) {b j : Nat} {u : Value} (hne : ∀ g, v.ownBlock = some g → g ≠ b) : (W.setCell ⟨b, j, none⟩ u).ownsRow base e size v n xs := by
  obtain ⟨h1, h2⟩ := h
  refine ⟨h1, ?_⟩
  rcases h2 with h2 | ⟨g, cap, cur, a1, a2, a3, a4⟩
  · exact .inl h2
  · exact .inr ⟨g, cap, cur, a1, a2, (Below.heap_setCell W _ u g (hne g (by rw [a1]; rfl))).trans a3, a4⟩
end Go.Proofs.Ytfahdgmnlpkaiaa
