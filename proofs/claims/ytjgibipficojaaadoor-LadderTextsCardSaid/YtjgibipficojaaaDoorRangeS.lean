/- A range over a string behind which other blocks lie; a block of cells of one's own. No program is named. -/
import Derived.Test.YtjgibipficojaaaDoorAppend
import Derived.Laws.RangeString
import Derived.Laws.RangeAny
import Derived.Below
set_option linter.unusedSimpArgs false
set_option linter.unusedVariables false
namespace Go.Proofs.YtjgibipficojaaaDoor
open Go.RowKit

/-- The world in which block N is o. -/
def stepS (w : World) (N : Nat) (o : Obj) : World := { w with heap := w.heap.setIfInBounds N o }
section
variable {P : Program} {w : World} {N : Nat} {o : Obj}
theorem stepS_size : (stepS w N o).heap.size = w.heap.size := by simp [stepS]
theorem stepS_new (h : N < w.heap.size) : (stepS w N o).heap[N]? = some o := by simp [stepS, h]
theorem stepS_other {b : Nat} (h : b ≠ N) : (stepS w N o).heap[b]? = w.heap[b]? := by
  show (w.heap.setIfInBounds N o)[b]? = _
  rw [Array.getElem?_setIfInBounds_ne (Ne.symm h)]
theorem stepS_below {B : Nat} (h : B ≤ N) : Below B w (stepS w N o) := ⟨rfl, rfl, rfl, by rw [stepS_size]; exact Nat.le_refl _, fun b hb => stepS_other (by omega)⟩
theorem stepS_grown : w.grownBy (stepS w N o) (some N) := ⟨rfl, rfl, rfl, by rw [stepS_size]; exact Nat.le_refl _, fun b _ hb => stepS_other (fun e => hb (by rw [e]))⟩
theorem stepS_own {base : Nat} {e : TypeId} {size : Nat} {v : Value} {n : Nat} {xs : List Value} (h : w.ownsRow base e size v n xs) (hN : N < base) : (stepS w N o).ownsRow base e size v n xs := by
  refine h.kept (row := some N) stepS_grown ?_
  by_cases hn : v.ownBlock = none
  · exact .inl hn
  · right
    intro he
    have := (h.lt N he).1
    omega
theorem next_at {s : ByteArray} {pos : Nat} {ty : TypeId} (hi : w.heap[N]? = some (.stringIter s pos)) (h : pos < s.size) :
    (Instr.next (.pointer (some ⟨N, 0, none⟩)) true ty).run P w = .ok (.tuple #[.bool true, .int .i64 pos, .int .i32 (Utf8.decode s pos).1]) (stepS w N (.stringIter s (pos + (Utf8.decode s pos).2))) := by
  simp only [Instr.next, getObj, setObj, Sem.run_bind, Sem.run, hi, Result.andThen, h, if_true]
  simp [goInt, stepS]
theorem next_end {s : ByteArray} {pos : Nat} {ty : TypeId} (hi : w.heap[N]? = some (.stringIter s pos)) (h : ¬ pos < s.size) :
    (Instr.next (.pointer (some ⟨N, 0, none⟩)) true ty).run P w = .ok (.tuple #[.bool false]) w := by
  simp [Instr.next, getObj, Sem.run, hi, h]
end
/-- A block of cells. -/
def BoxS (W : World) (B : Nat) (t : TypeId) (vs : Array Value) : Prop := W.heap[B]? = some (.cells vs t (0, 0))
section
variable {W W' : World} {B : Nat} {t : TypeId} {vs : Array Value}
theorem BoxS.lt (h : BoxS W B t vs) : B < W.heap.size := (Array.getElem?_eq_some_iff.1 h).1
theorem BoxS.cell (h : BoxS W B t vs) (j : Nat) : W.cell? ⟨B, j, none⟩ = vs[j]? := by simp [World.cell?, show W.heap[B]? = _ from h]
theorem BoxS.frozen (h : BoxS W B t vs) (j : Nat) : W.frozen? ⟨B, j, none⟩ = false := by simp [World.frozen?, show W.heap[B]? = _ from h]
theorem BoxS.block (h : BoxS W B t vs) (hb : W'.heap[B]? = W.heap[B]?) : BoxS W' B t vs := hb.trans h
theorem BoxS.set (j : Nat) (v : Value) (h : BoxS W B t vs) : BoxS (W.setCell ⟨B, j, none⟩ v) B t (vs.setIfInBounds j v) := by
  obtain ⟨hlt, hk⟩ := Array.getElem?_eq_some_iff.1 h
  show (W.heap.modify B _)[B]? = _
  rw [Array.getElem?_eq_getElem (by rw [Array.size_modify]; exact hlt), Array.getElem_modify_self, hk]
  rfl
theorem heap_set_other {W : World} {B b j : Nat} {v : Value} (h : b ≠ B) : (W.setCell ⟨B, j, none⟩ v).heap[b]? = W.heap[b]? := Below.heap_setCell W _ v b h
end
end Go.Proofs.YtjgibipficojaaaDoor
