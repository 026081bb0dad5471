/- Cradles: loads, their sums, shares. -/
import Derived.Test.YtolamhjbpdjgeaaDoorTackle
import Derived.Test.YtolamhjbpdjgeaaDoorLater
set_option linter.unusedSimpArgs false
set_option linter.unusedVariables false
namespace Go.Proofs.YtolamhjbpdjgeaaDoor
open Go.RowKit

theorem loads1_at (n : Int) (t : TypeId) (W : World) (b : Nat) (hb : b = W.heap.size) :
    Calls Tryd.prog 24 #[.slice (some ⟨b, 0, none⟩) 1 1] (W.alloc (.cells #[.int .i64 n] t)) fun e w' => e = .returned (.bool (okLoad n)) ∧ W.alloc (.cells #[.int .i64 n] t) = w' := by
  subst hb
  exact loads1_any n t W
def goodX (span : Int) (x : Int × Int) : Bool := withinB x.1 0 span && okLoad x.2
def goodL (span : Int) (xs : List (Int × Int)) : Bool := xs.all (goodX span) && (withinB span 1 100000 && decide (xs.length ≤ 20))
theorem goodL_spec {span : Int} {xs : List (Int × Int)} (h : goodL span xs = true) : (1 ≤ span ∧ span ≤ 100000) ∧ xs.length ≤ 20 ∧ ∀ x ∈ xs, 0 ≤ x.1 ∧ x.1 ≤ span ∧ 0 ≤ x.2 ∧ x.2 ≤ 1000000 := by
  unfold goodL at h
  simp only [Bool.and_eq_true, List.all_eq_true, decide_eq_true_eq] at h
  refine ⟨withinB_iff.1 h.2.1, h.2.2, fun x hx => ?_⟩
  have := h.1 x hx
  unfold goodX at this
  simp only [Bool.and_eq_true] at this
  have a := withinB_iff.1 this.1
  have b := okLoad_iff.1 this.2
  exact ⟨a.1, a.2, b.1, b.2⟩

end Go.Proofs.YtolamhjbpdjgeaaDoor
