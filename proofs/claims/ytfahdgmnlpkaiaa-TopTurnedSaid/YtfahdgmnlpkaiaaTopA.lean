/- Tops of layer 5: awake5, tidy5, few5. -/
import Derived.Test.YtfahdgmnlpkaiaaTape7
set_option linter.unusedSimpArgs false
set_option linter.unusedVariables false
namespace Go.Proofs.Ytfahdgmnlpkaiaa
open Go.RowKit
attribute [local go_sem] Later.cell Same.cell

def row2 : List Tp := [(0, 1, 2), (1, 2, 3)]
theorem row2_E : resE 3 row2 0 2 = 0 := by decide +kernel
theorem row2_N : rsN 3 row2 0 2 = 5 := by decide +kernel
theorem row2_D : rsD 3 row2 0 2 = 1 := by decide +kernel
theorem row2_rows (W : World) (t : TypeId) : Rows 3 int3 (0,0,0) (W.alloc (.cells #[.int .i64 0, .int .i64 1, .int .i64 2, .int .i64 1, .int .i64 2, .int .i64 3] t)) (W.alloc (.cells #[.int .i64 0, .int .i64 1, .int .i64 2, .int .i64 1, .int .i64 2, .int .i64 3] t)).heap.size (some ⟨W.heap.size, 0, none⟩) 2 row2 := by
  refine ⟨rfl, fun _ => ⟨W.heap.size, 0, rfl, by simp, fun k hk j v hj => ?_⟩⟩
  have hj3 : j < 3 := by
    have := (List.getElem?_eq_some_iff.1 hj).1
    simpa [int3] using this
  rw [World.cell?_alloc_at _ _ _ _ rfl, ← hj]
  rcases (by omega : k = 0 ∨ k = 1) with rfl | rfl <;> rcases (by omega : j = 0 ∨ j = 1 ∨ j = 2) with rfl | rfl | rfl <;> rfl
set_option maxHeartbeats 2000000 in
theorem awake5_any (w : World) :
    Calls Try.prog 4 #[] w fun e w' => e = .returned (.bool true) ∧ Below w.heap.size w w' := by
  have hr := fun t => row2_rows w t
  have c1 := fun t => Resistance_any 3 (some ⟨w.heap.size, 0, none⟩) 2 2 row2 0 2 _ (by omega) (hr t)
  rw [row2_E, row2_N, row2_D] at c1
  have C1 := Lib.hid (c1 43)
  clear c1 hr
  go_enter Try.func4, Try.ntmps4
  go_wp2_with fail
  refine C1.out.mono ?_
  rintro e w1 ⟨rfl, hb⟩
  have hB1 : Below w.heap.size w w1 := ((Below.refl _ _).alloc (Nat.le_refl _) _).trans (hb.mono (by simp))
  have hs1 := hB1.size
  clear hb
  go_wp2
  go_ret
  exact ⟨rfl, (by repeat (first | exact Below.refl _ _ | assumption | refine Below.setCell ?_ (by first | (simp; done) | (simp; omega) | omega) _ | refine Below.drew ?_ | refine below_drewN ?_ _ | refine Below.alloc ?_ (by first | (simp; done) | (simp; omega) | omega) _ | refine below_alloc ?_ _ | refine below_step ?_ (by assumption)))⟩
def tidB (a b : Int) : Bool := decide (1 ≤ b) && (decide (b ≤ 1000000) && (decide (0 ≤ a) && decide (a ≤ 1000000)))
def fwB (n : Int) (l : List Tp) : Bool := decide (l.length ≤ 4) && (decide (n ≤ 3) && l.all (fun t => decide (t.2.2 ≤ 20)))
end Go.Proofs.Ytfahdgmnlpkaiaa
