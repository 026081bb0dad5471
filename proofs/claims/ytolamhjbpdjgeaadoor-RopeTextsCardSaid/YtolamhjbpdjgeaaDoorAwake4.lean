/- The chapter's example. -/
import Derived.Test.YtolamhjbpdjgeaaDoorTackle2
import Derived.Test.YtolamhjbpdjgeaaDoorLater
set_option linter.unusedSimpArgs false
set_option linter.unusedVariables false
namespace Go.Proofs.YtolamhjbpdjgeaaDoor
open Go.RowKit
theorem awake_g : liftedR 3 90 1 = (271, 100, 0) := by decide
theorem awake_p : pullR 3 90 1000 = (370, 0) := by decide
set_option maxHeartbeats 1000000 in
theorem awake_any (w : World) : Calls Tryd.prog 4 #[] w fun e w' => e = .returned (.bool true) ∧ Below w.heap.size w w' := by
  have c1 := fun W => Gain_any 3 90 W
  have c2 := fun W => Pull_any 3 90 1000 W
  rw [awake_g] at c1
  rw [awake_p] at c2
  have C1 := Lib.hid c1
  have C2 := Lib.hid c2
  clear c1 c2
  go_enter Tryd.func4, Tryd.ntmps4
  go_wp2_with (first | (go_at_call 11; refine (C1.out _).mono ?_; rintro e w1 ⟨rfl, hb⟩; obtain ⟨hc, hf⟩ := bcell hb; have hlt := blt hb; have hz := hb.size; try simp at hz) | (go_at_call 12; refine (C2.out _).mono ?_; rintro e w1 ⟨rfl, hb⟩; obtain ⟨hc, hf⟩ := bcell hb; have hlt := blt hb; have hz := hb.size; try simp at hz))
  go_ret
  exact ⟨rfl, (by repeat (first | exact Below.refl _ _ | assumption | refine Below.setCell ?_ (by first | (simp; done) | (simp; omega) | omega) _ | refine Below.drew ?_ | refine below_drewN ?_ _ | refine Below.alloc ?_ (by first | (simp; done) | (simp; omega) | omega) _ | refine below_alloc ?_ _ | refine below_step ?_ (by assumption)))⟩
end Go.Proofs.YtolamhjbpdjgeaaDoor
