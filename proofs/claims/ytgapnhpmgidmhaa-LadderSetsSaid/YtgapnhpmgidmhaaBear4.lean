/- What ladders bear: the program's Bears; the reference's height and greatest. -/
import Derived.Test.YtgapnhpmgidmhaaBear3
import Derived.Test.YtgapnhpmgidmhaaOnR
set_option linter.unusedSimpArgs false
set_option linter.unusedVariables false
namespace Go.Proofs.Ytgapnhpmgidmhaa
open Go.RowKit
attribute [local go_sem] Later.cell

/-! ### The reference -/
set_option maxHeartbeats 2000000 in
theorem rheight_any (A : Option Addr) (len cap : Nat) (l : List J) (A' : Option Addr) (n cap' : Nat) (ds : List Int) (k : Nat) (w : World) (hm : len ≤ 9223372036854775807) (hm' : n ≤ 9223372036854775807) (hx : Rows 2 jointV dJ w w.heap.size A len l) (hy : Ints w w.heap.size A' n ds) (hok : WallOk l ds) (hk : k < n) :
    Calls Try.prog 20 #[.slice A len cap, .slice A' n cap', .int .i64 k] w fun e w' => e = .returned (.int .i64 (hD l ds k)) ∧ Below w.heap.size w w' := by
  obtain ⟨d, b, off, b', off', hd, rfl, hb0, rfl, hb0', hc', hc1⟩ := dog_at hx hy hok hk
  generalize hD l ds k = H at *
  have hd2 : (d : Int) < len := by omega
  have hk2 : (k : Int) < n := by omega
  clear hx hy hok
  go_enter Try.func20, Try.ntmps20
  go_wp2
  go_ret
  exact ⟨rfl, (by repeat (first | exact Below.refl _ _ | assumption | refine Below.setCell ?_ (by first | (simp; done) | (simp; omega) | omega) _ | refine Below.drew ?_ | refine below_drewN ?_ _ | refine Below.alloc ?_ (by first | (simp; done) | (simp; omega) | omega) _ | refine below_alloc ?_ _ | refine below_step ?_ (by assumption)))⟩

end Go.Proofs.Ytgapnhpmgidmhaa
