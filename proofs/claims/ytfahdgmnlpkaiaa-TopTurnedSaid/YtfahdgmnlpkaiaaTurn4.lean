/- Turned surveys: where the survey is not valid. -/
import Derived.Test.YtfahdgmnlpkaiaaTurn3
set_option linter.unusedSimpArgs false
set_option linter.unusedVariables false
namespace Go.Proofs.Ytfahdgmnlpkaiaa
open Go.RowKit
attribute [local go_sem] Later.cell
set_option maxHeartbeats 2000000 in
theorem pts_bad (fid : Value) (A : Option Addr) (len cap : Nat) (l : List Tp) (w : World) (hm : len ≤ 9223372036854775807) (hx : Rows 3 int3 (0,0,0) w w.heap.size A len l) (hv : vM l = false) :
    Calls Try.prog 12 #[.slice A len cap, fid] w fun e w' => e = .returned (.tuple #[.slice none 0 0, .int .i64 1]) ∧ Below w.heap.size w w' := by
  have c1 := mValid_any A len cap l w hm hx
  rw [hv] at c1
  have C1 := Lib.hid c1
  clear c1 hx hv
  go_enter Try.func12, Try.ntmps12
  go_wp2_with fail
  refine C1.out.mono ?_
  rintro e w1 ⟨rfl, hb⟩
  go_wp2
  go_ret2
  exact ⟨rfl, hb⟩
set_option maxHeartbeats 2000000 in
theorem east_bad (A : Option Addr) (len cap : Nat) (l : List Tp) (w : World) (hm : len ≤ 9223372036854775807) (hx : Rows 3 int3 (0,0,0) w w.heap.size A len l) (hv : vM l = false) :
    Calls Try.prog 5 #[.slice A len cap] w fun e w' => e = .returned (.tuple #[.slice none 0 0, .int .i64 1]) ∧ Below w.heap.size w w' := by
  have C1 := Lib.hid (fun f => pts_bad f A len cap l w hm hx hv)
  clear hx hv
  go_enter Try.func5, Try.ntmps5
  go_wp2_with fail
  refine (C1.out _).mono ?_
  rintro e w1 ⟨rfl, hb⟩
  go_wp2
  go_ret2
  exact ⟨rfl, hb⟩
set_option maxHeartbeats 2000000 in
theorem mTurned_bad (A : Option Addr) (len cap : Nat) (l : List Tp) (w : World) (hm : len ≤ 9223372036854775807) (hx : Rows 3 int3 (0,0,0) w w.heap.size A len l) (hv : vM l = false) :
    Calls Try.prog 6 #[.slice A len cap, .int .i64 1] w fun e w' => e = .returned (.tuple #[.slice none 0 0, .int .i64 1]) ∧ Below w.heap.size w w' := by
  have c1 := mValid_any A len cap l w hm hx
  rw [hv] at c1
  have C1 := Lib.hid c1
  clear c1 hx hv
  go_enter Try.func6, Try.ntmps6
  go_wp2_with fail
  refine C1.out.mono ?_
  rintro e w1 ⟨rfl, hb⟩
  go_wp2
  go_ret2
  exact ⟨rfl, hb⟩
end Go.Proofs.Ytfahdgmnlpkaiaa
