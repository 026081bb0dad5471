/- Tapes: contracts of the small functions: within, ratio. -/
import Derived.Test.YthpbkbbmedpecaaDoorNumR
import Derived.Test.YthpbkbbmedpecaaDoorLater
import Derived.Test.YthpbkbbmedpecaaDoorRowsB
set_option linter.unusedSimpArgs false
set_option linter.unusedVariables false
namespace Go.Proofs.YthpbkbbmedpecaaDoor
open Go.RowKit

set_option maxHeartbeats 400000 in
theorem twithin_any (n lo hi : Int) (w : World) :
    Calls Tryd.prog 35 #[.int .i64 n, .int .i64 lo, .int .i64 hi] w fun e w' => e = .returned (.bool (withinB n lo hi)) ∧ w = w' := by
  go_enter Tryd.func35, Tryd.ntmps35
  go_wp2
  · go_ret
    exact ⟨ret_bool (withinB_tt ‹_›), rfl⟩
  · go_ret
    exact ⟨ret_bool (withinB_ff ‹_›), rfl⟩

set_option maxHeartbeats 400000 in
theorem uwithin_any (n lo hi : Int) (w : World) :
    Calls Tryd.prog 40 #[.int .i64 n, .int .i64 lo, .int .i64 hi] w fun e w' => e = .returned (.bool (withinB n lo hi)) ∧ w = w' := by
  go_enter Tryd.func40, Tryd.ntmps40
  go_wp2
  · go_ret
    exact ⟨ret_bool (withinB_tt ‹_›), rfl⟩
  · go_ret
    exact ⟨ret_bool (withinB_ff ‹_›), rfl⟩

set_option maxHeartbeats 1000000 in
theorem tratio_any (n d : Int) (w : World) (h1 : 1 ≤ d) (h2 : d ≤ 4611686018427387904) (h3 : -4611686018427387904 ≤ n) (h4 : n ≤ 4611686018427387904) :
    Calls Tryd.prog 46 #[.int .i64 n, .int .i64 d] w fun e w' => e = .returned (.agg #[.int .i64 (lowN n d), .int .i64 (lowD n d)]) ∧ Below w.heap.size w w' := by
  have hgp := gcd_pos'' (n := n) h1
  have hgl := gcd_le' n d h1
  have e1 := tdiv_gcd_l n d
  have e2 := tdiv_gcd_r n d
  have q1 := lowN_abs n d h1
  have q2 := lowD_le n d h1
  have q3 := lowD_pos n d h1
  generalize hG : Int.gcd n d = g at *
  generalize lowN n d = N at *
  generalize lowD n d = D at *
  have HG := Lib.hid hG
  have E1 := Lib.hid e1
  have E2 := Lib.hid e2
  clear hG e1 e2
  go_enter Tryd.func46, Tryd.ntmps46
  go_wp2
  go_loopw [5, 6] (fun a b wr => ∃ x y : Int, a = .int .i64 x ∧ b = .int .i64 y ∧ Int.gcd x y = g ∧ -4611686018427387904 ≤ x ∧ x ≤ 4611686018427387904 ∧ -4611686018427387904 ≤ y ∧ y ≤ 4611686018427387904 ∧ (∃ m, wr = (w.alloc (.cells #[.int .i64 0, .int .i64 0] 36)).drewN m)) (fun _ b _ => (intOf b).natAbs)
  case atStart => exact ⟨n, d, rfl, rfl, HG.out, h3, h4, by omega, h2, 0, rfl⟩
  case round =>
    obtain ⟨x, y, rfl, rfl, hg, b1, b2, b3, b4, m, rfl⟩ := hrel
    by_cases hy : y = 0
    · subst hy
      have he := gcd_end hg
      clear hg
      have e1 := E1.out
      have e2 := E2.out
      rcases he with rfl | rfl
      all_goals
        go_wp2
        go_region
        go_wp2
        refine bodyPost_ret (v := .agg #[.int .i64 N, .int .i64 D]) (by first | (simp [results, Tryd.results46, go_sem]; done) | (simp [results, Tryd.results46, go_sem, show ∀ q : Nat, max (q : Int) (-(q : Int)) = q by intro q; omega, show ∀ q : Nat, max (-(q : Int)) (q : Int) = q by intro q; omega]; exact ⟨e1, by first | exact e2 | (rw [← Int.tdiv_eq_ediv_of_nonneg (by omega)]; exact e2)⟩)) rfl ⟨rfl, ?_⟩
        repeat (first | exact Below.refl _ _ | refine Below.setCell ?_ (by simp) _ | refine Below.drew ?_ | refine below_drewN ?_ _ | refine Below.alloc ?_ (by simp) _)
    · have hy' : (y == 0) = false := by simpa using hy
      have hm := tmod_bd (x := x) hy
      have hr := Lib.hid (gcd_round hg)
      clear hg
      go_wp2
      go_quiet (fail)
      generalize x.tmod y = z at *
      go_wp2
      go_roundw
      case rel => exact ⟨y, z, rfl, rfl, hr.out, b3, b4, by omega, by omega, m + nq, World.drewN_drewN _ _ _⟩
      case measure => simp [intOf]; omega

end Go.Proofs.YthpbkbbmedpecaaDoor
