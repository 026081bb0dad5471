/- SameInts. -/
import Derived.Test.YtgapnhpmgidmhaaBase
import Derived.Test.YtgapnhpmgidmhaaShelf
import Derived.Test.YtgapnhpmgidmhaaLater
set_option linter.unusedSimpArgs false
set_option linter.unusedVariables false
namespace Go.Proofs.Ytgapnhpmgidmhaa
open Go.RowKit
attribute [local go_sem] Later.cell

set_option maxHeartbeats 1000000 in
theorem SameInts_any (A : Option Addr) (len cap : Nat) (xs : List Int) (A' : Option Addr) (len' cap' : Nat) (ys : List Int) (w : World) (hm : len ≤ 9223372036854775807) (hm' : len' ≤ 9223372036854775807) (hx : Ints w w.heap.size A len xs) (hy : Ints w w.heap.size A' len' ys) :
    Calls Try.prog 10 #[.slice A len cap, .slice A' len' cap'] w fun e w' => e = .returned (.bool (decide (xs = ys))) ∧ Below w.heap.size w w' := by
  have HX := Lib.hid hx
  have HY := Lib.hid hy
  clear hx hy
  by_cases hl : len = len'
  · subst hl
    go_enter Try.func10, Try.ntmps10
    go_wp2
    go_loopw [5] (fun i wr => ∃ k : Nat, k ≤ len ∧ i = .int .i64 k ∧ (∀ j, j < k → xs[j]?.getD 0 = ys[j]?.getD 0) ∧ Below w.heap.size w wr) (fun i _ => len - (intOf i).toNat)
    case atStart => exact ⟨0, Nat.zero_le _, rfl, fun j h => absurd h (by omega), Below.refl _ _⟩
    case round =>
      obtain ⟨k, hk, rfl, ht, hB⟩ := hrel
      have HT := Lib.hid ht
      clear ht
      by_cases hlt : k < len
      · obtain ⟨b, off, rfl, hb0, hc1⟩ := (HX.out.below hB).at_ k hlt
        obtain ⟨b', off', rfl, hb0', hc1'⟩ := (HY.out.below hB).at_ k hlt
        have hbs := hB.size
        have hb1 : b < wr.heap.size := by omega
        have hb1' : b' < wr.heap.size := by omega
        generalize hX : xs[k]?.getD 0 = X at *
        generalize hY : ys[k]?.getD 0 = Y at *
        have HXX := Lib.hid hX
        have HYY := Lib.hid hY
        clear hX hY
        have hk1 : (k : Int) < len := by omega
        have hk2 : ¬ len ≤ k := by omega
        by_cases hxy : X = Y
        · have hxy2 : (X == Y) = true := by simpa using hxy
          have H3 : Hid (∀ j, j < k + 1 → xs[j]?.getD 0 = ys[j]?.getD 0) := by
            intro j hj
            by_cases hjk : j = k
            · rw [hjk, HXX.out, HYY.out]; exact hxy
            · exact HT.out j (by omega)
          subst hxy
          go_wp2
          (refine wp_region_later (by kernel_rfl) (by kernel_rfl) ?_; (repeat (go_big_quiet_step ((fail)))); refine wpQuiet_nil ?_)
          intro w4 hb
          go_wp2
          go_roundw
          case rel => exact ⟨k + 1, by omega, by go_num, H3.out, (by repeat (first | exact Below.refl _ _ | assumption | refine Below.setCell ?_ (by first | (simp; done) | (simp; omega) | omega) _ | refine Below.drew ?_ | refine below_drewN ?_ _ | refine Below.alloc ?_ (by first | (simp; done) | (simp; omega) | omega) _ | refine below_alloc ?_ _ | refine below_step ?_ (by assumption)))⟩
          case measure => simp [intOf]; omega
        · have hxy2 : (X == Y) = false := by simpa using hxy
          have H3 : Hid (¬ xs = ys) := by
            intro h
            apply hxy
            rw [← HXX.out, ← HYY.out, h]
          clear hxy
          go_wp2
          (refine wp_region_later (by kernel_rfl) (by kernel_rfl) ?_; (repeat (go_big_quiet_step ((fail)))); refine wpQuiet_nil ?_)
          intro w4 hb
          go_wp2
          go_ret
          exact ⟨ret_bool (decide_eq_false H3.out).symm, (by repeat (first | exact Below.refl _ _ | assumption | refine Below.setCell ?_ (by first | (simp; done) | (simp; omega) | omega) _ | refine Below.drew ?_ | refine below_drewN ?_ _ | refine Below.alloc ?_ (by first | (simp; done) | (simp; omega) | omega) _ | refine below_alloc ?_ _ | refine below_step ?_ (by assumption)))⟩
      · have H3 : Hid (xs = ys) := by
          apply List.ext_getElem (by rw [HX.out.1, HY.out.1])
          intro j h1 h2
          have := HT.out j (by have := HX.out.1; omega)
          rw [List.getElem?_eq_getElem h1, List.getElem?_eq_getElem h2] at this
          simpa using this
        go_wp2
        go_ret
        exact ⟨ret_bool (decide_eq_true H3.out).symm, (by repeat (first | exact Below.refl _ _ | assumption | refine Below.setCell ?_ (by first | (simp; done) | (simp; omega) | omega) _ | refine Below.drew ?_ | refine below_drewN ?_ _ | refine Below.alloc ?_ (by first | (simp; done) | (simp; omega) | omega) _ | refine below_alloc ?_ _ | refine below_step ?_ (by assumption)))⟩
  · have H3 : Hid (¬ xs = ys) := by
      intro h
      apply hl
      rw [← HX.out.1, ← HY.out.1, h]
    go_enter Try.func10, Try.ntmps10
    go_wp2
    go_ret
    exact ⟨ret_bool (decide_eq_false H3.out).symm, (by repeat (first | exact Below.refl _ _ | assumption | refine Below.setCell ?_ (by first | (simp; done) | (simp; omega) | omega) _ | refine Below.drew ?_ | refine below_drewN ?_ _ | refine Below.alloc ?_ (by first | (simp; done) | (simp; omega) | omega) _ | refine below_alloc ?_ _ | refine below_step ?_ (by assumption)))⟩
end Go.Proofs.Ytgapnhpmgidmhaa
