/- The reference's Same of two lists of uses. -/
import Derived.Test.YtolamhjbpdjgeaaDoorBase
import Derived.Test.YtolamhjbpdjgeaaDoorLater
import Derived.Test.YtolamhjbpdjgeaaDoorProg
set_option linter.unusedSimpArgs false
set_option linter.unusedVariables false
namespace Go.Proofs.YtolamhjbpdjgeaaDoor
open Go.RowKit
attribute [local go_sem] Later.cell

set_option maxHeartbeats 1000000 in
theorem Same_any (A : Option Addr) (len cap : Nat) (xs : List (Int × Int)) (A' : Option Addr) (len' cap' : Nat) (ys : List (Int × Int)) (w : World) (hm : len ≤ 9223372036854775807) (hm' : len' ≤ 9223372036854775807) (hx : Pairs w w.heap.size A len xs) (hy : Pairs w w.heap.size A' len' ys) :
    Calls Tryd.prog 7 #[.slice A len cap, .slice A' len' cap'] w fun e w' => e = .returned (.bool (decide (xs = ys))) ∧ Below w.heap.size w w' := by
  have HX := Lib.hid hx
  have HY := Lib.hid hy
  clear hx hy
  by_cases hl : len = len'
  · subst hl
    go_enter Tryd.func7, Tryd.ntmps7
    go_wp2
    go_loopw [5] (fun i wr => ∃ k : Nat, k ≤ len ∧ i = .int .i64 k ∧ (∀ j, j < k → xs[j]?.getD (0,0) = ys[j]?.getD (0,0)) ∧ Below w.heap.size w wr) (fun i _ => len - (intOf i).toNat)
    case atStart => exact ⟨0, Nat.zero_le _, rfl, fun j h => absurd h (by omega), Below.refl _ _⟩
    case round =>
      obtain ⟨k, hk, rfl, ht, hB⟩ := hrel
      have HT := Lib.hid ht
      clear ht
      by_cases hlt : k < len
      · obtain ⟨b, off, rfl, hb0, hc1, hc2⟩ := (HX.out.below hB).at_ k hlt
        obtain ⟨b', off', rfl, hb0', hc1', hc2'⟩ := (HY.out.below hB).at_ k hlt
        have hbs := hB.size
        have hb1 : b < wr.heap.size := by omega
        have hb1' : b' < wr.heap.size := by omega
        generalize hX : xs[k]?.getD (0,0) = X at *
        generalize hY : ys[k]?.getD (0,0) = Y at *
        have HXX := Lib.hid hX
        have HYY := Lib.hid hY
        clear hX hY
        obtain ⟨X1, X2⟩ := X
        obtain ⟨Y1, Y2⟩ := Y
        dsimp only at hc1 hc2 hc1' hc2'
        have hk1 : (k : Int) < len := by omega
        have hk2 : ¬ len ≤ k := by omega
        by_cases hxy : X1 = Y1 ∧ X2 = Y2
        · obtain ⟨rfl, rfl⟩ := hxy
          have H3 : Hid (∀ j, j < k + 1 → xs[j]?.getD (0,0) = ys[j]?.getD (0,0)) := by
            intro j hj
            by_cases hjk : j = k
            · rw [hjk, HXX.out, HYY.out]
            · exact HT.out j (by omega)
          go_wp2
          (refine wp_region_later (by kernel_rfl) (by kernel_rfl) ?_; (repeat (go_big_quiet_step ((fail)))); refine wpQuiet_nil ?_)
          intro w4 hb
          go_wp2
          go_roundw
          case rel => exact ⟨k + 1, by omega, by go_num, H3.out, (by repeat (first | exact Below.refl _ _ | assumption | refine Below.setCell ?_ (by first | (simp; done) | (simp; omega) | omega) _ | refine Below.drew ?_ | refine below_drewN ?_ _ | refine Below.alloc ?_ (by first | (simp; done) | (simp; omega) | omega) _ | refine below_alloc ?_ _ | refine below_step ?_ (by assumption)))⟩
          case measure => simp [intOf]; omega
        · have H3 : Hid (¬ xs = ys) := by
            intro h
            apply hxy
            have h2 := HXX.out
            rw [h, HYY.out] at h2
            cases h2
            exact ⟨rfl, rfl⟩
          have H4 : ((X1 == Y1) && (X2 == Y2)) = false := by
            cases h : ((X1 == Y1) && (X2 == Y2)) with
            | false => rfl
            | true => rw [Bool.and_eq_true] at h; exact absurd ⟨by simpa using h.1, by simpa using h.2⟩ hxy
          by_cases h5 : X1 = Y1
          · have h5' : (X1 == Y1) = true := by simpa using h5
            have h6 : (X2 == Y2) = false := by rw [h5', Bool.true_and] at H4; exact H4
            clear H4 hxy
            go_wp2
            (refine wp_region_later (by kernel_rfl) (by kernel_rfl) ?_; (repeat (go_big_quiet_step ((fail)))); refine wpQuiet_nil ?_)
            intro w4 hb
            go_wp2
            go_ret
            exact ⟨ret_bool (decide_eq_false H3.out).symm, (by repeat (first | exact Below.refl _ _ | assumption | refine Below.setCell ?_ (by first | (simp; done) | (simp; omega) | omega) _ | refine Below.drew ?_ | refine below_drewN ?_ _ | refine Below.alloc ?_ (by first | (simp; done) | (simp; omega) | omega) _ | refine below_alloc ?_ _ | refine below_step ?_ (by assumption)))⟩
          · have h5' : (X1 == Y1) = false := by simpa using h5
            clear H4 hxy
            go_wp2
            (refine wp_region_later (by kernel_rfl) (by kernel_rfl) ?_; (repeat (go_big_quiet_step ((fail)))); refine wpQuiet_nil ?_)
            intro w4 hb
            go_wp2
            go_ret
            exact ⟨ret_bool (decide_eq_false H3.out).symm, (by repeat (first | exact Below.refl _ _ | assumption | refine Below.setCell ?_ (by first | (simp; done) | (simp; omega) | omega) _ | refine Below.drew ?_ | refine below_drewN ?_ _ | refine Below.alloc ?_ (by first | (simp; done) | (simp; omega) | omega) _ | refine below_alloc ?_ _ | refine below_step ?_ (by assumption)))⟩
      · have H3 : Hid (xs = ys) := by
          apply List.ext_getElem (by rw [HX.out.1, HY.out.1])
          intro j h1 h2
          have := HT.out j (by have := HX.out.1; omega)
          rw [List.getElem?_eq_getElem h1, List.getElem?_eq_getElem h2] at this
          simpa using this
        go_wp2
        go_ret
        exact ⟨ret_bool (decide_eq_true H3.out).symm, (by repeat (first | exact Below.refl _ _ | assumption | refine Below.setCell ?_ (by first | (simp; done) | (simp; omega) | omega) _ | refine Below.drew ?_ | refine below_drewN ?_ _ | refine Below.alloc ?_ (by first | (simp; done) | (simp; omega) | omega) _ | refine below_alloc ?_ _ | refine below_step ?_ (by assumption)))⟩
  · have H3 : Hid (¬ xs = ys) := by
      intro h
      apply hl
      rw [← HX.out.1, ← HY.out.1, h]
    go_enter Tryd.func7, Tryd.ntmps7
    go_wp2
    go_ret
    exact ⟨ret_bool (decide_eq_false H3.out).symm, (by repeat (first | exact Below.refl _ _ | assumption | refine Below.setCell ?_ (by first | (simp; done) | (simp; omega) | omega) _ | refine Below.drew ?_ | refine below_drewN ?_ _ | refine Below.alloc ?_ (by first | (simp; done) | (simp; omega) | omega) _ | refine below_alloc ?_ _ | refine below_step ?_ (by assumption)))⟩
end Go.Proofs.YtolamhjbpdjgeaaDoor
