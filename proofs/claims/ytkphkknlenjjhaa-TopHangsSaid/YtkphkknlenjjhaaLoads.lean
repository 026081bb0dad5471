/- Cradles: loads, their sums, shares. -/
import Derived.Test.YtkphkknlenjjhaaTackle
import Derived.Test.YtkphkknlenjjhaaLater
set_option linter.unusedSimpArgs false
set_option linter.unusedVariables false
namespace Go.Proofs.Ytkphkknlenjjhaa
open Go.RowKit

theorem loads1_at (n : Int) (t : TypeId) (W : World) (b : Nat) (hb : b = W.heap.size) :
    Calls Try.prog 18 #[.slice (some ⟨b, 0, none⟩) 1 1] (W.alloc (.cells #[.int .i64 n] t)) fun e w' => e = .returned (.bool (okLoad n)) ∧ W.alloc (.cells #[.int .i64 n] t) = w' := by
  subst hb
  exact loads1_any n t W
def goodX (span : Int) (x : Int × Int) : Bool := withinB x.1 0 span && okLoad x.2
def goodL (span : Int) (xs : List (Int × Int)) : Bool := xs.all (goodX span) && (withinB span 1 100000 && decide (xs.length ≤ 20))
theorem goodL_spec {span : Int} {xs : List (Int × Int)} (h : goodL span xs = true) : (1 ≤ span ∧ span ≤ 100000) ∧ xs.length ≤ 20 ∧ ∀ x ∈ xs, 0 ≤ x.1 ∧ x.1 ≤ span ∧ 0 ≤ x.2 ∧ x.2 ≤ 1000000 := by
  unfold goodL at h
  simp only [Bool.and_eq_true, List.all_eq_true, decide_eq_true_eq] at h
  refine ⟨withinB_iff.1 h.2.1, h.2.2, fun x hx => ?_⟩
  have := h.1 x hx
  unfold goodX at this
  simp only [Bool.and_eq_true] at this
  have a := withinB_iff.1 this.1
  have b := okLoad_iff.1 this.2
  exact ⟨a.1, a.2, b.1, b.2⟩

set_option maxHeartbeats 1000000 in
theorem ValidLoads_any (span : Int) (A : Option Addr) (len cap : Nat) (xs : List (Int × Int)) (w : World) (hm : len ≤ 9223372036854775807) (hx : Pairs w w.heap.size A len xs) :
    Calls Try.prog 26 #[.int .i64 span, .slice A len cap] w fun e w' => e = .returned (.bool (goodL span xs)) ∧ Below w.heap.size w w' := by
  have HX := Lib.hid hx
  clear hx
  go_enter Try.func26, Try.ntmps26
  go_wp2
  go_loopw [9] (fun i wr => ∃ k : Nat, k ≤ len ∧ i = .int .i64 k ∧ (xs.take k).all (goodX span) = true ∧ Below w.heap.size w wr) (fun i _ => len - (intOf i).toNat)
  case atStart => exact ⟨0, Nat.zero_le _, rfl, rfl, Below.refl _ _⟩
  case round =>
    obtain ⟨k, hk, rfl, ht, hB⟩ := hrel
    have HT := Lib.hid ht
    have hsz := hB.size
    clear ht
    by_cases hlt : k < len
    · obtain ⟨b, off, rfl, hb0, hc1, hc2⟩ := (HX.out.below hB).at_ k hlt
      have hlen : k < xs.length := by rw [HX.out.1]; exact hlt
      have HA := Lib.hid (fun hp => all_of_drop (d := ((0 : Int), (0 : Int))) (p := goodX span) hlen hp HT.out)
      have HF := Lib.hid (all_false_of (d := ((0 : Int), (0 : Int))) (p := goodX span) hlen)
      generalize xs[k]?.getD (0, 0) = X at *
      have hg : goodX span X = (withinB X.1 0 span && okLoad X.2) := rfl
      obtain ⟨x1, x2⟩ := X
      dsimp only at hc1 hc2 hg
      have HG := Lib.hid hg
      clear hg
      by_cases h1 : withinB x1 0 span = true
      · by_cases h2 : okLoad x2 = true
        · go_wp2_with (first | (go_at_call 35; refine (within_any _ _ _ _).mono ?_; rintro e w' ⟨rfl, rfl⟩) | (go_at_call 18; refine (loads1_at _ _ _ _ (by simp)).mono ?_; rintro e w' ⟨rfl, rfl⟩))
          go_roundw
          case rel => exact ⟨k + 1, by omega, by go_num, HA.out (by rw [HG.out, h1, h2]; rfl), (by repeat (first | exact Below.refl _ _ | assumption | refine Below.setCell ?_ (by first | (simp; done) | (simp; omega) | omega) _ | refine Below.drew ?_ | refine below_drewN ?_ _ | refine Below.alloc ?_ (by first | (simp; done) | (simp; omega) | omega) _ | refine below_alloc ?_ _ | refine below_step ?_ (by assumption)))⟩
          case measure => simp [intOf]; omega
        · have h2' : okLoad x2 = false := by simpa using h2
          clear h2
          go_wp2_with (first | (go_at_call 35; refine (within_any _ _ _ _).mono ?_; rintro e w' ⟨rfl, rfl⟩) | (go_at_call 18; refine (loads1_at _ _ _ _ (by simp)).mono ?_; rintro e w' ⟨rfl, rfl⟩))
          go_ret
          exact ⟨ret_bool (by rw [goodL, HF.out (by rw [HG.out, h2', Bool.and_false])]; rfl), (by repeat (first | exact Below.refl _ _ | assumption | refine Below.setCell ?_ (by first | (simp; done) | (simp; omega) | omega) _ | refine Below.drew ?_ | refine below_drewN ?_ _ | refine Below.alloc ?_ (by first | (simp; done) | (simp; omega) | omega) _ | refine below_alloc ?_ _ | refine below_step ?_ (by assumption)))⟩
      · have h1' : withinB x1 0 span = false := by simpa using h1
        clear h1
        go_wp2_with (first | (go_at_call 35; refine (within_any _ _ _ _).mono ?_; rintro e w' ⟨rfl, rfl⟩) | (go_at_call 18; refine (loads1_at _ _ _ _ (by simp)).mono ?_; rintro e w' ⟨rfl, rfl⟩))
        go_ret
        exact ⟨ret_bool (by rw [goodL, HF.out (by rw [HG.out, h1', Bool.false_and])]; rfl), (by repeat (first | exact Below.refl _ _ | assumption | refine Below.setCell ?_ (by first | (simp; done) | (simp; omega) | omega) _ | refine Below.drew ?_ | refine below_drewN ?_ _ | refine Below.alloc ?_ (by first | (simp; done) | (simp; omega) | omega) _ | refine below_alloc ?_ _ | refine below_step ?_ (by assumption)))⟩
    · have hfin : Hid (goodL span xs = (withinB span 1 100000 && decide ((len : Int) ≤ 20))) := by
        have h1 : xs.take k = xs := List.take_of_length_le (by rw [HX.out.1]; omega)
        have h2 := HT.out
        rw [h1] at h2
        show goodL span xs = _
        rw [goodL, h2, HX.out.1, Bool.true_and]
        congr 1
        exact decide_eq_decide.2 (by omega)
      clear HT
      by_cases h1 : withinB span 1 100000 = true
      all_goals
        go_wp2_with (first | (go_at_call 35; refine (within_any _ _ _ _).mono ?_; rintro e w' ⟨rfl, rfl⟩))
        go_ret
        exact ⟨ret_bool (by rw [hfin.out]; simp [h1]), (by repeat (first | exact Below.refl _ _ | assumption | refine Below.setCell ?_ (by first | (simp; done) | (simp; omega) | omega) _ | refine Below.drew ?_ | refine below_drewN ?_ _ | refine Below.alloc ?_ (by first | (simp; done) | (simp; omega) | omega) _ | refine below_alloc ?_ _ | refine below_step ?_ (by assumption)))⟩

end Go.Proofs.Ytkphkknlenjjhaa
