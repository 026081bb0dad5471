/- Joints, climbs and dogs: what is valid, what is right: both texts. -/
import Derived.Test.YtjgibipficojaaaDoorJoint
import Derived.Test.YtjgibipficojaaaDoorShelf
import Derived.Test.YtjgibipficojaaaDoorLater
import Derived.Test.YtjgibipficojaaaDoorAppend
import Derived.OwnWalk
set_option linter.unusedSimpArgs false
set_option linter.unusedVariables false
namespace Go.Proofs.YtjgibipficojaaaDoor
open Go.RowKit
attribute [local go_sem] Later.cell

set_option maxHeartbeats 400000 in
theorem within_any (n lo hi : Int) (w : World) :
    Calls Tryd.prog 21 #[.int .i64 n, .int .i64 lo, .int .i64 hi] w fun e w' => e = .returned (.bool (withinB n lo hi)) ∧ w = w' := by
  go_enter Tryd.func21, Tryd.ntmps21
  go_wp2
  · go_ret
    exact ⟨ret_bool (withinB_tt ‹_›), rfl⟩
  · go_ret
    exact ⟨ret_bool (withinB_ff ‹_›), rfl⟩
set_option maxHeartbeats 400000 in
theorem rwithin_any (n lo hi : Int) (w : World) :
    Calls Tryd.prog 18 #[.int .i64 n, .int .i64 lo, .int .i64 hi] w fun e w' => e = .returned (.bool (withinB n lo hi)) ∧ w = w' := by
  go_enter Tryd.func18, Tryd.ntmps18
  go_wp2
  · go_ret
    exact ⟨ret_bool (withinB_tt ‹_›), rfl⟩
  · go_ret
    exact ⟨ret_bool (withinB_ff ‹_›), rfl⟩
abbrev climbV (c : Clb) : Value := .agg #[.int .i64 c.fi, .int .i64 c.ga, .int .i64 c.to, .int .i64 c.le, .int .i64 c.la, .int .i64 c.st]

set_option maxHeartbeats 2000000 in
theorem VJoints_any (A : Option Addr) (len cap : Nat) (l : List J) (w : World) (hm : len ≤ 9223372036854775807) (hx : Rows 2 jointV dJ w w.heap.size A len l) :
    Calls Tryd.prog 14 #[.slice A len cap] w fun e w' => e = .returned (.bool (vJ l)) ∧ Below w.heap.size w w' := by
  have HX := Lib.hid hx
  clear hx
  go_enter Tryd.func14, Tryd.ntmps14
  go_wp2
  go_loopw [7] (fun i wr => ∃ k : Nat, k ≤ len ∧ i = .int .i64 k ∧ (List.range k).all (jX l) = true ∧ Below w.heap.size w wr) (fun i _ => len - (intOf i).toNat)
  case atStart => exact ⟨0, Nat.zero_le _, rfl, rfl, Below.refl _ _⟩
  case round =>
    obtain ⟨k, hk, rfl, ht, hB⟩ := hrel
    have HT := Lib.hid ht
    have hsz := hB.size
    clear ht
    by_cases hlt : k < len
    · obtain ⟨b, off, rfl, hb0, hc1, hc2⟩ := (HX.out.below hB).atJ k hlt
      have hb1 : b < wr.heap.size := by omega
      have HA := Lib.hid (fun hp => range_yes (p := jX l) HT.out hp)
      have HF := Lib.hid (fun hp => range_no (p := jX l) (show k < l.length by rw [HX.out.1]; exact hlt) hp)
      rcases Nat.eq_zero_or_pos k with rfl | hk0
      · have hu := jX_zero l
        generalize hgt l 0 = X at *
        generalize sndB l 0 = Y at *
        simp only [Nat.zero_mul, Nat.add_zero] at hc1 hc2
        by_cases h1 : withinB X 1 200000 = true
        · have h4 := Lib.hid (HA.out (hu.trans h1))
          clear hu
          go_wp2
          (refine wp_region_later (by kernel_rfl) (by kernel_rfl) ?_; (repeat (go_big_quiet_step ((first | (go_at_call 21; exact later_same (within_any _ _ _ _)) | (go_at_call 18; exact later_same (rwithin_any _ _ _ _)))))); refine wpQuiet_nil ?_)
          intro w3 hb
          go_wp2
          go_roundw
          case rel => exact ⟨1, by omega, by go_num, h4.out, (by repeat (first | exact Below.refl _ _ | assumption | refine Below.setCell ?_ (by first | (simp; done) | (simp; omega) | omega) _ | refine Below.drew ?_ | refine below_drewN ?_ _ | refine Below.alloc ?_ (by first | (simp; done) | (simp; omega) | omega) _ | refine below_alloc ?_ _ | refine below_step ?_ (by assumption)))⟩
          case measure => simp [intOf]; omega
        · have h1' : withinB X 1 200000 = false := by simpa using h1
          have h4 := Lib.hid (HF.out (hu.trans h1'))
          clear hu h1
          go_wp2
          (refine wp_region_later (by kernel_rfl) (by kernel_rfl) ?_; (repeat (go_big_quiet_step ((first | (go_at_call 21; exact later_same (within_any _ _ _ _)) | (go_at_call 18; exact later_same (rwithin_any _ _ _ _)))))); refine wpQuiet_nil ?_)
          intro w3 hb
          go_wp2
          go_ret
          exact ⟨ret_bool (by rw [vJ, h4.out]; rfl), (by repeat (first | exact Below.refl _ _ | assumption | refine Below.setCell ?_ (by first | (simp; done) | (simp; omega) | omega) _ | refine Below.drew ?_ | refine below_drewN ?_ _ | refine Below.alloc ?_ (by first | (simp; done) | (simp; omega) | omega) _ | refine below_alloc ?_ _ | refine below_step ?_ (by assumption)))⟩
      · obtain ⟨j, rfl⟩ : ∃ j, k = j + 1 := ⟨k - 1, by omega⟩
        obtain ⟨b', off', he, _, hd1, hd2⟩ := (HX.out.below hB).atJ j (by omega)
        cases he
        have hu := jX_succ l j
        generalize hgt l (j + 1) = X at *
        generalize sndB l (j + 1) = Y at *
        generalize hgt l j = X' at *
        generalize sndB l j = Y' at *
        have hj1 : (j : Int) < len := by omega
        have hj2 : (j : Int) + 1 < len := by omega
        have hwj : IntKind.i64.wrap (j : Int) = j := IntWalk.i64_in _ (by omega)
        have hj3 : ¬ len ≤ j := by omega
        have hj4 : j < len := by omega
        by_cases h1 : withinB X 1 200000 = true
        · by_cases h5 : X' < X
          · have h4 := Lib.hid (HA.out (hu.trans (by rw [h1, decide_eq_true h5]; rfl)))
            clear hu
            go_wp2
            (refine wp_region_later (by kernel_rfl) (by kernel_rfl) ?_; (repeat (go_big_quiet_step ((first | (go_at_call 21; exact later_same (within_any _ _ _ _)) | (go_at_call 18; exact later_same (rwithin_any _ _ _ _)))))); refine wpQuiet_nil ?_)
            intro w3 hb
            go_wp2
            go_roundw
            case rel => exact ⟨j + 1 + 1, by omega, by go_num, h4.out, (by repeat (first | exact Below.refl _ _ | assumption | refine Below.setCell ?_ (by first | (simp; done) | (simp; omega) | omega) _ | refine Below.drew ?_ | refine below_drewN ?_ _ | refine Below.alloc ?_ (by first | (simp; done) | (simp; omega) | omega) _ | refine below_alloc ?_ _ | refine below_step ?_ (by assumption)))⟩
            case measure => simp [intOf]; omega
          · have h4 := Lib.hid (HF.out (hu.trans (by rw [h1, decide_eq_false h5]; rfl)))
            clear hu
            go_wp2
            (refine wp_region_later (by kernel_rfl) (by kernel_rfl) ?_; (repeat (go_big_quiet_step ((first | (go_at_call 21; exact later_same (within_any _ _ _ _)) | (go_at_call 18; exact later_same (rwithin_any _ _ _ _)))))); refine wpQuiet_nil ?_)
            intro w3 hb
            go_wp2
            go_ret
            exact ⟨ret_bool (by rw [vJ, h4.out]; rfl), (by repeat (first | exact Below.refl _ _ | assumption | refine Below.setCell ?_ (by first | (simp; done) | (simp; omega) | omega) _ | refine Below.drew ?_ | refine below_drewN ?_ _ | refine Below.alloc ?_ (by first | (simp; done) | (simp; omega) | omega) _ | refine below_alloc ?_ _ | refine below_step ?_ (by assumption)))⟩
        · have h1' : withinB X 1 200000 = false := by simpa using h1
          have h4 := Lib.hid (HF.out (hu.trans (by rw [h1']; rfl)))
          clear hu h1
          go_wp2
          (refine wp_region_later (by kernel_rfl) (by kernel_rfl) ?_; (repeat (go_big_quiet_step ((first | (go_at_call 21; exact later_same (within_any _ _ _ _)) | (go_at_call 18; exact later_same (rwithin_any _ _ _ _)))))); refine wpQuiet_nil ?_)
          intro w3 hb
          go_wp2
          go_ret
          exact ⟨ret_bool (by rw [vJ, h4.out]; rfl), (by repeat (first | exact Below.refl _ _ | assumption | refine Below.setCell ?_ (by first | (simp; done) | (simp; omega) | omega) _ | refine Below.drew ?_ | refine below_drewN ?_ _ | refine Below.alloc ?_ (by first | (simp; done) | (simp; omega) | omega) _ | refine below_alloc ?_ _ | refine below_step ?_ (by assumption)))⟩
    · have hfin : Hid (vJ l = decide ((len : Int) ≤ 200)) := by
        show _ = _
        have h2 := HT.out
        rw [show k = l.length by rw [HX.out.1]; omega] at h2
        rw [vJ, h2, Bool.true_and, HX.out.1]
        exact decide_eq_decide.2 (by omega)
      clear HT
      go_wp2
      go_ret
      exact ⟨ret_bool (by rw [hfin.out]), (by repeat (first | exact Below.refl _ _ | assumption | refine Below.setCell ?_ (by first | (simp; done) | (simp; omega) | omega) _ | refine Below.drew ?_ | refine below_drewN ?_ _ | refine Below.alloc ?_ (by first | (simp; done) | (simp; omega) | omega) _ | refine below_alloc ?_ _ | refine below_step ?_ (by assumption)))⟩
set_option maxHeartbeats 2000000 in
theorem rVJoints_any (A : Option Addr) (len cap : Nat) (l : List J) (w : World) (hm : len ≤ 9223372036854775807) (hx : Rows 2 jointV dJ w w.heap.size A len l) :
    Calls Tryd.prog 10 #[.slice A len cap] w fun e w' => e = .returned (.bool (vJ l)) ∧ Below w.heap.size w w' := by
  have HX := Lib.hid hx
  clear hx
  go_enter Tryd.func10, Tryd.ntmps10
  go_wp2
  go_loopw [3] (fun i wr => ∃ k : Nat, k ≤ len ∧ i = .int .i64 k ∧ (List.range k).all (jX l) = true ∧ Below w.heap.size w wr) (fun i _ => len - (intOf i).toNat)
  case atStart => exact ⟨0, Nat.zero_le _, rfl, rfl, Below.refl _ _⟩
  case round =>
    obtain ⟨k, hk, rfl, ht, hB⟩ := hrel
    have HT := Lib.hid ht
    have hsz := hB.size
    clear ht
    by_cases hlt : k < len
    · obtain ⟨b, off, rfl, hb0, hc1, hc2⟩ := (HX.out.below hB).atJ k hlt
      have hb1 : b < wr.heap.size := by omega
      have HA := Lib.hid (fun hp => range_yes (p := jX l) HT.out hp)
      have HF := Lib.hid (fun hp => range_no (p := jX l) (show k < l.length by rw [HX.out.1]; exact hlt) hp)
      rcases Nat.eq_zero_or_pos k with rfl | hk0
      · have hu := jX_zero l
        generalize hgt l 0 = X at *
        generalize sndB l 0 = Y at *
        simp only [Nat.zero_mul, Nat.add_zero] at hc1 hc2
        by_cases h1 : withinB X 1 200000 = true
        · have h4 := Lib.hid (HA.out (hu.trans h1))
          clear hu
          go_wp2
          (refine wp_region_later (by kernel_rfl) (by kernel_rfl) ?_; (repeat (go_big_quiet_step ((first | (go_at_call 21; exact later_same (within_any _ _ _ _)) | (go_at_call 18; exact later_same (rwithin_any _ _ _ _)))))); refine wpQuiet_nil ?_)
          intro w3 hb
          go_wp2
          go_roundw
          case rel => exact ⟨1, by omega, by go_num, h4.out, (by repeat (first | exact Below.refl _ _ | assumption | refine Below.setCell ?_ (by first | (simp; done) | (simp; omega) | omega) _ | refine Below.drew ?_ | refine below_drewN ?_ _ | refine Below.alloc ?_ (by first | (simp; done) | (simp; omega) | omega) _ | refine below_alloc ?_ _ | refine below_step ?_ (by assumption)))⟩
          case measure => simp [intOf]; omega
        · have h1' : withinB X 1 200000 = false := by simpa using h1
          have h4 := Lib.hid (HF.out (hu.trans h1'))
          clear hu h1
          go_wp2
          (refine wp_region_later (by kernel_rfl) (by kernel_rfl) ?_; (repeat (go_big_quiet_step ((first | (go_at_call 21; exact later_same (within_any _ _ _ _)) | (go_at_call 18; exact later_same (rwithin_any _ _ _ _)))))); refine wpQuiet_nil ?_)
          intro w3 hb
          go_wp2
          go_ret
          exact ⟨ret_bool (by rw [vJ, h4.out]; rfl), (by repeat (first | exact Below.refl _ _ | assumption | refine Below.setCell ?_ (by first | (simp; done) | (simp; omega) | omega) _ | refine Below.drew ?_ | refine below_drewN ?_ _ | refine Below.alloc ?_ (by first | (simp; done) | (simp; omega) | omega) _ | refine below_alloc ?_ _ | refine below_step ?_ (by assumption)))⟩
      · obtain ⟨j, rfl⟩ : ∃ j, k = j + 1 := ⟨k - 1, by omega⟩
        obtain ⟨b', off', he, _, hd1, hd2⟩ := (HX.out.below hB).atJ j (by omega)
        cases he
        have hu := jX_succ l j
        generalize hgt l (j + 1) = X at *
        generalize sndB l (j + 1) = Y at *
        generalize hgt l j = X' at *
        generalize sndB l j = Y' at *
        have hj1 : (j : Int) < len := by omega
        have hj2 : (j : Int) + 1 < len := by omega
        have hwj : IntKind.i64.wrap (j : Int) = j := IntWalk.i64_in _ (by omega)
        have hj3 : ¬ len ≤ j := by omega
        have hj4 : j < len := by omega
        by_cases h1 : withinB X 1 200000 = true
        · by_cases h5 : X' < X
          · have h4 := Lib.hid (HA.out (hu.trans (by rw [h1, decide_eq_true h5]; rfl)))
            clear hu
            go_wp2
            (refine wp_region_later (by kernel_rfl) (by kernel_rfl) ?_; (repeat (go_big_quiet_step ((first | (go_at_call 21; exact later_same (within_any _ _ _ _)) | (go_at_call 18; exact later_same (rwithin_any _ _ _ _)))))); refine wpQuiet_nil ?_)
            intro w3 hb
            go_wp2
            go_roundw
            case rel => exact ⟨j + 1 + 1, by omega, by go_num, h4.out, (by repeat (first | exact Below.refl _ _ | assumption | refine Below.setCell ?_ (by first | (simp; done) | (simp; omega) | omega) _ | refine Below.drew ?_ | refine below_drewN ?_ _ | refine Below.alloc ?_ (by first | (simp; done) | (simp; omega) | omega) _ | refine below_alloc ?_ _ | refine below_step ?_ (by assumption)))⟩
            case measure => simp [intOf]; omega
          · have h4 := Lib.hid (HF.out (hu.trans (by rw [h1, decide_eq_false h5]; rfl)))
            clear hu
            go_wp2
            (refine wp_region_later (by kernel_rfl) (by kernel_rfl) ?_; (repeat (go_big_quiet_step ((first | (go_at_call 21; exact later_same (within_any _ _ _ _)) | (go_at_call 18; exact later_same (rwithin_any _ _ _ _)))))); refine wpQuiet_nil ?_)
            intro w3 hb
            go_wp2
            go_ret
            exact ⟨ret_bool (by rw [vJ, h4.out]; rfl), (by repeat (first | exact Below.refl _ _ | assumption | refine Below.setCell ?_ (by first | (simp; done) | (simp; omega) | omega) _ | refine Below.drew ?_ | refine below_drewN ?_ _ | refine Below.alloc ?_ (by first | (simp; done) | (simp; omega) | omega) _ | refine below_alloc ?_ _ | refine below_step ?_ (by assumption)))⟩
        · have h1' : withinB X 1 200000 = false := by simpa using h1
          have h4 := Lib.hid (HF.out (hu.trans (by rw [h1']; rfl)))
          clear hu h1
          go_wp2
          (refine wp_region_later (by kernel_rfl) (by kernel_rfl) ?_; (repeat (go_big_quiet_step ((first | (go_at_call 21; exact later_same (within_any _ _ _ _)) | (go_at_call 18; exact later_same (rwithin_any _ _ _ _)))))); refine wpQuiet_nil ?_)
          intro w3 hb
          go_wp2
          go_ret
          exact ⟨ret_bool (by rw [vJ, h4.out]; rfl), (by repeat (first | exact Below.refl _ _ | assumption | refine Below.setCell ?_ (by first | (simp; done) | (simp; omega) | omega) _ | refine Below.drew ?_ | refine below_drewN ?_ _ | refine Below.alloc ?_ (by first | (simp; done) | (simp; omega) | omega) _ | refine below_alloc ?_ _ | refine below_step ?_ (by assumption)))⟩
    · have hfin : Hid (vJ l = decide ((len : Int) ≤ 200)) := by
        show _ = _
        have h2 := HT.out
        rw [show k = l.length by rw [HX.out.1]; omega] at h2
        rw [vJ, h2, Bool.true_and, HX.out.1]
        exact decide_eq_decide.2 (by omega)
      clear HT
      go_wp2
      go_ret
      exact ⟨ret_bool (by rw [hfin.out]), (by repeat (first | exact Below.refl _ _ | assumption | refine Below.setCell ?_ (by first | (simp; done) | (simp; omega) | omega) _ | refine Below.drew ?_ | refine below_drewN ?_ _ | refine Below.alloc ?_ (by first | (simp; done) | (simp; omega) | omega) _ | refine below_alloc ?_ _ | refine below_step ?_ (by assumption)))⟩

set_option maxHeartbeats 4000000 in
theorem VClimb_any (c : Clb) (w : World) :
    Calls Tryd.prog 26 #[climbV c] w fun e w' => e = .returned (.bool (vC c)) ∧ Below w.heap.size w w' := by
  have hv : vC c = (withinB c.fi 1 200000 && withinB c.ga 1 200000 && withinB c.to 1 200000 && withinB c.le 1 200000 && withinB c.la 0 (c.le - 1) && withinB c.st 1 1000000) := rfl
  obtain ⟨fi, ga, to, le, la, st⟩ := c
  dsimp only at hv ⊢
  generalize vC _ = V at *
  have HV := Lib.hid hv
  clear hv
  go_enter Tryd.func26, Tryd.ntmps26
  go_wp2
  go_loop [15] (fun i => ∃ k : Nat, k ≤ 4 ∧ i = .int .i64 k ∧ Hid ((1 ≤ k → withinB fi 1 200000 = true) ∧ (2 ≤ k → withinB ga 1 200000 = true) ∧ (3 ≤ k → withinB to 1 200000 = true) ∧ (4 ≤ k → withinB le 1 200000 = true))) (fun i => 4 - (intOf i).toNat)
  case atStart => exact ⟨0, by omega, rfl, Lib.hid ⟨fun h => by omega, fun h => by omega, fun h => by omega, fun h => by omega⟩⟩
  case round =>
    obtain ⟨k, hk, rfl, hinv⟩ := hrel
    have hk' : k = 0 ∨ k = 1 ∨ k = 2 ∨ k = 3 ∨ k = 4 := by omega
    rcases hk' with rfl | rfl | rfl | rfl | rfl
    · by_cases h1 : withinB fi 1 200000 = true
      · have H2 := Lib.hid h1
        clear h1 hk
        have hq : withinB fi 1 200000 = true := H2.out
        go_wp2_with (go_at_call 21; refine (within_any _ _ _ _).mono ?_; rintro e w' ⟨rfl, rfl⟩)
        go_round
        case rel => exact ⟨1, by omega, rfl, Lib.hid ⟨fun h => by first | exact H2.out | exact hinv.out.1 (by omega), fun h => by first | omega | exact H2.out | exact hinv.out.2.1 (by omega), fun h => by first | omega | exact H2.out | exact hinv.out.2.2.1 (by omega), fun h => by first | omega | exact H2.out⟩⟩
        case measure => simp [intOf]
      · have h1' : withinB fi 1 200000 = false := by simpa using h1
        have hv : Hid (V = false) := Lib.hid (by rw [HV.out, h1']; simp)
        clear h1 HV hinv
        go_wp2_with (go_at_call 21; refine (within_any _ _ _ _).mono ?_; rintro e w' ⟨rfl, rfl⟩)
        go_ret
        exact ⟨ret_bool hv.out.symm, (by repeat (first | exact Below.refl _ _ | assumption | refine Below.setCell ?_ (by first | (simp; done) | (simp; omega) | omega) _ | refine Below.drew ?_ | refine below_drewN ?_ _ | refine Below.alloc ?_ (by first | (simp; done) | (simp; omega) | omega) _ | refine below_alloc ?_ _ | refine below_step ?_ (by assumption)))⟩
    · by_cases h1 : withinB ga 1 200000 = true
      · have H2 := Lib.hid h1
        clear h1 hk
        have hq : withinB ga 1 200000 = true := H2.out
        go_wp2_with (go_at_call 21; refine (within_any _ _ _ _).mono ?_; rintro e w' ⟨rfl, rfl⟩)
        go_round
        case rel => exact ⟨2, by omega, rfl, Lib.hid ⟨fun h => by first | exact H2.out | exact hinv.out.1 (by omega), fun h => by first | omega | exact H2.out | exact hinv.out.2.1 (by omega), fun h => by first | omega | exact H2.out | exact hinv.out.2.2.1 (by omega), fun h => by first | omega | exact H2.out⟩⟩
        case measure => simp [intOf]
      · have h1' : withinB ga 1 200000 = false := by simpa using h1
        have hv : Hid (V = false) := Lib.hid (by rw [HV.out, h1']; simp)
        clear h1 HV hinv
        go_wp2_with (go_at_call 21; refine (within_any _ _ _ _).mono ?_; rintro e w' ⟨rfl, rfl⟩)
        go_ret
        exact ⟨ret_bool hv.out.symm, (by repeat (first | exact Below.refl _ _ | assumption | refine Below.setCell ?_ (by first | (simp; done) | (simp; omega) | omega) _ | refine Below.drew ?_ | refine below_drewN ?_ _ | refine Below.alloc ?_ (by first | (simp; done) | (simp; omega) | omega) _ | refine below_alloc ?_ _ | refine below_step ?_ (by assumption)))⟩
    · by_cases h1 : withinB to 1 200000 = true
      · have H2 := Lib.hid h1
        clear h1 hk
        have hq : withinB to 1 200000 = true := H2.out
        go_wp2_with (go_at_call 21; refine (within_any _ _ _ _).mono ?_; rintro e w' ⟨rfl, rfl⟩)
        go_round
        case rel => exact ⟨3, by omega, rfl, Lib.hid ⟨fun h => by first | exact H2.out | exact hinv.out.1 (by omega), fun h => by first | omega | exact H2.out | exact hinv.out.2.1 (by omega), fun h => by first | omega | exact H2.out | exact hinv.out.2.2.1 (by omega), fun h => by first | omega | exact H2.out⟩⟩
        case measure => simp [intOf]
      · have h1' : withinB to 1 200000 = false := by simpa using h1
        have hv : Hid (V = false) := Lib.hid (by rw [HV.out, h1']; simp)
        clear h1 HV hinv
        go_wp2_with (go_at_call 21; refine (within_any _ _ _ _).mono ?_; rintro e w' ⟨rfl, rfl⟩)
        go_ret
        exact ⟨ret_bool hv.out.symm, (by repeat (first | exact Below.refl _ _ | assumption | refine Below.setCell ?_ (by first | (simp; done) | (simp; omega) | omega) _ | refine Below.drew ?_ | refine below_drewN ?_ _ | refine Below.alloc ?_ (by first | (simp; done) | (simp; omega) | omega) _ | refine below_alloc ?_ _ | refine below_step ?_ (by assumption)))⟩
    · by_cases h1 : withinB le 1 200000 = true
      · have H2 := Lib.hid h1
        clear h1 hk
        have hq : withinB le 1 200000 = true := H2.out
        go_wp2_with (go_at_call 21; refine (within_any _ _ _ _).mono ?_; rintro e w' ⟨rfl, rfl⟩)
        go_round
        case rel => exact ⟨4, by omega, rfl, Lib.hid ⟨fun h => by first | exact H2.out | exact hinv.out.1 (by omega), fun h => by first | omega | exact H2.out | exact hinv.out.2.1 (by omega), fun h => by first | omega | exact H2.out | exact hinv.out.2.2.1 (by omega), fun h => by first | omega | exact H2.out⟩⟩
        case measure => simp [intOf]
      · have h1' : withinB le 1 200000 = false := by simpa using h1
        have hv : Hid (V = false) := Lib.hid (by rw [HV.out, h1']; simp)
        clear h1 HV hinv
        go_wp2_with (go_at_call 21; refine (within_any _ _ _ _).mono ?_; rintro e w' ⟨rfl, rfl⟩)
        go_ret
        exact ⟨ret_bool hv.out.symm, (by repeat (first | exact Below.refl _ _ | assumption | refine Below.setCell ?_ (by first | (simp; done) | (simp; omega) | omega) _ | refine Below.drew ?_ | refine below_drewN ?_ _ | refine Below.alloc ?_ (by first | (simp; done) | (simp; omega) | omega) _ | refine below_alloc ?_ _ | refine below_step ?_ (by assumption)))⟩
    · have hle := withinB_iff.1 (hinv.out.2.2.2 (by omega))
      have hv : Hid (V = (withinB la 0 (le - 1) && withinB st 1 1000000)) := Lib.hid (by rw [HV.out, hinv.out.1 (by omega), hinv.out.2.1 (by omega), hinv.out.2.2.1 (by omega), hinv.out.2.2.2 (by omega)]; rfl)
      clear HV hinv
      by_cases k5 : withinB la 0 (le - 1) = true
      · go_wp2_with (go_at_call 21; refine (within_any _ _ _ _).mono ?_; rintro e w' ⟨rfl, rfl⟩)
        go_ret
        exact ⟨ret_bool (by rw [hv.out, k5]; rfl), (by repeat (first | exact Below.refl _ _ | assumption | refine Below.setCell ?_ (by first | (simp; done) | (simp; omega) | omega) _ | refine Below.drew ?_ | refine below_drewN ?_ _ | refine Below.alloc ?_ (by first | (simp; done) | (simp; omega) | omega) _ | refine below_alloc ?_ _ | refine below_step ?_ (by assumption)))⟩
      · have k5' : withinB la 0 (le - 1) = false := by simpa using k5
        clear k5
        go_wp2_with (go_at_call 21; refine (within_any _ _ _ _).mono ?_; rintro e w' ⟨rfl, rfl⟩)
        go_ret
        exact ⟨ret_bool (by rw [hv.out, k5']; rfl), (by repeat (first | exact Below.refl _ _ | assumption | refine Below.setCell ?_ (by first | (simp; done) | (simp; omega) | omega) _ | refine Below.drew ?_ | refine below_drewN ?_ _ | refine Below.alloc ?_ (by first | (simp; done) | (simp; omega) | omega) _ | refine below_alloc ?_ _ | refine below_step ?_ (by assumption)))⟩
theorem within_ge {n hi : Int} : withinB n 0 hi = (decide (0 ≤ n) && decide (n ≤ hi)) := by simp [withinB]
end Go.Proofs.YtjgibipficojaaaDoor
