/- Ropes and their uses: what is valid. -/
import Derived.Test.YtolamhjbpdjgeaaDoorLoads
import Derived.Test.YtolamhjbpdjgeaaDoorTackle2
set_option linter.unusedSimpArgs false
set_option linter.unusedVariables false
namespace Go.Proofs.YtolamhjbpdjgeaaDoor
open Go.RowKit
attribute [local go_sem] Later.cell

def goodR (s d l : Int) : Bool := withinB s 1 1000000 && withinB d 0 1000 && withinB l 1 1000
theorem goodR_spec {s d l : Int} (h : goodR s d l = true) : (1 ≤ s ∧ s ≤ 1000000) ∧ (0 ≤ d ∧ d ≤ 1000) ∧ 1 ≤ l ∧ l ≤ 1000 := by
  simp only [goodR, Bool.and_eq_true] at h
  exact ⟨withinB_iff.1 h.1.1, withinB_iff.1 h.1.2, withinB_iff.1 h.2⟩
def useB (x : Int × Int) : Bool := withinB x.1 0 100000 && okLoad x.2
theorem sound_any (d l : Int) (w : World) :
    Calls Tryd.prog 31 #[.agg #[.int .i64 d, .int .i64 l]] w fun e w' => e = .returned (.bool (useB (d, l))) ∧ Below w.heap.size w w' := by
  by_cases h1 : withinB d 0 100000 = true
  · go_enter Tryd.func31, Tryd.ntmps31
    go_wp2_with (first | (go_at_call 35; refine (within_any _ _ _ _).mono ?_; rintro e w' ⟨rfl, rfl⟩) | (go_at_call 24; refine (loads1_at _ _ _ _ (by simp)).mono ?_; rintro e w' ⟨rfl, rfl⟩))
    go_ret
    exact ⟨ret_bool (by simp [useB, h1]), (by repeat (first | exact Below.refl _ _ | assumption | refine Below.setCell ?_ (by first | (simp; done) | (simp; omega) | omega) _ | refine Below.drew ?_ | refine below_drewN ?_ _ | refine Below.alloc ?_ (by first | (simp; done) | (simp; omega) | omega) _ | refine below_alloc ?_ _ | refine below_step ?_ (by assumption)))⟩
  · have h1' : withinB d 0 100000 = false := by simpa using h1
    clear h1
    go_enter Tryd.func31, Tryd.ntmps31
    go_wp2_with (first | (go_at_call 35; refine (within_any _ _ _ _).mono ?_; rintro e w' ⟨rfl, rfl⟩))
    go_ret
    exact ⟨ret_bool (by simp [useB, h1']), (by repeat (first | exact Below.refl _ _ | assumption | refine Below.setCell ?_ (by first | (simp; done) | (simp; omega) | omega) _ | refine Below.drew ?_ | refine below_drewN ?_ _ | refine Below.alloc ?_ (by first | (simp; done) | (simp; omega) | omega) _ | refine below_alloc ?_ _ | refine below_step ?_ (by assumption)))⟩

/-- The k-th use is sound, and on no earlier day than the one before it. -/
def useX (us : List (Int × Int)) (k : Nat) : Bool := useB (us[k]?.getD (0,0)) && (k == 0 || decide ((us[k-1]?.getD (0,0)).1 ≤ (us[k]?.getD (0,0)).1))
def goodU (us : List (Int × Int)) : Bool := (List.range us.length).all (useX us) && decide (us.length ≤ 500)
theorem range_yes {p : Nat → Bool} {k : Nat} (h : (List.range k).all p = true) (hp : p k = true) : (List.range (k + 1)).all p = true := by
  rw [List.range_succ, List.all_append, h]; simp [hp]
theorem range_no {p : Nat → Bool} {k n : Nat} (h : k < n) (hp : p k = false) : (List.range n).all p = false := by
  rw [List.all_eq_false]
  exact ⟨k, List.mem_range.2 h, by simp [hp]⟩
theorem goodU_spec {us : List (Int × Int)} (h : goodU us = true) : us.length ≤ 500 ∧ (∀ k, k < us.length → (0 ≤ (us[k]?.getD (0,0)).1 ∧ (us[k]?.getD (0,0)).1 ≤ 100000) ∧ 0 ≤ (us[k]?.getD (0,0)).2 ∧ (us[k]?.getD (0,0)).2 ≤ 1000000) ∧
    ∀ k, k + 1 < us.length → (us[k]?.getD (0,0)).1 ≤ (us[k+1]?.getD (0,0)).1 := by
  simp only [goodU, Bool.and_eq_true, List.all_eq_true, decide_eq_true_eq] at h
  refine ⟨h.2, fun k hk => ?_, fun k hk => ?_⟩
  · have := h.1 k (List.mem_range.2 hk)
    simp only [useX, useB, Bool.and_eq_true] at this
    exact ⟨withinB_iff.1 this.1.1, okLoad_iff.1 this.1.2⟩
  · have := h.1 (k+1) (List.mem_range.2 hk)
    simp only [useX, Bool.and_eq_true, Bool.or_eq_true, decide_eq_true_eq] at this
    rcases this.2 with h | h
    · simp at h
    · exact h

set_option maxHeartbeats 1000000 in
theorem ValidUses_any (A : Option Addr) (len cap : Nat) (us : List (Int × Int)) (w : World) (hm : len ≤ 9223372036854775807) (hx : Pairs w w.heap.size A len us) :
    Calls Tryd.prog 16 #[.slice A len cap] w fun e w' => e = .returned (.bool (goodU us)) ∧ Below w.heap.size w w' := by
  have HX := Lib.hid hx
  clear hx
  go_enter Tryd.func16, Tryd.ntmps16
  go_wp2
  go_loopw [7] (fun i wr => ∃ k : Nat, k ≤ len ∧ i = .int .i64 k ∧ (List.range k).all (useX us) = true ∧ Below w.heap.size w wr) (fun i _ => len - (intOf i).toNat)
  case atStart => exact ⟨0, Nat.zero_le _, rfl, rfl, Below.refl _ _⟩
  case round =>
    obtain ⟨k, hk, rfl, ht, hB⟩ := hrel
    have HT := Lib.hid ht
    have hsz := hB.size
    clear ht
    by_cases hlt : k < len
    · obtain ⟨b, off, rfl, hb0, hc1, hc2⟩ := (HX.out.below hB).at_ k hlt
      have hb1 : b < wr.heap.size := by omega
      have HA := Lib.hid (fun hp => range_yes (p := useX us) HT.out hp)
      have HF := Lib.hid (fun hp => range_no (p := useX us) (show k < us.length by rw [HX.out.1]; exact hlt) hp)
      have HU : Hid (useX us k = (useB (us[k]?.getD (0,0)) && (k == 0 || decide ((us[k-1]?.getD (0,0)).1 ≤ (us[k]?.getD (0,0)).1)))) := rfl
      by_cases hk0 : k = 0
      · subst hk0
        generalize us[0]?.getD (0,0) = X at *
        obtain ⟨x1, x2⟩ := X
        dsimp only at hc1 hc2
        simp only [Nat.zero_mul, Nat.add_zero] at hc1 hc2
        have hub : useB (x1, x2) = (withinB x1 0 100000 && okLoad x2) := rfl
        by_cases h1 : withinB x1 0 100000 = true
        · by_cases h2 : okLoad x2 = true
          · rw [h1, h2] at hub
            have h3 : useX us 0 = true := by rw [HU.out, hub]; rfl
            have h4 := Lib.hid (HA.out h3)
            clear h3
            go_wp2
            (refine wp_region_later (by kernel_rfl) (by kernel_rfl) ?_; (repeat (go_big_quiet_step ((first | (go_at_call 31; exact later_call (sound_any _ _ _)) | (go_at_call 20; exact later_same (rwithin_any _ _ _ _)) | (go_at_call 21; exact later_same (okload_any _ _)))))); refine wpQuiet_nil ?_)
            intro w3 hb
            go_wp2
            go_roundw
            case rel => exact ⟨1, by omega, by go_num, h4.out, (by repeat (first | exact Below.refl _ _ | assumption | refine Below.setCell ?_ (by first | (simp; done) | (simp; omega) | omega) _ | refine Below.drew ?_ | refine below_drewN ?_ _ | refine Below.alloc ?_ (by first | (simp; done) | (simp; omega) | omega) _ | refine below_alloc ?_ _ | refine below_step ?_ (by assumption)))⟩
            case measure => simp [intOf]; omega
          · have h2' : okLoad x2 = false := by simpa using h2
            rw [h1, h2'] at hub
            have h3 : useX us 0 = false := by rw [HU.out, hub]; rfl
            have h4 := Lib.hid (HF.out h3)
            clear h3 h2
            go_wp2
            (refine wp_region_later (by kernel_rfl) (by kernel_rfl) ?_; (repeat (go_big_quiet_step ((first | (go_at_call 31; exact later_call (sound_any _ _ _)) | (go_at_call 20; exact later_same (rwithin_any _ _ _ _)) | (go_at_call 21; exact later_same (okload_any _ _)))))); refine wpQuiet_nil ?_)
            intro w3 hb
            go_wp2
            go_ret
            exact ⟨ret_bool (by rw [goodU, h4.out]; rfl), (by repeat (first | exact Below.refl _ _ | assumption | refine Below.setCell ?_ (by first | (simp; done) | (simp; omega) | omega) _ | refine Below.drew ?_ | refine below_drewN ?_ _ | refine Below.alloc ?_ (by first | (simp; done) | (simp; omega) | omega) _ | refine below_alloc ?_ _ | refine below_step ?_ (by assumption)))⟩
        · have h1' : withinB x1 0 100000 = false := by simpa using h1
          rw [h1'] at hub
          have h3 : useX us 0 = false := by rw [HU.out, hub]; rfl
          have h4 := Lib.hid (HF.out h3)
          clear h3 h1
          go_wp2
          (refine wp_region_later (by kernel_rfl) (by kernel_rfl) ?_; (repeat (go_big_quiet_step ((first | (go_at_call 31; exact later_call (sound_any _ _ _)) | (go_at_call 20; exact later_same (rwithin_any _ _ _ _)) | (go_at_call 21; exact later_same (okload_any _ _)))))); refine wpQuiet_nil ?_)
          intro w3 hb
          go_wp2
          go_ret
          exact ⟨ret_bool (by rw [goodU, h4.out]; rfl), (by repeat (first | exact Below.refl _ _ | assumption | refine Below.setCell ?_ (by first | (simp; done) | (simp; omega) | omega) _ | refine Below.drew ?_ | refine below_drewN ?_ _ | refine Below.alloc ?_ (by first | (simp; done) | (simp; omega) | omega) _ | refine below_alloc ?_ _ | refine below_step ?_ (by assumption)))⟩
      · obtain ⟨j, rfl⟩ : ∃ j, k = j + 1 := ⟨k - 1, by omega⟩
        obtain ⟨b', off', he, _, hd1, _⟩ := (HX.out.below hB).at_ j (by omega)
        cases he
        rw [show j + 1 - 1 = j by omega] at HU
        generalize us[j+1]?.getD (0,0) = X at *
        generalize us[j]?.getD (0,0) = Y at *
        obtain ⟨x1, x2⟩ := X
        obtain ⟨y1, y2⟩ := Y
        dsimp only at hc1 hc2 hd1
        have hub : useB (x1, x2) = (withinB x1 0 100000 && okLoad x2) := rfl
        have hj1 : (j : Int) < len := by omega
        have hj2 : (j : Int) + 1 < len := by omega
        have hwj : IntKind.i64.wrap (j : Int) = j := IntWalk.i64_in _ (by omega)
        have hj3 : ¬ len ≤ j := by omega
        have hj4 : j < len := by omega
        by_cases h1 : withinB x1 0 100000 = true
        · by_cases h2 : okLoad x2 = true
          · rw [h1, h2] at hub
            by_cases h5 : y1 ≤ x1
            · have h3 : useX us (j+1) = true := by rw [HU.out, hub]; simp [h5]
              have h4 := Lib.hid (HA.out h3)
              clear h3
              go_wp2
              (refine wp_region_later (by kernel_rfl) (by kernel_rfl) ?_; (repeat (go_big_quiet_step ((first | (go_at_call 31; exact later_call (sound_any _ _ _)) | (go_at_call 20; exact later_same (rwithin_any _ _ _ _)) | (go_at_call 21; exact later_same (okload_any _ _)))))); refine wpQuiet_nil ?_)
              intro w3 hb
              go_wp2
              go_roundw
              case rel => exact ⟨j + 1 + 1, by omega, by go_num, h4.out, (by repeat (first | exact Below.refl _ _ | assumption | refine Below.setCell ?_ (by first | (simp; done) | (simp; omega) | omega) _ | refine Below.drew ?_ | refine below_drewN ?_ _ | refine Below.alloc ?_ (by first | (simp; done) | (simp; omega) | omega) _ | refine below_alloc ?_ _ | refine below_step ?_ (by assumption)))⟩
              case measure => simp [intOf]; omega
            · have h3 : useX us (j+1) = false := by rw [HU.out, hub]; simp [h5]
              have h4 := Lib.hid (HF.out h3)
              clear h3
              go_wp2
              (refine wp_region_later (by kernel_rfl) (by kernel_rfl) ?_; (repeat (go_big_quiet_step ((first | (go_at_call 31; exact later_call (sound_any _ _ _)) | (go_at_call 20; exact later_same (rwithin_any _ _ _ _)) | (go_at_call 21; exact later_same (okload_any _ _)))))); refine wpQuiet_nil ?_)
              intro w3 hb
              go_wp2
              go_ret
              exact ⟨ret_bool (by rw [goodU, h4.out]; rfl), (by repeat (first | exact Below.refl _ _ | assumption | refine Below.setCell ?_ (by first | (simp; done) | (simp; omega) | omega) _ | refine Below.drew ?_ | refine below_drewN ?_ _ | refine Below.alloc ?_ (by first | (simp; done) | (simp; omega) | omega) _ | refine below_alloc ?_ _ | refine below_step ?_ (by assumption)))⟩
          · have h2' : okLoad x2 = false := by simpa using h2
            rw [h1, h2'] at hub
            have h3 : useX us (j+1) = false := by rw [HU.out, hub]; rfl
            have h4 := Lib.hid (HF.out h3)
            clear h3 h2
            go_wp2
            (refine wp_region_later (by kernel_rfl) (by kernel_rfl) ?_; (repeat (go_big_quiet_step ((first | (go_at_call 31; exact later_call (sound_any _ _ _)) | (go_at_call 20; exact later_same (rwithin_any _ _ _ _)) | (go_at_call 21; exact later_same (okload_any _ _)))))); refine wpQuiet_nil ?_)
            intro w3 hb
            go_wp2
            go_ret
            exact ⟨ret_bool (by rw [goodU, h4.out]; rfl), (by repeat (first | exact Below.refl _ _ | assumption | refine Below.setCell ?_ (by first | (simp; done) | (simp; omega) | omega) _ | refine Below.drew ?_ | refine below_drewN ?_ _ | refine Below.alloc ?_ (by first | (simp; done) | (simp; omega) | omega) _ | refine below_alloc ?_ _ | refine below_step ?_ (by assumption)))⟩
        · have h1' : withinB x1 0 100000 = false := by simpa using h1
          rw [h1'] at hub
          have h3 : useX us (j+1) = false := by rw [HU.out, hub]; rfl
          have h4 := Lib.hid (HF.out h3)
          clear h3 h1
          go_wp2
          (refine wp_region_later (by kernel_rfl) (by kernel_rfl) ?_; (repeat (go_big_quiet_step ((first | (go_at_call 31; exact later_call (sound_any _ _ _)) | (go_at_call 20; exact later_same (rwithin_any _ _ _ _)) | (go_at_call 21; exact later_same (okload_any _ _)))))); refine wpQuiet_nil ?_)
          intro w3 hb
          go_wp2
          go_ret
          exact ⟨ret_bool (by rw [goodU, h4.out]; rfl), (by repeat (first | exact Below.refl _ _ | assumption | refine Below.setCell ?_ (by first | (simp; done) | (simp; omega) | omega) _ | refine Below.drew ?_ | refine below_drewN ?_ _ | refine Below.alloc ?_ (by first | (simp; done) | (simp; omega) | omega) _ | refine below_alloc ?_ _ | refine below_step ?_ (by assumption)))⟩
    · have hfin : Hid (goodU us = decide ((len : Int) ≤ 500)) := by
        show _ = _
        have h2 := HT.out
        rw [show k = us.length by rw [HX.out.1]; omega] at h2
        rw [goodU, h2, Bool.true_and, HX.out.1]
        exact decide_eq_decide.2 (by omega)
      clear HT
      go_wp2
      go_ret
      exact ⟨ret_bool (by rw [hfin.out]), (by repeat (first | exact Below.refl _ _ | assumption | refine Below.setCell ?_ (by first | (simp; done) | (simp; omega) | omega) _ | refine Below.drew ?_ | refine below_drewN ?_ _ | refine Below.alloc ?_ (by first | (simp; done) | (simp; omega) | omega) _ | refine below_alloc ?_ _ | refine below_step ?_ (by assumption)))⟩
set_option maxHeartbeats 1000000 in
theorem rValidUses_any (A : Option Addr) (len cap : Nat) (us : List (Int × Int)) (w : World) (hm : len ≤ 9223372036854775807) (hx : Pairs w w.heap.size A len us) :
    Calls Tryd.prog 10 #[.slice A len cap] w fun e w' => e = .returned (.bool (goodU us)) ∧ Below w.heap.size w w' := by
  have HX := Lib.hid hx
  clear hx
  go_enter Tryd.func10, Tryd.ntmps10
  go_wp2
  go_loopw [3] (fun i wr => ∃ k : Nat, k ≤ len ∧ i = .int .i64 k ∧ (List.range k).all (useX us) = true ∧ Below w.heap.size w wr) (fun i _ => len - (intOf i).toNat)
  case atStart => exact ⟨0, Nat.zero_le _, rfl, rfl, Below.refl _ _⟩
  case round =>
    obtain ⟨k, hk, rfl, ht, hB⟩ := hrel
    have HT := Lib.hid ht
    have hsz := hB.size
    clear ht
    by_cases hlt : k < len
    · obtain ⟨b, off, rfl, hb0, hc1, hc2⟩ := (HX.out.below hB).at_ k hlt
      have hb1 : b < wr.heap.size := by omega
      have HA := Lib.hid (fun hp => range_yes (p := useX us) HT.out hp)
      have HF := Lib.hid (fun hp => range_no (p := useX us) (show k < us.length by rw [HX.out.1]; exact hlt) hp)
      have HU : Hid (useX us k = (useB (us[k]?.getD (0,0)) && (k == 0 || decide ((us[k-1]?.getD (0,0)).1 ≤ (us[k]?.getD (0,0)).1)))) := rfl
      by_cases hk0 : k = 0
      · subst hk0
        generalize us[0]?.getD (0,0) = X at *
        obtain ⟨x1, x2⟩ := X
        dsimp only at hc1 hc2
        simp only [Nat.zero_mul, Nat.add_zero] at hc1 hc2
        have hub : useB (x1, x2) = (withinB x1 0 100000 && okLoad x2) := rfl
        by_cases h1 : withinB x1 0 100000 = true
        · by_cases h2 : okLoad x2 = true
          · rw [h1, h2] at hub
            have h3 : useX us 0 = true := by rw [HU.out, hub]; rfl
            have h4 := Lib.hid (HA.out h3)
            clear h3
            go_wp2
            (refine wp_region_later (by kernel_rfl) (by kernel_rfl) ?_; (repeat (go_big_quiet_step ((first | (go_at_call 31; exact later_call (sound_any _ _ _)) | (go_at_call 20; exact later_same (rwithin_any _ _ _ _)) | (go_at_call 21; exact later_same (okload_any _ _)))))); refine wpQuiet_nil ?_)
            intro w3 hb
            go_wp2
            go_roundw
            case rel => exact ⟨1, by omega, by go_num, h4.out, (by repeat (first | exact Below.refl _ _ | assumption | refine Below.setCell ?_ (by first | (simp; done) | (simp; omega) | omega) _ | refine Below.drew ?_ | refine below_drewN ?_ _ | refine Below.alloc ?_ (by first | (simp; done) | (simp; omega) | omega) _ | refine below_alloc ?_ _ | refine below_step ?_ (by assumption)))⟩
            case measure => simp [intOf]; omega
          · have h2' : okLoad x2 = false := by simpa using h2
            rw [h1, h2'] at hub
            have h3 : useX us 0 = false := by rw [HU.out, hub]; rfl
            have h4 := Lib.hid (HF.out h3)
            clear h3 h2
            go_wp2
            (refine wp_region_later (by kernel_rfl) (by kernel_rfl) ?_; (repeat (go_big_quiet_step ((first | (go_at_call 31; exact later_call (sound_any _ _ _)) | (go_at_call 20; exact later_same (rwithin_any _ _ _ _)) | (go_at_call 21; exact later_same (okload_any _ _)))))); refine wpQuiet_nil ?_)
            intro w3 hb
            go_wp2
            go_ret
            exact ⟨ret_bool (by rw [goodU, h4.out]; rfl), (by repeat (first | exact Below.refl _ _ | assumption | refine Below.setCell ?_ (by first | (simp; done) | (simp; omega) | omega) _ | refine Below.drew ?_ | refine below_drewN ?_ _ | refine Below.alloc ?_ (by first | (simp; done) | (simp; omega) | omega) _ | refine below_alloc ?_ _ | refine below_step ?_ (by assumption)))⟩
        · have h1' : withinB x1 0 100000 = false := by simpa using h1
          rw [h1'] at hub
          have h3 : useX us 0 = false := by rw [HU.out, hub]; rfl
          have h4 := Lib.hid (HF.out h3)
          clear h3 h1
          go_wp2
          (refine wp_region_later (by kernel_rfl) (by kernel_rfl) ?_; (repeat (go_big_quiet_step ((first | (go_at_call 31; exact later_call (sound_any _ _ _)) | (go_at_call 20; exact later_same (rwithin_any _ _ _ _)) | (go_at_call 21; exact later_same (okload_any _ _)))))); refine wpQuiet_nil ?_)
          intro w3 hb
          go_wp2
          go_ret
          exact ⟨ret_bool (by rw [goodU, h4.out]; rfl), (by repeat (first | exact Below.refl _ _ | assumption | refine Below.setCell ?_ (by first | (simp; done) | (simp; omega) | omega) _ | refine Below.drew ?_ | refine below_drewN ?_ _ | refine Below.alloc ?_ (by first | (simp; done) | (simp; omega) | omega) _ | refine below_alloc ?_ _ | refine below_step ?_ (by assumption)))⟩
      · obtain ⟨j, rfl⟩ : ∃ j, k = j + 1 := ⟨k - 1, by omega⟩
        obtain ⟨b', off', he, _, hd1, _⟩ := (HX.out.below hB).at_ j (by omega)
        cases he
        rw [show j + 1 - 1 = j by omega] at HU
        generalize us[j+1]?.getD (0,0) = X at *
        generalize us[j]?.getD (0,0) = Y at *
        obtain ⟨x1, x2⟩ := X
        obtain ⟨y1, y2⟩ := Y
        dsimp only at hc1 hc2 hd1
        have hub : useB (x1, x2) = (withinB x1 0 100000 && okLoad x2) := rfl
        have hj1 : (j : Int) < len := by omega
        have hj2 : (j : Int) + 1 < len := by omega
        have hwj : IntKind.i64.wrap (j : Int) = j := IntWalk.i64_in _ (by omega)
        have hj3 : ¬ len ≤ j := by omega
        have hj4 : j < len := by omega
        by_cases h1 : withinB x1 0 100000 = true
        · by_cases h2 : okLoad x2 = true
          · rw [h1, h2] at hub
            by_cases h5 : y1 ≤ x1
            · have h3 : useX us (j+1) = true := by rw [HU.out, hub]; simp [h5]
              have h4 := Lib.hid (HA.out h3)
              clear h3
              go_wp2
              (refine wp_region_later (by kernel_rfl) (by kernel_rfl) ?_; (repeat (go_big_quiet_step ((first | (go_at_call 31; exact later_call (sound_any _ _ _)) | (go_at_call 20; exact later_same (rwithin_any _ _ _ _)) | (go_at_call 21; exact later_same (okload_any _ _)))))); refine wpQuiet_nil ?_)
              intro w3 hb
              go_wp2
              go_roundw
              case rel => exact ⟨j + 1 + 1, by omega, by go_num, h4.out, (by repeat (first | exact Below.refl _ _ | assumption | refine Below.setCell ?_ (by first | (simp; done) | (simp; omega) | omega) _ | refine Below.drew ?_ | refine below_drewN ?_ _ | refine Below.alloc ?_ (by first | (simp; done) | (simp; omega) | omega) _ | refine below_alloc ?_ _ | refine below_step ?_ (by assumption)))⟩
              case measure => simp [intOf]; omega
            · have h3 : useX us (j+1) = false := by rw [HU.out, hub]; simp [h5]
              have h4 := Lib.hid (HF.out h3)
              clear h3
              go_wp2
              (refine wp_region_later (by kernel_rfl) (by kernel_rfl) ?_; (repeat (go_big_quiet_step ((first | (go_at_call 31; exact later_call (sound_any _ _ _)) | (go_at_call 20; exact later_same (rwithin_any _ _ _ _)) | (go_at_call 21; exact later_same (okload_any _ _)))))); refine wpQuiet_nil ?_)
              intro w3 hb
              go_wp2
              go_ret
              exact ⟨ret_bool (by rw [goodU, h4.out]; rfl), (by repeat (first | exact Below.refl _ _ | assumption | refine Below.setCell ?_ (by first | (simp; done) | (simp; omega) | omega) _ | refine Below.drew ?_ | refine below_drewN ?_ _ | refine Below.alloc ?_ (by first | (simp; done) | (simp; omega) | omega) _ | refine below_alloc ?_ _ | refine below_step ?_ (by assumption)))⟩
          · have h2' : okLoad x2 = false := by simpa using h2
            rw [h1, h2'] at hub
            have h3 : useX us (j+1) = false := by rw [HU.out, hub]; rfl
            have h4 := Lib.hid (HF.out h3)
            clear h3 h2
            go_wp2
            (refine wp_region_later (by kernel_rfl) (by kernel_rfl) ?_; (repeat (go_big_quiet_step ((first | (go_at_call 31; exact later_call (sound_any _ _ _)) | (go_at_call 20; exact later_same (rwithin_any _ _ _ _)) | (go_at_call 21; exact later_same (okload_any _ _)))))); refine wpQuiet_nil ?_)
            intro w3 hb
            go_wp2
            go_ret
            exact ⟨ret_bool (by rw [goodU, h4.out]; rfl), (by repeat (first | exact Below.refl _ _ | assumption | refine Below.setCell ?_ (by first | (simp; done) | (simp; omega) | omega) _ | refine Below.drew ?_ | refine below_drewN ?_ _ | refine Below.alloc ?_ (by first | (simp; done) | (simp; omega) | omega) _ | refine below_alloc ?_ _ | refine below_step ?_ (by assumption)))⟩
        · have h1' : withinB x1 0 100000 = false := by simpa using h1
          rw [h1'] at hub
          have h3 : useX us (j+1) = false := by rw [HU.out, hub]; rfl
          have h4 := Lib.hid (HF.out h3)
          clear h3 h1
          go_wp2
          (refine wp_region_later (by kernel_rfl) (by kernel_rfl) ?_; (repeat (go_big_quiet_step ((first | (go_at_call 31; exact later_call (sound_any _ _ _)) | (go_at_call 20; exact later_same (rwithin_any _ _ _ _)) | (go_at_call 21; exact later_same (okload_any _ _)))))); refine wpQuiet_nil ?_)
          intro w3 hb
          go_wp2
          go_ret
          exact ⟨ret_bool (by rw [goodU, h4.out]; rfl), (by repeat (first | exact Below.refl _ _ | assumption | refine Below.setCell ?_ (by first | (simp; done) | (simp; omega) | omega) _ | refine Below.drew ?_ | refine below_drewN ?_ _ | refine Below.alloc ?_ (by first | (simp; done) | (simp; omega) | omega) _ | refine below_alloc ?_ _ | refine below_step ?_ (by assumption)))⟩
    · have hfin : Hid (goodU us = decide ((len : Int) ≤ 500)) := by
        show _ = _
        have h2 := HT.out
        rw [show k = us.length by rw [HX.out.1]; omega] at h2
        rw [goodU, h2, Bool.true_and, HX.out.1]
        exact decide_eq_decide.2 (by omega)
      clear HT
      go_wp2
      go_ret
      exact ⟨ret_bool (by rw [hfin.out]), (by repeat (first | exact Below.refl _ _ | assumption | refine Below.setCell ?_ (by first | (simp; done) | (simp; omega) | omega) _ | refine Below.drew ?_ | refine below_drewN ?_ _ | refine Below.alloc ?_ (by first | (simp; done) | (simp; omega) | omega) _ | refine below_alloc ?_ _ | refine below_step ?_ (by assumption)))⟩
end Go.Proofs.YtolamhjbpdjgeaaDoor
