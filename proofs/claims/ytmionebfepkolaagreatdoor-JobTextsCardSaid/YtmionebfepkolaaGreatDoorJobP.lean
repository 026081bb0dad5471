/- Prices: the contracts of within, ValidRate, metres, Price, Standing, the program's and the reference's. -/
import Derived.Test.YtmionebfepkolaaGreatDoorProg
import Derived.Test.YtmionebfepkolaaGreatDoorBase
import Derived.Test.YtmionebfepkolaaGreatDoorLater
import Derived.Test.YtmionebfepkolaaGreatDoorYJa
set_option linter.unusedSimpArgs false
set_option linter.unusedVariables false
namespace Go.Proofs.YtmionebfepkolaaGreatDoor
open Go.RowKit
attribute [local go_sem] Later.cell

theorem wi_ff {n lo hi : Int} (h : n < lo) : false = wi n lo hi := by simp [wi]; omega
theorem wi_tt {n lo hi : Int} (h : lo ≤ n) : decide (n ≤ hi) = wi n lo hi := by simp [wi]; omega
set_option maxHeartbeats 400000 in
theorem jwithin_any (n lo hi : Int) (w : World) :
    Calls Tryz.prog 41 #[.int .i64 n, .int .i64 lo, .int .i64 hi] w fun e w' => e = .returned (.bool (wi n lo hi)) ∧ w = w' := by
  go_enter Tryz.func41, Tryz.ntmps41
  go_wp2
  · go_ret
    exact ⟨ret_bool (wi_tt ‹_›), rfl⟩
  · go_ret
    exact ⟨ret_bool (wi_ff ‹_›), rfl⟩
set_option maxHeartbeats 400000 in
theorem qwithin_any (n lo hi : Int) (w : World) :
    Calls Tryz.prog 32 #[.int .i64 n, .int .i64 lo, .int .i64 hi] w fun e w' => e = .returned (.bool (wi n lo hi)) ∧ w = w' := by
  go_enter Tryz.func32, Tryz.ntmps32
  go_wp2
  · go_ret
    exact ⟨ret_bool (wi_tt ‹_›), rfl⟩
  · go_ret
    exact ⟨ret_bool (wi_ff ‹_›), rfl⟩
def rateB (lo hi ab co : Int) : Bool := ((wi hi 1 200000 && wi lo 0 1000000) && wi ab 0 1000000) && wi co 0 1000000
def metV (n : Int) : Int := if n ≤ 0 then 0 else (n + 999) / 1000
def priceF (lo hi ab co h : Int) : Int := co + lo * metV (if hi < h then hi else h) + ab * metV (h - hi)
def prE (lo hi ab co h : Int) : Int := if rateB lo hi ab co then (if wi h 0 200000 then 0 else 7) else 1
def prV (lo hi ab co h : Int) : Int := if rateB lo hi ab co then (if wi h 0 200000 then priceF lo hi ab co h else 0) else 0
theorem rateB_spec {lo hi ab co : Int} (h : rateB lo hi ab co = true) : (1 ≤ hi ∧ hi ≤ 200000) ∧ (0 ≤ lo ∧ lo ≤ 1000000) ∧ (0 ≤ ab ∧ ab ≤ 1000000) ∧ (0 ≤ co ∧ co ≤ 1000000) := by
  unfold rateB at h
  simp only [Bool.and_eq_true] at h
  exact ⟨wi_iff.1 h.1.1.1, wi_iff.1 h.1.1.2, wi_iff.1 h.1.2, wi_iff.1 h.2⟩
theorem metV_bd (n : Int) (h : n ≤ 200000) : 0 ≤ metV n ∧ metV n ≤ 200 := by unfold metV; split <;> omega
theorem metV_mono {a b : Int} (h : a ≤ b) : metV a ≤ metV b := by unfold metV; split <;> split <;> omega
theorem mul_bd {x y X Y : Int} (hx : 0 ≤ x ∧ x ≤ X) (hy : 0 ≤ y ∧ y ≤ Y) : 0 ≤ x * y ∧ x * y ≤ X * Y :=
  ⟨Int.mul_nonneg hx.1 hy.1, Int.mul_le_mul hx.2 hy.2 hy.1 (Int.le_trans hx.1 hx.2)⟩
set_option maxHeartbeats 1000000 in
theorem rate_any (lo hi ab co : Int) (w : World) :
    Calls Tryz.prog 40 #[.agg #[.int .i64 lo, .int .i64 hi, .int .i64 ab, .int .i64 co]] w fun e w' => e = .returned (.bool (rateB lo hi ab co)) ∧ Below w.heap.size w w' := by
  have hR : rateB lo hi ab co = (((wi hi 1 200000 && wi lo 0 1000000) && wi ab 0 1000000) && wi co 0 1000000) := rfl
  rw [hR]
  clear hR
  have C := Lib.hid (fun n a b W => jwithin_any n a b W)
  cases h1 : wi hi 1 200000
  · have H1 := Lib.hid h1
    go_enter Tryz.func40, Tryz.ntmps40
    go_wp2_with (go_at_call 41; refine (C.out _ _ _ _).mono ?_; rintro e w1 ⟨rfl, rfl⟩; rw [H1.out])
    go_ret
    exact ⟨rfl, (by repeat (first | exact Below.refl _ _ | assumption | refine Below.setCell ?_ (by first | (simp; done) | (simp; omega) | omega) _ | refine Below.drew ?_ | refine below_drewN ?_ _ | refine Below.alloc ?_ (by first | (simp; done) | (simp; omega) | omega) _ | refine below_alloc ?_ _ | refine below_step ?_ (by assumption)))⟩
  · cases h2 : wi lo 0 1000000
    · have H1 := Lib.hid h1
      have H2 := Lib.hid h2
      go_enter Tryz.func40, Tryz.ntmps40
      go_wp2_with (go_at_call 41; refine (C.out _ _ _ _).mono ?_; rintro e w1 ⟨rfl, rfl⟩; first | rw [H1.out] | rw [H2.out])
      go_ret
      exact ⟨rfl, (by repeat (first | exact Below.refl _ _ | assumption | refine Below.setCell ?_ (by first | (simp; done) | (simp; omega) | omega) _ | refine Below.drew ?_ | refine below_drewN ?_ _ | refine Below.alloc ?_ (by first | (simp; done) | (simp; omega) | omega) _ | refine below_alloc ?_ _ | refine below_step ?_ (by assumption)))⟩
    · cases h3 : wi ab 0 1000000
      · have H1 := Lib.hid h1
        have H2 := Lib.hid h2
        have H3 := Lib.hid h3
        go_enter Tryz.func40, Tryz.ntmps40
        go_wp2_with (go_at_call 41; refine (C.out _ _ _ _).mono ?_; rintro e w1 ⟨rfl, rfl⟩; first | rw [H1.out] | rw [H2.out] | rw [H3.out])
        go_ret
        exact ⟨rfl, (by repeat (first | exact Below.refl _ _ | assumption | refine Below.setCell ?_ (by first | (simp; done) | (simp; omega) | omega) _ | refine Below.drew ?_ | refine below_drewN ?_ _ | refine Below.alloc ?_ (by first | (simp; done) | (simp; omega) | omega) _ | refine below_alloc ?_ _ | refine below_step ?_ (by assumption)))⟩
      · have H1 := Lib.hid h1
        have H2 := Lib.hid h2
        have H3 := Lib.hid h3
        go_enter Tryz.func40, Tryz.ntmps40
        go_wp2_with (go_at_call 41; refine (C.out _ _ _ _).mono ?_; rintro e w1 ⟨rfl, rfl⟩; first | rw [H1.out] | rw [H2.out] | rw [H3.out] | skip)
        go_ret
        exact ⟨by simp, (by repeat (first | exact Below.refl _ _ | assumption | refine Below.setCell ?_ (by first | (simp; done) | (simp; omega) | omega) _ | refine Below.drew ?_ | refine below_drewN ?_ _ | refine Below.alloc ?_ (by first | (simp; done) | (simp; omega) | omega) _ | refine below_alloc ?_ _ | refine below_step ?_ (by assumption)))⟩
set_option maxHeartbeats 400000 in
theorem metres_any (n : Int) (w : World) (h0 : 0 ≤ n) (h1 : n ≤ 200000) : Calls Tryz.prog 42 #[.int .i64 n] w fun e w' => e = .returned (.int .i64 (metV n)) ∧ w = w' := by
  have hb := metV_bd n h1
  have hm : (n + 999).tdiv 1000 = metV n := by rw [Int.tdiv_eq_ediv_of_nonneg (by omega)]; unfold metV; split <;> omega
  go_enter Tryz.func42, Tryz.ntmps42
  go_wp2
  go_ret
  first | exact ⟨rfl, rfl⟩ | exact ⟨ret_int hm, rfl⟩
theorem priceF_bd {lo hi ab co h : Int} (hr : rateB lo hi ab co = true) (hh : wi h 0 200000 = true) : 0 ≤ priceF lo hi ab co h ∧ priceF lo hi ab co h ≤ 401000000 := by
  obtain ⟨h1, h2, h3, h4⟩ := rateB_spec hr
  have h5 := wi_iff.1 hh
  have h6 := metV_bd (if hi < h then hi else h) (by split <;> omega)
  have h7 := metV_bd (h - hi) (by omega)
  have h8 := mul_bd h2 h6
  have h9 := mul_bd h3 h7
  unfold priceF; omega
set_option maxRecDepth 20000 in
set_option maxHeartbeats 4000000 in
theorem Price_any (lo hi ab co h : Int) (w : World) :
    Calls Tryz.prog 15 #[.agg #[.int .i64 lo, .int .i64 hi, .int .i64 ab, .int .i64 co], .int .i64 h] w fun e w' => e = .returned (.tuple #[.int .i64 (prV lo hi ab co h), .int .i64 (prE lo hi ab co h)]) ∧ Below w.heap.size w w' := by
  have c1 := fun W => rate_any lo hi ab co W
  have c2 := fun W => jwithin_any h 0 200000 W
  have hE : prE lo hi ab co h = if rateB lo hi ab co then (if wi h 0 200000 then 0 else 7) else 1 := rfl
  have hV : prV lo hi ab co h = if rateB lo hi ab co then (if wi h 0 200000 then priceF lo hi ab co h else 0) else 0 := rfl
  rw [hE, hV]
  clear hE hV
  cases hr : rateB lo hi ab co
  · rw [hr] at c1
    have C1 := Lib.hid c1
    clear c1 c2 hr
    go_enter Tryz.func15, Tryz.ntmps15
    go_wp2_with fail
    refine (C1.out _).mono ?_
    rintro e w1 ⟨rfl, hb⟩
    have hB_w1 : Below w.heap.size w w1 := (by repeat (first | exact Below.refl _ _ | assumption | refine Below.setCell ?_ (by first | (simp; done) | (simp; omega) | omega) _ | refine Below.drew ?_ | refine below_drewN ?_ _ | refine Below.alloc ?_ (by first | (simp; done) | (simp; omega) | omega) _ | refine below_alloc ?_ _ | refine below_step ?_ (by assumption))); have hz_w1 := hB_w1.size; clear hb
    go_wp2
    go_ret2
    exact ⟨rfl, (by repeat (first | exact Below.refl _ _ | assumption | refine Below.setCell ?_ (by first | (simp; done) | (simp; omega) | omega) _ | refine Below.drew ?_ | refine below_drewN ?_ _ | refine Below.alloc ?_ (by first | (simp; done) | (simp; omega) | omega) _ | refine below_alloc ?_ _ | refine below_step ?_ (by assumption)))⟩
  · rw [hr] at c1
    cases hh : wi h 0 200000
    · rw [hh] at c2
      have C1 := Lib.hid c1
      have C2 := Lib.hid c2
      clear c1 c2 hr hh
      go_enter Tryz.func15, Tryz.ntmps15
      go_wp2_with fail
      refine (C1.out _).mono ?_
      rintro e w1 ⟨rfl, hb⟩
      have hB_w1 : Below w.heap.size w w1 := (by repeat (first | exact Below.refl _ _ | assumption | refine Below.setCell ?_ (by first | (simp; done) | (simp; omega) | omega) _ | refine Below.drew ?_ | refine below_drewN ?_ _ | refine Below.alloc ?_ (by first | (simp; done) | (simp; omega) | omega) _ | refine below_alloc ?_ _ | refine below_step ?_ (by assumption))); have hz_w1 := hB_w1.size; clear hb
      go_wp2_with fail
      refine (C2.out _).mono ?_
      rintro e w2 ⟨rfl, rfl⟩
      go_wp2
      go_ret2
      exact ⟨rfl, (by repeat (first | exact Below.refl _ _ | assumption | refine Below.setCell ?_ (by first | (simp; done) | (simp; omega) | omega) _ | refine Below.drew ?_ | refine below_drewN ?_ _ | refine Below.alloc ?_ (by first | (simp; done) | (simp; omega) | omega) _ | refine below_alloc ?_ _ | refine below_step ?_ (by assumption)))⟩
    · rw [hh] at c2
      obtain ⟨h1, h2, h3, h4⟩ := rateB_spec hr
      have h5 := wi_iff.1 hh
      have h6 := metV_bd (if hi < h then hi else h) (by split <;> omega)
      have h7 := metV_bd (h - hi) (by omega)
      have h8 := mul_bd h2 h6
      have h9 := mul_bd h3 h7
      have hP : priceF lo hi ab co h = co + lo * metV (if hi < h then hi else h) + ab * metV (h - hi) := rfl
      simp only [if_true]
      rw [hP]
      clear hP
      rcases Int.lt_trichotomy hi h with hc | hc | hc
      · rw [if_pos hc] at *
        have c3 := fun W => metres_any hi W (by omega) (by omega)
        have c4 := fun W => metres_any (h - hi) W (by omega) (by omega)
        have hc1 : ¬ h < hi := by omega
        have hc2 : 0 < h - hi := by omega
        have hc3 : ¬ h - hi < 0 := by omega
        generalize metV hi = X at *
        generalize metV (h - hi) = Y at *
        have C1 := Lib.hid c1
        have C2 := Lib.hid c2
        have C3 := Lib.hid c3
        have C4 := Lib.hid c4
        clear c1 c2 c3 c4 hr hh
        go_enter Tryz.func15, Tryz.ntmps15
        go_wp2_with fail
        refine (C1.out _).mono ?_
        rintro e w1 ⟨rfl, hb⟩
        have hB_w1 : Below w.heap.size w w1 := (by repeat (first | exact Below.refl _ _ | assumption | refine Below.setCell ?_ (by first | (simp; done) | (simp; omega) | omega) _ | refine Below.drew ?_ | refine below_drewN ?_ _ | refine Below.alloc ?_ (by first | (simp; done) | (simp; omega) | omega) _ | refine below_alloc ?_ _ | refine below_step ?_ (by assumption))); have hz_w1 := hB_w1.size; have hsw10 : w.heap.size < w1.heap.size := Nat.lt_of_lt_of_le (by first | (simp; done) | (simp; omega) | omega) hb.size; have hnw10 : ¬ w.heap.size = w1.heap.size := (by omega); have hmw10 : ¬ w1.heap.size = w.heap.size := (by omega); have hlw10_0 : w.heap.size ≤ w1.heap.size := (by omega); have hlw10_1 : w.heap.size ≤ w1.heap.size + 1 := (by omega); have hlw10_2 : w.heap.size ≤ w1.heap.size + 1 + 1 := (by omega); have hkw10 : w1.cell? ⟨w.heap.size, 0, none⟩ = some (.int .i64 lo) := (by rw [hb.cell (p := ⟨w.heap.size, 0, none⟩) (by first | (simp; done) | (simp; omega) | omega)]; first | (go_simp; done) | assumption); have hkw11 : w1.cell? ⟨w.heap.size, 1, none⟩ = some (.int .i64 hi) := (by rw [hb.cell (p := ⟨w.heap.size, 1, none⟩) (by first | (simp; done) | (simp; omega) | omega)]; first | (go_simp; done) | assumption); have hkw12 : w1.cell? ⟨w.heap.size, 2, none⟩ = some (.int .i64 ab) := (by rw [hb.cell (p := ⟨w.heap.size, 2, none⟩) (by first | (simp; done) | (simp; omega) | omega)]; first | (go_simp; done) | assumption); have hkw13 : w1.cell? ⟨w.heap.size, 3, none⟩ = some (.int .i64 co) := (by rw [hb.cell (p := ⟨w.heap.size, 3, none⟩) (by first | (simp; done) | (simp; omega) | omega)]; first | (go_simp; done) | assumption); clear hb
        go_wp2_with fail
        refine (C2.out _).mono ?_
        rintro e w2 ⟨rfl, rfl⟩
        go_wp2_with fail
        refine wp_region_later (by kernel_rfl) (by kernel_rfl) ?_
        repeat (go_big_quiet_step (fail))
        go_big_quiet_step ((go_at_call 42; exact later_same (C3.out _)))
        repeat (go_big_quiet_step (fail))
        go_big_quiet_step ((go_at_call 42; exact later_same (C4.out _)))
        repeat (go_big_quiet_step (fail))
        refine wpQuiet_nil ?_
        intro w4 hb
        go_wp2
        go_ret2
        exact ⟨rfl, (by repeat (first | exact Below.refl _ _ | assumption | refine Below.setCell ?_ (by first | (simp; done) | (simp; omega) | omega) _ | refine Below.drew ?_ | refine below_drewN ?_ _ | refine Below.alloc ?_ (by first | (simp; done) | (simp; omega) | omega) _ | refine below_alloc ?_ _ | refine below_step ?_ (by assumption)))⟩
      · subst hc
        rw [if_neg (Int.lt_irrefl _)] at *
        rw [Int.sub_self] at *
        have c3 := fun W => metres_any hi W (by omega) (by omega)
        have c4 := fun W => metres_any 0 W (by omega) (by omega)
        generalize metV hi = X at *
        generalize metV 0 = Y at *
        have C1 := Lib.hid c1
        have C2 := Lib.hid c2
        have C3 := Lib.hid c3
        have C4 := Lib.hid c4
        clear c1 c2 c3 c4 hr hh
        go_enter Tryz.func15, Tryz.ntmps15
        go_wp2_with fail
        refine (C1.out _).mono ?_
        rintro e w1 ⟨rfl, hb⟩
        have hB_w1 : Below w.heap.size w w1 := (by repeat (first | exact Below.refl _ _ | assumption | refine Below.setCell ?_ (by first | (simp; done) | (simp; omega) | omega) _ | refine Below.drew ?_ | refine below_drewN ?_ _ | refine Below.alloc ?_ (by first | (simp; done) | (simp; omega) | omega) _ | refine below_alloc ?_ _ | refine below_step ?_ (by assumption))); have hz_w1 := hB_w1.size; have hsw10 : w.heap.size < w1.heap.size := Nat.lt_of_lt_of_le (by first | (simp; done) | (simp; omega) | omega) hb.size; have hnw10 : ¬ w.heap.size = w1.heap.size := (by omega); have hmw10 : ¬ w1.heap.size = w.heap.size := (by omega); have hlw10_0 : w.heap.size ≤ w1.heap.size := (by omega); have hlw10_1 : w.heap.size ≤ w1.heap.size + 1 := (by omega); have hlw10_2 : w.heap.size ≤ w1.heap.size + 1 + 1 := (by omega); have hkw10 : w1.cell? ⟨w.heap.size, 0, none⟩ = some (.int .i64 lo) := (by rw [hb.cell (p := ⟨w.heap.size, 0, none⟩) (by first | (simp; done) | (simp; omega) | omega)]; first | (go_simp; done) | assumption); have hkw11 : w1.cell? ⟨w.heap.size, 1, none⟩ = some (.int .i64 hi) := (by rw [hb.cell (p := ⟨w.heap.size, 1, none⟩) (by first | (simp; done) | (simp; omega) | omega)]; first | (go_simp; done) | assumption); have hkw12 : w1.cell? ⟨w.heap.size, 2, none⟩ = some (.int .i64 ab) := (by rw [hb.cell (p := ⟨w.heap.size, 2, none⟩) (by first | (simp; done) | (simp; omega) | omega)]; first | (go_simp; done) | assumption); have hkw13 : w1.cell? ⟨w.heap.size, 3, none⟩ = some (.int .i64 co) := (by rw [hb.cell (p := ⟨w.heap.size, 3, none⟩) (by first | (simp; done) | (simp; omega) | omega)]; first | (go_simp; done) | assumption); clear hb
        go_wp2_with fail
        refine (C2.out _).mono ?_
        rintro e w2 ⟨rfl, rfl⟩
        go_wp2_with fail
        refine wp_region_later (by kernel_rfl) (by kernel_rfl) ?_
        repeat (go_big_quiet_step (fail))
        go_big_quiet_step ((go_at_call 42; exact later_same (C3.out _)))
        repeat (go_big_quiet_step (fail))
        go_big_quiet_step ((go_at_call 42; exact later_same (C4.out _)))
        repeat (go_big_quiet_step (fail))
        refine wpQuiet_nil ?_
        intro w4 hb
        go_wp2
        go_ret2
        exact ⟨rfl, (by repeat (first | exact Below.refl _ _ | assumption | refine Below.setCell ?_ (by first | (simp; done) | (simp; omega) | omega) _ | refine Below.drew ?_ | refine below_drewN ?_ _ | refine Below.alloc ?_ (by first | (simp; done) | (simp; omega) | omega) _ | refine below_alloc ?_ _ | refine below_step ?_ (by assumption)))⟩
      · have hn : ¬ hi < h := by omega
        have hz : metV (h - hi) = metV 0 := by unfold metV; rw [if_pos (by omega), if_pos (by omega)]
        rw [if_neg hn] at *
        rw [hz] at h7 h9 ⊢
        clear hz
        have c3 := fun W => metres_any h W (by omega) (by omega)
        have c4 := fun W => metres_any 0 W (by omega) (by omega)
        have hc2 : ¬ 0 < h - hi := by omega
        have hc3 : h - hi < 0 := by omega
        generalize metV h = X at *
        generalize metV 0 = Y at *
        have C1 := Lib.hid c1
        have C2 := Lib.hid c2
        have C3 := Lib.hid c3
        have C4 := Lib.hid c4
        clear c1 c2 c3 c4 hr hh
        go_enter Tryz.func15, Tryz.ntmps15
        go_wp2_with fail
        refine (C1.out _).mono ?_
        rintro e w1 ⟨rfl, hb⟩
        have hB_w1 : Below w.heap.size w w1 := (by repeat (first | exact Below.refl _ _ | assumption | refine Below.setCell ?_ (by first | (simp; done) | (simp; omega) | omega) _ | refine Below.drew ?_ | refine below_drewN ?_ _ | refine Below.alloc ?_ (by first | (simp; done) | (simp; omega) | omega) _ | refine below_alloc ?_ _ | refine below_step ?_ (by assumption))); have hz_w1 := hB_w1.size; have hsw10 : w.heap.size < w1.heap.size := Nat.lt_of_lt_of_le (by first | (simp; done) | (simp; omega) | omega) hb.size; have hnw10 : ¬ w.heap.size = w1.heap.size := (by omega); have hmw10 : ¬ w1.heap.size = w.heap.size := (by omega); have hlw10_0 : w.heap.size ≤ w1.heap.size := (by omega); have hlw10_1 : w.heap.size ≤ w1.heap.size + 1 := (by omega); have hlw10_2 : w.heap.size ≤ w1.heap.size + 1 + 1 := (by omega); have hkw10 : w1.cell? ⟨w.heap.size, 0, none⟩ = some (.int .i64 lo) := (by rw [hb.cell (p := ⟨w.heap.size, 0, none⟩) (by first | (simp; done) | (simp; omega) | omega)]; first | (go_simp; done) | assumption); have hkw11 : w1.cell? ⟨w.heap.size, 1, none⟩ = some (.int .i64 hi) := (by rw [hb.cell (p := ⟨w.heap.size, 1, none⟩) (by first | (simp; done) | (simp; omega) | omega)]; first | (go_simp; done) | assumption); have hkw12 : w1.cell? ⟨w.heap.size, 2, none⟩ = some (.int .i64 ab) := (by rw [hb.cell (p := ⟨w.heap.size, 2, none⟩) (by first | (simp; done) | (simp; omega) | omega)]; first | (go_simp; done) | assumption); have hkw13 : w1.cell? ⟨w.heap.size, 3, none⟩ = some (.int .i64 co) := (by rw [hb.cell (p := ⟨w.heap.size, 3, none⟩) (by first | (simp; done) | (simp; omega) | omega)]; first | (go_simp; done) | assumption); clear hb
        go_wp2_with fail
        refine (C2.out _).mono ?_
        rintro e w2 ⟨rfl, rfl⟩
        go_wp2_with fail
        refine wp_region_later (by kernel_rfl) (by kernel_rfl) ?_
        repeat (go_big_quiet_step (fail))
        go_big_quiet_step ((go_at_call 42; exact later_same (C3.out _)))
        repeat (go_big_quiet_step (fail))
        go_big_quiet_step ((go_at_call 42; exact later_same (C4.out _)))
        repeat (go_big_quiet_step (fail))
        refine wpQuiet_nil ?_
        intro w4 hb
        go_wp2
        go_ret2
        exact ⟨rfl, (by repeat (first | exact Below.refl _ _ | assumption | refine Below.setCell ?_ (by first | (simp; done) | (simp; omega) | omega) _ | refine Below.drew ?_ | refine below_drewN ?_ _ | refine Below.alloc ?_ (by first | (simp; done) | (simp; omega) | omega) _ | refine below_alloc ?_ _ | refine below_step ?_ (by assumption)))⟩
def stE (lo hi ab co h st al : Int) : Int := if prE lo hi ab co h = 0 then (if wi al 1 1000000 then (if wi st 0 al then 0 else 7) else 7) else prE lo hi ab co h
def stF (lo hi ab co h st al : Int) : Int := (priceF lo hi ab co h * (2 * al + st)) / (2 * al)
def stV (lo hi ab co h st al : Int) : Int := if prE lo hi ab co h = 0 then (if wi al 1 1000000 then (if wi st 0 al then stF lo hi ab co h st al else 0) else 0) else 0
theorem prE_zero {lo hi ab co h : Int} (he : prE lo hi ab co h = 0) : rateB lo hi ab co = true ∧ wi h 0 200000 = true ∧ prV lo hi ab co h = priceF lo hi ab co h := by
  unfold prE at he
  unfold prV
  split at he
  · rename_i h1
    split at he
    · rename_i h2
      exact ⟨h1, h2, by rw [if_pos h1, if_pos h2]⟩
    · cases he
  · cases he
theorem priceF_mono {lo hi ab co : Int} (hr : rateB lo hi ab co = true) {h h' : Int} (hh : h ≤ h') : priceF lo hi ab co h ≤ priceF lo hi ab co h' := by
  obtain ⟨h1, h2, h3, h4⟩ := rateB_spec hr
  have h5 : metV (if hi < h then hi else h) ≤ metV (if hi < h' then hi else h') := metV_mono (by split <;> split <;> omega)
  have h6 : metV (h - hi) ≤ metV (h' - hi) := metV_mono (by omega)
  have h7 := Int.mul_le_mul_of_nonneg_left h5 h2.1
  have h8 := Int.mul_le_mul_of_nonneg_left h6 h3.1
  unfold priceF; omega
theorem stF_bd {p al st : Int} (hp : 0 ≤ p) (ha : 1 ≤ al) (hs : 0 ≤ st) (hs2 : st ≤ al) : p ≤ (p * (2 * al + st)) / (2 * al) ∧ 2 * ((p * (2 * al + st)) / (2 * al)) ≤ 3 * p := by
  have h1 : p * (2 * al) ≤ p * (2 * al + st) := Int.mul_le_mul_of_nonneg_left (by omega) hp
  have h2 : p * (2 * al + st) * 2 ≤ 3 * p * (2 * al) := by
    have h3 : p * ((2 * al + st) * 2) ≤ p * (3 * (2 * al)) := Int.mul_le_mul_of_nonneg_left (by omega) hp
    have e1 : p * (2 * al + st) * 2 = p * ((2 * al + st) * 2) := Int.mul_assoc ..
    have e2 : 3 * p * (2 * al) = p * (3 * (2 * al)) := by rw [Int.mul_comm 3 p, Int.mul_assoc]
    omega
  refine ⟨Int.le_ediv_of_mul_le (by omega) h1, ?_⟩
  have h4 := Int.ediv_mul_le (p * (2 * al + st)) (show (2 * al) ≠ 0 by omega)
  generalize (p * (2 * al + st)) / (2 * al) = q at *
  have h5 : 2 * q * (2 * al) ≤ 3 * p * (2 * al) := by
    have : 2 * q * (2 * al) = q * (2 * al) * 2 := by rw [Int.mul_comm 2 q, Int.mul_assoc, Int.mul_comm 2 (2 * al), ← Int.mul_assoc]
    omega
  exact Int.le_of_mul_le_mul_right h5 (by omega)
end Go.Proofs.YtmionebfepkolaaGreatDoor
