/- The exported functions of tackles, continued. -/
import Derived.Test.YthninhkimhnegaaTackle
set_option linter.unusedSimpArgs false
set_option linter.unusedVariables false
namespace Go.Proofs.Ythninhkimhnegaa
open Go.RowKit

set_option maxHeartbeats 1000000 in
theorem rLifted_any (p k pull : Int) (w : World) :
    Calls Try.prog 21 #[.agg #[.int .i64 p, .int .i64 k], .int .i64 pull] w fun e w' => e = .returned (.tuple #[.agg #[.int .i64 (liftedR p k pull).1, .int .i64 (liftedR p k pull).2.1], .int .i64 (liftedR p k pull).2.2]) ∧ Below w.heap.size w w' := by
  by_cases hv : valT p k = true
  · by_cases hl : okLoad pull = true
    · obtain ⟨P, rfl, h1, h2, h3, h4⟩ := valT_nat hv
      obtain ⟨h5, h6⟩ := okLoad_iff.1 hl
      have hm := sumT_mul h1 h2 h3 h4 h5 h6
      have hp := pow100_le (m := P - 1) (by omega)
      have hf' : liftedR P k pull = (lowN (sumT P k * pull) (100 ^ (P - 1)), lowD (sumT P k * pull) (100 ^ (P - 1)), 0) := by simp [liftedR, hv, hl]
      rw [hf', Int.mul_comm (sumT P k) pull]
      rw [Int.mul_comm (sumT P k) pull] at hm
      have c2 := fun W => gain_any P k W h1 h2 h3 h4
      clear hf'
      have hsum := sumT_le (m := P) h3 h4 h2 h1
      generalize sumT P k = G at *
      generalize (100 : Int) ^ (P - 1) = U at *
      have c3 := fun W => Lowest_any (pull * G) U W hp.1 (by omega) (by omega) (by omega)
      generalize lowN (pull * G) U = N at *
      generalize lowD (pull * G) U = D at *
      have C2 := Lib.hid c2
      have C3 := Lib.hid c3
      clear c2 c3
      go_enter Try.func21, Try.ntmps21
      go_wp2_with (first | (go_at_call 19; refine (rValidTackle_any _ _ _).mono ?_; rintro e w1 ⟨rfl, hb⟩; have hB_w1 : Below w.heap.size w w1 := (by repeat (first | exact Below.refl _ _ | assumption | refine Below.setCell ?_ (by first | (simp; done) | (simp; omega) | omega) _ | refine Below.drew ?_ | refine below_drewN ?_ _ | refine Below.alloc ?_ (by first | (simp; done) | (simp; omega) | omega) _ | refine below_alloc ?_ _ | refine below_step ?_ (by assumption))); have hz_w1 := hB_w1.size; have hsw10 : w.heap.size < w1.heap.size := Nat.lt_of_lt_of_le (by first | (simp; done) | (simp; omega) | omega) hb.size; have hnw10 : ¬ w.heap.size = w1.heap.size := (by omega); have hmw10 : ¬ w1.heap.size = w.heap.size := (by omega); have hlw10_0 : w.heap.size ≤ w1.heap.size := (by omega); have hlw10_1 : w.heap.size ≤ w1.heap.size + 1 := (by omega); have hlw10_2 : w.heap.size ≤ w1.heap.size + 1 + 1 := (by omega); have hkw10 : w1.cell? ⟨w.heap.size, 0, none⟩ = some (.int .i64 P) := (by rw [hb.cell (p := ⟨w.heap.size, 0, none⟩) (by first | (simp; done) | (simp; omega) | omega)]; first | (go_simp; done) | assumption); have hkw11 : w1.cell? ⟨w.heap.size, 1, none⟩ = some (.int .i64 k) := (by rw [hb.cell (p := ⟨w.heap.size, 1, none⟩) (by first | (simp; done) | (simp; omega) | omega)]; first | (go_simp; done) | assumption); have hsw12 : w.heap.size + 1 < w1.heap.size := Nat.lt_of_lt_of_le (by first | (simp; done) | (simp; omega) | omega) hb.size; have hnw12 : ¬ w.heap.size + 1 = w1.heap.size := (by omega); have hmw12 : ¬ w1.heap.size = w.heap.size + 1 := (by omega); have hlw12_0 : w.heap.size + 1 ≤ w1.heap.size := (by omega); have hlw12_1 : w.heap.size + 1 ≤ w1.heap.size + 1 := (by omega); have hlw12_2 : w.heap.size + 1 ≤ w1.heap.size + 1 + 1 := (by omega); have hkw12 : w1.cell? ⟨w.heap.size + 1, 0, none⟩ = some (.int .i64 0) := (by rw [hb.cell (p := ⟨w.heap.size + 1, 0, none⟩) (by first | (simp; done) | (simp; omega) | omega)]; first | (go_simp; done) | assumption); have hfw12 : w1.frozen? ⟨w.heap.size + 1, 0, none⟩ = false := (by rw [hb.frozen (p := ⟨w.heap.size + 1, 0, none⟩) (by first | (simp; done) | (simp; omega) | omega)]; first | (go_simp; done) | assumption); have hkw13 : w1.cell? ⟨w.heap.size + 1, 1, none⟩ = some (.int .i64 0) := (by rw [hb.cell (p := ⟨w.heap.size + 1, 1, none⟩) (by first | (simp; done) | (simp; omega) | omega)]; first | (go_simp; done) | assumption); have hfw13 : w1.frozen? ⟨w.heap.size + 1, 1, none⟩ = false := (by rw [hb.frozen (p := ⟨w.heap.size + 1, 1, none⟩) (by first | (simp; done) | (simp; omega) | omega)]; first | (go_simp; done) | assumption); clear hb) | (go_at_call 69; refine (okload_any _ _).mono ?_; rintro e w' ⟨rfl, rfl⟩) | (go_at_call 62; refine (C2.out _).mono ?_; rintro e w1 ⟨rfl, hb⟩; have hB_w1 : Below w.heap.size w w1 := (by repeat (first | exact Below.refl _ _ | assumption | refine Below.setCell ?_ (by first | (simp; done) | (simp; omega) | omega) _ | refine Below.drew ?_ | refine below_drewN ?_ _ | refine Below.alloc ?_ (by first | (simp; done) | (simp; omega) | omega) _ | refine below_alloc ?_ _ | refine below_step ?_ (by assumption))); have hz_w1 := hB_w1.size; have hsw10 : w.heap.size < w1.heap.size := Nat.lt_of_lt_of_le (by first | (simp; done) | (simp; omega) | omega) hb.size; have hnw10 : ¬ w.heap.size = w1.heap.size := (by omega); have hmw10 : ¬ w1.heap.size = w.heap.size := (by omega); have hlw10_0 : w.heap.size ≤ w1.heap.size := (by omega); have hlw10_1 : w.heap.size ≤ w1.heap.size + 1 := (by omega); have hlw10_2 : w.heap.size ≤ w1.heap.size + 1 + 1 := (by omega); have hkw10 : w1.cell? ⟨w.heap.size, 0, none⟩ = some (.int .i64 P) := (by rw [hb.cell (p := ⟨w.heap.size, 0, none⟩) (by first | (simp; done) | (simp; omega) | omega)]; first | (go_simp; done) | assumption); have hkw11 : w1.cell? ⟨w.heap.size, 1, none⟩ = some (.int .i64 k) := (by rw [hb.cell (p := ⟨w.heap.size, 1, none⟩) (by first | (simp; done) | (simp; omega) | omega)]; first | (go_simp; done) | assumption); have hsw12 : w.heap.size + 1 < w1.heap.size := Nat.lt_of_lt_of_le (by first | (simp; done) | (simp; omega) | omega) hb.size; have hnw12 : ¬ w.heap.size + 1 = w1.heap.size := (by omega); have hmw12 : ¬ w1.heap.size = w.heap.size + 1 := (by omega); have hlw12_0 : w.heap.size + 1 ≤ w1.heap.size := (by omega); have hlw12_1 : w.heap.size + 1 ≤ w1.heap.size + 1 := (by omega); have hlw12_2 : w.heap.size + 1 ≤ w1.heap.size + 1 + 1 := (by omega); have hkw12 : w1.cell? ⟨w.heap.size + 1, 0, none⟩ = some (.int .i64 0) := (by rw [hb.cell (p := ⟨w.heap.size + 1, 0, none⟩) (by first | (simp; done) | (simp; omega) | omega)]; first | (go_simp; done) | assumption); have hfw12 : w1.frozen? ⟨w.heap.size + 1, 0, none⟩ = false := (by rw [hb.frozen (p := ⟨w.heap.size + 1, 0, none⟩) (by first | (simp; done) | (simp; omega) | omega)]; first | (go_simp; done) | assumption); have hkw13 : w1.cell? ⟨w.heap.size + 1, 1, none⟩ = some (.int .i64 0) := (by rw [hb.cell (p := ⟨w.heap.size + 1, 1, none⟩) (by first | (simp; done) | (simp; omega) | omega)]; first | (go_simp; done) | assumption); have hfw13 : w1.frozen? ⟨w.heap.size + 1, 1, none⟩ = false := (by rw [hb.frozen (p := ⟨w.heap.size + 1, 1, none⟩) (by first | (simp; done) | (simp; omega) | omega)]; first | (go_simp; done) | assumption); clear hb) | (go_at_call 36; refine (C3.out _).mono ?_; rintro e w1 ⟨rfl, hb⟩; have hB_w1 : Below w.heap.size w w1 := (by repeat (first | exact Below.refl _ _ | assumption | refine Below.setCell ?_ (by first | (simp; done) | (simp; omega) | omega) _ | refine Below.drew ?_ | refine below_drewN ?_ _ | refine Below.alloc ?_ (by first | (simp; done) | (simp; omega) | omega) _ | refine below_alloc ?_ _ | refine below_step ?_ (by assumption))); have hz_w1 := hB_w1.size; have hsw10 : w.heap.size + 1 < w1.heap.size := Nat.lt_of_lt_of_le (by first | (simp; done) | (simp; omega) | omega) hb.size; have hnw10 : ¬ w.heap.size + 1 = w1.heap.size := (by omega); have hmw10 : ¬ w1.heap.size = w.heap.size + 1 := (by omega); have hlw10_0 : w.heap.size + 1 ≤ w1.heap.size := (by omega); have hlw10_1 : w.heap.size + 1 ≤ w1.heap.size + 1 := (by omega); have hlw10_2 : w.heap.size + 1 ≤ w1.heap.size + 1 + 1 := (by omega); have hkw10 : w1.cell? ⟨w.heap.size + 1, 0, none⟩ = some (.int .i64 0) := (by rw [hb.cell (p := ⟨w.heap.size + 1, 0, none⟩) (by first | (simp; done) | (simp; omega) | omega)]; first | (go_simp; done) | assumption); have hfw10 : w1.frozen? ⟨w.heap.size + 1, 0, none⟩ = false := (by rw [hb.frozen (p := ⟨w.heap.size + 1, 0, none⟩) (by first | (simp; done) | (simp; omega) | omega)]; first | (go_simp; done) | assumption); have hkw11 : w1.cell? ⟨w.heap.size + 1, 1, none⟩ = some (.int .i64 0) := (by rw [hb.cell (p := ⟨w.heap.size + 1, 1, none⟩) (by first | (simp; done) | (simp; omega) | omega)]; first | (go_simp; done) | assumption); have hfw11 : w1.frozen? ⟨w.heap.size + 1, 1, none⟩ = false := (by rw [hb.frozen (p := ⟨w.heap.size + 1, 1, none⟩) (by first | (simp; done) | (simp; omega) | omega)]; first | (go_simp; done) | assumption); clear hb))
      all_goals refine bodyPost_ret (v := .tuple #[.agg #[.int .i64 N, .int .i64 D], .int .i64 0]) (by simp [results, Try.results21, go_sem, hkw10, hkw11]) rfl ⟨rfl, (by repeat (first | exact Below.refl _ _ | assumption | refine Below.setCell ?_ (by first | (simp; done) | (simp; omega) | omega) _ | refine Below.drew ?_ | refine below_drewN ?_ _ | refine Below.alloc ?_ (by first | (simp; done) | (simp; omega) | omega) _ | refine below_alloc ?_ _ | refine below_step ?_ (by assumption)))⟩
    · have hf : liftedR p k pull = (0, 0, 7) := by simp [liftedR, hv, hl]
      rw [hf]
      go_enter Try.func21, Try.ntmps21
      go_wp2_with (first | (go_at_call 19; refine (rValidTackle_any _ _ _).mono ?_; rintro e w1 ⟨rfl, hb⟩; obtain ⟨hc, hf⟩ := bcell hb; have hlt := blt hb; have hz := hb.size; try simp at hz) | (go_at_call 69; refine (okload_any _ _).mono ?_; rintro e w' ⟨rfl, rfl⟩))
      refine bodyPost_ret (v := .tuple #[.agg #[.int .i64 0, .int .i64 0], .int .i64 7]) (by simp [results, Try.results21, go_sem, hc, hlt]) rfl ⟨rfl, (by repeat (first | exact Below.refl _ _ | assumption | refine Below.setCell ?_ (by first | (simp; done) | (simp; omega) | omega) _ | refine Below.drew ?_ | refine below_drewN ?_ _ | refine Below.alloc ?_ (by first | (simp; done) | (simp; omega) | omega) _ | refine below_alloc ?_ _ | refine below_step ?_ (by assumption)))⟩
  · have hf : liftedR p k pull = (0, 0, 1) := by simp [liftedR, hv]
    rw [hf]
    go_enter Try.func21, Try.ntmps21
    go_wp2_with (first | (go_at_call 19; refine (rValidTackle_any _ _ _).mono ?_; rintro e w1 ⟨rfl, hb⟩; obtain ⟨hc, hf⟩ := bcell hb; have hlt := blt hb; have hz := hb.size; try simp at hz) | (go_at_call 69; refine (okload_any _ _).mono ?_; rintro e w' ⟨rfl, rfl⟩))
    refine bodyPost_ret (v := .tuple #[.agg #[.int .i64 0, .int .i64 0], .int .i64 1]) (by simp [results, Try.results21, go_sem, hc]) rfl ⟨rfl, (by repeat (first | exact Below.refl _ _ | assumption | refine Below.setCell ?_ (by first | (simp; done) | (simp; omega) | omega) _ | refine Below.drew ?_ | refine below_drewN ?_ _ | refine Below.alloc ?_ (by first | (simp; done) | (simp; omega) | omega) _ | refine below_alloc ?_ _ | refine below_step ?_ (by assumption)))⟩

set_option maxHeartbeats 1000000 in
theorem Gain_any (p k : Int) (w : World) :
    Calls Try.prog 16 #[.agg #[.int .i64 p, .int .i64 k]] w fun e w' => e = .returned (.tuple #[.agg #[.int .i64 (liftedR p k 1).1, .int .i64 (liftedR p k 1).2.1], .int .i64 (liftedR p k 1).2.2]) ∧ Below w.heap.size w w' := by
  have c := fun W => Lifted_any p k 1 W
  generalize liftedR p k 1 = R at *
  have C := Lib.hid c
  clear c
  go_enter Try.func16, Try.ntmps16
  go_wp2_with (first | (go_at_call 20; refine (C.out _).mono ?_; rintro e w1 ⟨rfl, hb⟩; obtain ⟨hc, hf⟩ := bcell hb; have hlt := blt hb; have hz := hb.size; try simp at hz))
  refine bodyPost_ret (v := .tuple #[.agg #[.int .i64 R.1, .int .i64 R.2.1], .int .i64 R.2.2]) (by simp [results, Try.results16, go_sem, hc, hlt]) rfl ⟨rfl, (by repeat (first | exact Below.refl _ _ | assumption | refine Below.setCell ?_ (by first | (simp; done) | (simp; omega) | omega) _ | refine Below.drew ?_ | refine below_drewN ?_ _ | refine Below.alloc ?_ (by first | (simp; done) | (simp; omega) | omega) _ | refine below_alloc ?_ _ | refine below_step ?_ (by assumption)))⟩
theorem gainR_eq {P : Nat} {k : Int} (hv : valT P k = true) : liftedR P k 1 = (lowN (sumT P k) (100 ^ (P - 1)), lowD (sumT P k) (100 ^ (P - 1)), 0) := by
  simp [liftedR, hv, okLoad, withinB]
set_option maxHeartbeats 1000000 in
theorem rGain_any (p k : Int) (w : World) :
    Calls Try.prog 17 #[.agg #[.int .i64 p, .int .i64 k]] w fun e w' => e = .returned (.tuple #[.agg #[.int .i64 (liftedR p k 1).1, .int .i64 (liftedR p k 1).2.1], .int .i64 (liftedR p k 1).2.2]) ∧ Below w.heap.size w w' := by
  by_cases hv : valT p k = true
  · obtain ⟨P, rfl, h1, h2, h3, h4⟩ := valT_nat hv
    have hp := pow100_le (m := P - 1) (by omega)
    rw [gainR_eq hv]
    have c2 := fun W => gain_any P k W h1 h2 h3 h4
    have hsum := sumT_le (m := P) h3 h4 h2 h1
    generalize sumT P k = G at *
    generalize (100 : Int) ^ (P - 1) = U at *
    have c3 := fun W => Lowest_any G U W hp.1 (by omega) (by omega) (by omega)
    generalize lowN G U = N at *
    generalize lowD G U = D at *
    have C2 := Lib.hid c2
    have C3 := Lib.hid c3
    clear c2 c3
    go_enter Try.func17, Try.ntmps17
    go_wp2_with (first | (go_at_call 19; refine (rValidTackle_any _ _ _).mono ?_; rintro e w1 ⟨rfl, hb⟩; have hB_w1 : Below w.heap.size w w1 := (by repeat (first | exact Below.refl _ _ | assumption | refine Below.setCell ?_ (by first | (simp; done) | (simp; omega) | omega) _ | refine Below.drew ?_ | refine below_drewN ?_ _ | refine Below.alloc ?_ (by first | (simp; done) | (simp; omega) | omega) _ | refine below_alloc ?_ _ | refine below_step ?_ (by assumption))); have hz_w1 := hB_w1.size; have hsw10 : w.heap.size < w1.heap.size := Nat.lt_of_lt_of_le (by first | (simp; done) | (simp; omega) | omega) hb.size; have hnw10 : ¬ w.heap.size = w1.heap.size := (by omega); have hmw10 : ¬ w1.heap.size = w.heap.size := (by omega); have hlw10_0 : w.heap.size ≤ w1.heap.size := (by omega); have hlw10_1 : w.heap.size ≤ w1.heap.size + 1 := (by omega); have hlw10_2 : w.heap.size ≤ w1.heap.size + 1 + 1 := (by omega); have hkw10 : w1.cell? ⟨w.heap.size, 0, none⟩ = some (.int .i64 P) := (by rw [hb.cell (p := ⟨w.heap.size, 0, none⟩) (by first | (simp; done) | (simp; omega) | omega)]; first | (go_simp; done) | assumption); have hkw11 : w1.cell? ⟨w.heap.size, 1, none⟩ = some (.int .i64 k) := (by rw [hb.cell (p := ⟨w.heap.size, 1, none⟩) (by first | (simp; done) | (simp; omega) | omega)]; first | (go_simp; done) | assumption); have hsw12 : w.heap.size + 1 < w1.heap.size := Nat.lt_of_lt_of_le (by first | (simp; done) | (simp; omega) | omega) hb.size; have hnw12 : ¬ w.heap.size + 1 = w1.heap.size := (by omega); have hmw12 : ¬ w1.heap.size = w.heap.size + 1 := (by omega); have hlw12_0 : w.heap.size + 1 ≤ w1.heap.size := (by omega); have hlw12_1 : w.heap.size + 1 ≤ w1.heap.size + 1 := (by omega); have hlw12_2 : w.heap.size + 1 ≤ w1.heap.size + 1 + 1 := (by omega); have hkw12 : w1.cell? ⟨w.heap.size + 1, 0, none⟩ = some (.int .i64 0) := (by rw [hb.cell (p := ⟨w.heap.size + 1, 0, none⟩) (by first | (simp; done) | (simp; omega) | omega)]; first | (go_simp; done) | assumption); have hfw12 : w1.frozen? ⟨w.heap.size + 1, 0, none⟩ = false := (by rw [hb.frozen (p := ⟨w.heap.size + 1, 0, none⟩) (by first | (simp; done) | (simp; omega) | omega)]; first | (go_simp; done) | assumption); have hkw13 : w1.cell? ⟨w.heap.size + 1, 1, none⟩ = some (.int .i64 0) := (by rw [hb.cell (p := ⟨w.heap.size + 1, 1, none⟩) (by first | (simp; done) | (simp; omega) | omega)]; first | (go_simp; done) | assumption); have hfw13 : w1.frozen? ⟨w.heap.size + 1, 1, none⟩ = false := (by rw [hb.frozen (p := ⟨w.heap.size + 1, 1, none⟩) (by first | (simp; done) | (simp; omega) | omega)]; first | (go_simp; done) | assumption); clear hb) | (go_at_call 62; refine (C2.out _).mono ?_; rintro e w1 ⟨rfl, hb⟩; have hB_w1 : Below w.heap.size w w1 := (by repeat (first | exact Below.refl _ _ | assumption | refine Below.setCell ?_ (by first | (simp; done) | (simp; omega) | omega) _ | refine Below.drew ?_ | refine below_drewN ?_ _ | refine Below.alloc ?_ (by first | (simp; done) | (simp; omega) | omega) _ | refine below_alloc ?_ _ | refine below_step ?_ (by assumption))); have hz_w1 := hB_w1.size; have hsw10 : w.heap.size < w1.heap.size := Nat.lt_of_lt_of_le (by first | (simp; done) | (simp; omega) | omega) hb.size; have hnw10 : ¬ w.heap.size = w1.heap.size := (by omega); have hmw10 : ¬ w1.heap.size = w.heap.size := (by omega); have hlw10_0 : w.heap.size ≤ w1.heap.size := (by omega); have hlw10_1 : w.heap.size ≤ w1.heap.size + 1 := (by omega); have hlw10_2 : w.heap.size ≤ w1.heap.size + 1 + 1 := (by omega); have hkw10 : w1.cell? ⟨w.heap.size, 0, none⟩ = some (.int .i64 P) := (by rw [hb.cell (p := ⟨w.heap.size, 0, none⟩) (by first | (simp; done) | (simp; omega) | omega)]; first | (go_simp; done) | assumption); have hkw11 : w1.cell? ⟨w.heap.size, 1, none⟩ = some (.int .i64 k) := (by rw [hb.cell (p := ⟨w.heap.size, 1, none⟩) (by first | (simp; done) | (simp; omega) | omega)]; first | (go_simp; done) | assumption); have hsw12 : w.heap.size + 1 < w1.heap.size := Nat.lt_of_lt_of_le (by first | (simp; done) | (simp; omega) | omega) hb.size; have hnw12 : ¬ w.heap.size + 1 = w1.heap.size := (by omega); have hmw12 : ¬ w1.heap.size = w.heap.size + 1 := (by omega); have hlw12_0 : w.heap.size + 1 ≤ w1.heap.size := (by omega); have hlw12_1 : w.heap.size + 1 ≤ w1.heap.size + 1 := (by omega); have hlw12_2 : w.heap.size + 1 ≤ w1.heap.size + 1 + 1 := (by omega); have hkw12 : w1.cell? ⟨w.heap.size + 1, 0, none⟩ = some (.int .i64 0) := (by rw [hb.cell (p := ⟨w.heap.size + 1, 0, none⟩) (by first | (simp; done) | (simp; omega) | omega)]; first | (go_simp; done) | assumption); have hfw12 : w1.frozen? ⟨w.heap.size + 1, 0, none⟩ = false := (by rw [hb.frozen (p := ⟨w.heap.size + 1, 0, none⟩) (by first | (simp; done) | (simp; omega) | omega)]; first | (go_simp; done) | assumption); have hkw13 : w1.cell? ⟨w.heap.size + 1, 1, none⟩ = some (.int .i64 0) := (by rw [hb.cell (p := ⟨w.heap.size + 1, 1, none⟩) (by first | (simp; done) | (simp; omega) | omega)]; first | (go_simp; done) | assumption); have hfw13 : w1.frozen? ⟨w.heap.size + 1, 1, none⟩ = false := (by rw [hb.frozen (p := ⟨w.heap.size + 1, 1, none⟩) (by first | (simp; done) | (simp; omega) | omega)]; first | (go_simp; done) | assumption); clear hb) | (go_at_call 36; refine (C3.out _).mono ?_; rintro e w1 ⟨rfl, hb⟩; have hB_w1 : Below w.heap.size w w1 := (by repeat (first | exact Below.refl _ _ | assumption | refine Below.setCell ?_ (by first | (simp; done) | (simp; omega) | omega) _ | refine Below.drew ?_ | refine below_drewN ?_ _ | refine Below.alloc ?_ (by first | (simp; done) | (simp; omega) | omega) _ | refine below_alloc ?_ _ | refine below_step ?_ (by assumption))); have hz_w1 := hB_w1.size; have hsw10 : w.heap.size + 1 < w1.heap.size := Nat.lt_of_lt_of_le (by first | (simp; done) | (simp; omega) | omega) hb.size; have hnw10 : ¬ w.heap.size + 1 = w1.heap.size := (by omega); have hmw10 : ¬ w1.heap.size = w.heap.size + 1 := (by omega); have hlw10_0 : w.heap.size + 1 ≤ w1.heap.size := (by omega); have hlw10_1 : w.heap.size + 1 ≤ w1.heap.size + 1 := (by omega); have hlw10_2 : w.heap.size + 1 ≤ w1.heap.size + 1 + 1 := (by omega); have hkw10 : w1.cell? ⟨w.heap.size + 1, 0, none⟩ = some (.int .i64 0) := (by rw [hb.cell (p := ⟨w.heap.size + 1, 0, none⟩) (by first | (simp; done) | (simp; omega) | omega)]; first | (go_simp; done) | assumption); have hfw10 : w1.frozen? ⟨w.heap.size + 1, 0, none⟩ = false := (by rw [hb.frozen (p := ⟨w.heap.size + 1, 0, none⟩) (by first | (simp; done) | (simp; omega) | omega)]; first | (go_simp; done) | assumption); have hkw11 : w1.cell? ⟨w.heap.size + 1, 1, none⟩ = some (.int .i64 0) := (by rw [hb.cell (p := ⟨w.heap.size + 1, 1, none⟩) (by first | (simp; done) | (simp; omega) | omega)]; first | (go_simp; done) | assumption); have hfw11 : w1.frozen? ⟨w.heap.size + 1, 1, none⟩ = false := (by rw [hb.frozen (p := ⟨w.heap.size + 1, 1, none⟩) (by first | (simp; done) | (simp; omega) | omega)]; first | (go_simp; done) | assumption); clear hb))
    refine bodyPost_ret (v := .tuple #[.agg #[.int .i64 N, .int .i64 D], .int .i64 0]) (by simp [results, Try.results17, go_sem, hkw10, hkw11]) rfl ⟨rfl, (by repeat (first | exact Below.refl _ _ | assumption | refine Below.setCell ?_ (by first | (simp; done) | (simp; omega) | omega) _ | refine Below.drew ?_ | refine below_drewN ?_ _ | refine Below.alloc ?_ (by first | (simp; done) | (simp; omega) | omega) _ | refine below_alloc ?_ _ | refine below_step ?_ (by assumption)))⟩
  · have hf : liftedR p k 1 = (0, 0, 1) := by simp [liftedR, hv]
    rw [hf]
    go_enter Try.func17, Try.ntmps17
    go_wp2_with (first | (go_at_call 19; refine (rValidTackle_any _ _ _).mono ?_; rintro e w1 ⟨rfl, hb⟩; obtain ⟨hc, hf⟩ := bcell hb; have hlt := blt hb; have hz := hb.size; try simp at hz))
    refine bodyPost_ret (v := .tuple #[.agg #[.int .i64 0, .int .i64 0], .int .i64 1]) (by simp [results, Try.results17, go_sem, hc]) rfl ⟨rfl, (by repeat (first | exact Below.refl _ _ | assumption | refine Below.setCell ?_ (by first | (simp; done) | (simp; omega) | omega) _ | refine Below.drew ?_ | refine below_drewN ?_ _ | refine Below.alloc ?_ (by first | (simp; done) | (simp; omega) | omega) _ | refine below_alloc ?_ _ | refine below_step ?_ (by assumption)))⟩

set_option maxHeartbeats 400000 in
theorem Hauled_any (p k h : Int) (w : World) :
    Calls Try.prog 24 #[.agg #[.int .i64 p, .int .i64 k], .int .i64 h] w fun e w' => e = .returned (.tuple #[.int .i64 (hauledR p k h).1, .int .i64 (hauledR p k h).2]) ∧ Below w.heap.size w w' := by
  by_cases hv : valT p k = true
  · have hbd := valT_bd hv
    by_cases hh : withinB h 0 200000 = true
    · have hbh := withinB_iff.1 hh
      have g1 : 0 ≤ p * h := Int.mul_nonneg (by omega) hbh.1
      have g2 : p * h ≤ 6 * h := Int.mul_le_mul_of_nonneg_right hbd.1.2 hbh.1
      go_enter Try.func24, Try.ntmps24
      go_wp2_with (first | (go_at_call 18; refine (ValidTackle_any _ _ _).mono ?_; rintro e w1 ⟨rfl, hb⟩; obtain ⟨hc, hf⟩ := bcell hb; have hlt := blt hb; have hz := hb.size; try simp at hz) | (go_at_call 63; refine (within_any _ _ _ _).mono ?_; rintro e w' ⟨rfl, rfl⟩))
      go_ret2
      exact ⟨ret1 (by simp [hauledR, hv, hh]), (by repeat (first | exact Below.refl _ _ | assumption | refine Below.setCell ?_ (by first | (simp; done) | (simp; omega) | omega) _ | refine Below.drew ?_ | refine below_drewN ?_ _ | refine Below.alloc ?_ (by first | (simp; done) | (simp; omega) | omega) _ | refine below_alloc ?_ _ | refine below_step ?_ (by assumption)))⟩
    · go_enter Try.func24, Try.ntmps24
      go_wp2_with (first | (go_at_call 18; refine (ValidTackle_any _ _ _).mono ?_; rintro e w1 ⟨rfl, hb⟩; obtain ⟨hc, hf⟩ := bcell hb; have hlt := blt hb; have hz := hb.size; try simp at hz) | (go_at_call 63; refine (within_any _ _ _ _).mono ?_; rintro e w' ⟨rfl, rfl⟩))
      go_ret2
      exact ⟨ret1 (by simp [hauledR, hv, hh]), (by repeat (first | exact Below.refl _ _ | assumption | refine Below.setCell ?_ (by first | (simp; done) | (simp; omega) | omega) _ | refine Below.drew ?_ | refine below_drewN ?_ _ | refine Below.alloc ?_ (by first | (simp; done) | (simp; omega) | omega) _ | refine below_alloc ?_ _ | refine below_step ?_ (by assumption)))⟩
  · go_enter Try.func24, Try.ntmps24
    go_wp2_with (first | (go_at_call 18; refine (ValidTackle_any _ _ _).mono ?_; rintro e w1 ⟨rfl, hb⟩; obtain ⟨hc, hf⟩ := bcell hb; have hlt := blt hb; have hz := hb.size; try simp at hz) | (go_at_call 63; refine (within_any _ _ _ _).mono ?_; rintro e w' ⟨rfl, rfl⟩))
    go_ret2
    exact ⟨ret1 (by simp [hauledR, hv]), (by repeat (first | exact Below.refl _ _ | assumption | refine Below.setCell ?_ (by first | (simp; done) | (simp; omega) | omega) _ | refine Below.drew ?_ | refine below_drewN ?_ _ | refine Below.alloc ?_ (by first | (simp; done) | (simp; omega) | omega) _ | refine below_alloc ?_ _ | refine below_step ?_ (by assumption)))⟩

/-- A quotient rounded up. -/
def ceilq (a b : Int) : Int := -((-a) / b)
theorem ceilq_eq {a b : Int} (hb : 1 ≤ b) : (a + b - 1) / b = ceilq a b := by
  unfold ceilq
  have h1 := Int.ediv_mul_add_emod (-a) b
  have h2 := Int.emod_nonneg (-a) (show b ≠ 0 by omega)
  have h3 := Int.emod_lt_of_pos (-a) (show 0 < b by omega)
  generalize (-a) / b = q at *
  refine (Int.ediv_eq_iff_of_pos (by omega)).2 ?_
  rw [Int.neg_mul]
  omega
def pullR (p k load : Int) : Int × Int :=
  if valT p k then (if okLoad load then (ceilq (load * 100 ^ (p.toNat - 1)) (sumT p.toNat k), 0) else (0, 7)) else (0, 1)
theorem ceilq_bd {a b : Int} (ha : 0 ≤ a) (hb : 1 ≤ b) : 0 ≤ ceilq a b ∧ ceilq a b ≤ a := by
  rw [← ceilq_eq hb]
  refine ⟨Int.ediv_nonneg (by omega) (by omega), ?_⟩
  rcases Int.lt_or_le 0 a with h | h
  · have h1 : (b - 1) * 1 ≤ (b - 1) * a := Int.mul_le_mul_of_nonneg_left (by omega) (by omega)
    have h2 : a + b - 1 ≤ a * b := by simp only [Int.sub_mul, Int.one_mul, Int.mul_one] at h1; rw [Int.mul_comm a b]; omega
    exact Int.ediv_le_of_le_mul (by omega) h2
  · have : a = 0 := by omega
    subst this
    rw [Int.ediv_eq_zero_of_lt (by omega) (by omega)]
    omega
set_option maxHeartbeats 1000000 in
theorem Pull_any (p k load : Int) (w : World) :
    Calls Try.prog 22 #[.agg #[.int .i64 p, .int .i64 k], .int .i64 load] w fun e w' => e = .returned (.tuple #[.int .i64 (pullR p k load).1, .int .i64 (pullR p k load).2]) ∧ Below w.heap.size w w' := by
  by_cases hv : valT p k = true
  · by_cases hl : okLoad load = true
    · obtain ⟨P, rfl, h1, h2, h3, h4⟩ := valT_nat hv
      obtain ⟨h5, h6⟩ := okLoad_iff.1 hl
      have hp := pow100_le (m := P - 1) (by omega)
      have hsum := sumT_le (m := P) h3 h4 h2 h1
      have hf' : pullR P k load = (ceilq (load * 100 ^ (P - 1)) (sumT P k), 0) := by simp [pullR, hv, hl]
      rw [hf', ← ceilq_eq hsum.1]
      have c1 := fun W => lifted_any P k 1 W h1 h2 h3 h4 (by omega) (by omega)
      have c2 := fun W => unit_any P k W h1 h2
      simp only [Int.mul_one] at c1
      clear hf'
      generalize sumT P k = G at *
      generalize (100 : Int) ^ (P - 1) = U at *
      have hm := load_mul h5 h6 hp.1 hp.2
      have C1 := Lib.hid c1
      have C2 := Lib.hid c2
      clear c1 c2
      go_enter Try.func22, Try.ntmps22
      go_wp2_with (first | (go_at_call 18; refine (ValidTackle_any _ _ _).mono ?_; rintro e w1 ⟨rfl, hb⟩; have hB_w1 : Below w.heap.size w w1 := (by repeat (first | exact Below.refl _ _ | assumption | refine Below.setCell ?_ (by first | (simp; done) | (simp; omega) | omega) _ | refine Below.drew ?_ | refine below_drewN ?_ _ | refine Below.alloc ?_ (by first | (simp; done) | (simp; omega) | omega) _ | refine below_alloc ?_ _ | refine below_step ?_ (by assumption))); have hz_w1 := hB_w1.size; have hsw10 : w.heap.size < w1.heap.size := Nat.lt_of_lt_of_le (by first | (simp; done) | (simp; omega) | omega) hb.size; have hnw10 : ¬ w.heap.size = w1.heap.size := (by omega); have hmw10 : ¬ w1.heap.size = w.heap.size := (by omega); have hlw10_0 : w.heap.size ≤ w1.heap.size := (by omega); have hlw10_1 : w.heap.size ≤ w1.heap.size + 1 := (by omega); have hlw10_2 : w.heap.size ≤ w1.heap.size + 1 + 1 := (by omega); have hkw10 : w1.cell? ⟨w.heap.size, 0, none⟩ = some (.int .i64 P) := (by rw [hb.cell (p := ⟨w.heap.size, 0, none⟩) (by first | (simp; done) | (simp; omega) | omega)]; first | (go_simp; done) | assumption); have hkw11 : w1.cell? ⟨w.heap.size, 1, none⟩ = some (.int .i64 k) := (by rw [hb.cell (p := ⟨w.heap.size, 1, none⟩) (by first | (simp; done) | (simp; omega) | omega)]; first | (go_simp; done) | assumption); clear hb) | (go_at_call 65; refine (loads1_any _ _ _).mono ?_; rintro e w' ⟨rfl, rfl⟩) | (go_at_call 67; refine (C1.out _).mono ?_; rintro e w1 ⟨rfl, hb⟩; have hB_w1 : Below w.heap.size w w1 := (by repeat (first | exact Below.refl _ _ | assumption | refine Below.setCell ?_ (by first | (simp; done) | (simp; omega) | omega) _ | refine Below.drew ?_ | refine below_drewN ?_ _ | refine Below.alloc ?_ (by first | (simp; done) | (simp; omega) | omega) _ | refine below_alloc ?_ _ | refine below_step ?_ (by assumption))); have hz_w1 := hB_w1.size; have hsw10 : w.heap.size < w1.heap.size := Nat.lt_of_lt_of_le (by first | (simp; done) | (simp; omega) | omega) hb.size; have hnw10 : ¬ w.heap.size = w1.heap.size := (by omega); have hmw10 : ¬ w1.heap.size = w.heap.size := (by omega); have hlw10_0 : w.heap.size ≤ w1.heap.size := (by omega); have hlw10_1 : w.heap.size ≤ w1.heap.size + 1 := (by omega); have hlw10_2 : w.heap.size ≤ w1.heap.size + 1 + 1 := (by omega); have hkw10 : w1.cell? ⟨w.heap.size, 0, none⟩ = some (.int .i64 P) := (by rw [hb.cell (p := ⟨w.heap.size, 0, none⟩) (by first | (simp; done) | (simp; omega) | omega)]; first | (go_simp; done) | assumption); have hkw11 : w1.cell? ⟨w.heap.size, 1, none⟩ = some (.int .i64 k) := (by rw [hb.cell (p := ⟨w.heap.size, 1, none⟩) (by first | (simp; done) | (simp; omega) | omega)]; first | (go_simp; done) | assumption); clear hb) | (go_at_call 68; refine (C2.out _).mono ?_; rintro e w1 ⟨rfl, hb⟩; have hB_w1 : Below w.heap.size w w1 := (by repeat (first | exact Below.refl _ _ | assumption | refine Below.setCell ?_ (by first | (simp; done) | (simp; omega) | omega) _ | refine Below.drew ?_ | refine below_drewN ?_ _ | refine Below.alloc ?_ (by first | (simp; done) | (simp; omega) | omega) _ | refine below_alloc ?_ _ | refine below_step ?_ (by assumption))); have hz_w1 := hB_w1.size; have hsw10 : w.heap.size < w1.heap.size := Nat.lt_of_lt_of_le (by first | (simp; done) | (simp; omega) | omega) hb.size; have hnw10 : ¬ w.heap.size = w1.heap.size := (by omega); have hmw10 : ¬ w1.heap.size = w.heap.size := (by omega); have hlw10_0 : w.heap.size ≤ w1.heap.size := (by omega); have hlw10_1 : w.heap.size ≤ w1.heap.size + 1 := (by omega); have hlw10_2 : w.heap.size ≤ w1.heap.size + 1 + 1 := (by omega); have hkw10 : w1.cell? ⟨w.heap.size, 0, none⟩ = some (.int .i64 P) := (by rw [hb.cell (p := ⟨w.heap.size, 0, none⟩) (by first | (simp; done) | (simp; omega) | omega)]; first | (go_simp; done) | assumption); have hkw11 : w1.cell? ⟨w.heap.size, 1, none⟩ = some (.int .i64 k) := (by rw [hb.cell (p := ⟨w.heap.size, 1, none⟩) (by first | (simp; done) | (simp; omega) | omega)]; first | (go_simp; done) | assumption); clear hb))
      go_ret2
      exact ⟨rfl, (by repeat (first | exact Below.refl _ _ | assumption | refine Below.setCell ?_ (by first | (simp; done) | (simp; omega) | omega) _ | refine Below.drew ?_ | refine below_drewN ?_ _ | refine Below.alloc ?_ (by first | (simp; done) | (simp; omega) | omega) _ | refine below_alloc ?_ _ | refine below_step ?_ (by assumption)))⟩
    · have hf : pullR p k load = (0, 7) := by simp [pullR, hv, hl]
      rw [hf]
      go_enter Try.func22, Try.ntmps22
      go_wp2_with (first | (go_at_call 18; refine (ValidTackle_any _ _ _).mono ?_; rintro e w1 ⟨rfl, hb⟩; obtain ⟨hc, hf⟩ := bcell hb; have hlt := blt hb; have hz := hb.size; try simp at hz) | (go_at_call 65; refine (loads1_any _ _ _).mono ?_; rintro e w' ⟨rfl, rfl⟩))
      go_ret2
      exact ⟨rfl, (by repeat (first | exact Below.refl _ _ | assumption | refine Below.setCell ?_ (by first | (simp; done) | (simp; omega) | omega) _ | refine Below.drew ?_ | refine below_drewN ?_ _ | refine Below.alloc ?_ (by first | (simp; done) | (simp; omega) | omega) _ | refine below_alloc ?_ _ | refine below_step ?_ (by assumption)))⟩
  · have hf : pullR p k load = (0, 1) := by simp [pullR, hv]
    rw [hf]
    go_enter Try.func22, Try.ntmps22
    go_wp2_with (first | (go_at_call 18; refine (ValidTackle_any _ _ _).mono ?_; rintro e w1 ⟨rfl, hb⟩; obtain ⟨hc, hf⟩ := bcell hb; have hlt := blt hb; have hz := hb.size; try simp at hz) | (go_at_call 65; refine (loads1_any _ _ _).mono ?_; rintro e w' ⟨rfl, rfl⟩))
    go_ret2
    exact ⟨rfl, (by repeat (first | exact Below.refl _ _ | assumption | refine Below.setCell ?_ (by first | (simp; done) | (simp; omega) | omega) _ | refine Below.drew ?_ | refine below_drewN ?_ _ | refine Below.alloc ?_ (by first | (simp; done) | (simp; omega) | omega) _ | refine below_alloc ?_ _ | refine below_step ?_ (by assumption)))⟩
set_option maxHeartbeats 1000000 in
theorem rPull_any (p k load : Int) (w : World) :
    Calls Try.prog 23 #[.agg #[.int .i64 p, .int .i64 k], .int .i64 load] w fun e w' => e = .returned (.tuple #[.int .i64 (pullR p k load).1, .int .i64 (pullR p k load).2]) ∧ Below w.heap.size w w' := by
  by_cases hv : valT p k = true
  · by_cases hl : okLoad load = true
    · obtain ⟨P, rfl, h1, h2, h3, h4⟩ := valT_nat hv
      obtain ⟨h5, h6⟩ := okLoad_iff.1 hl
      have hp := pow100_le (m := P - 1) (by omega)
      have hsum := sumT_le (m := P) h3 h4 h2 h1
      have hf' : pullR P k load = (ceilq (load * 100 ^ (P - 1)) (sumT P k), 0) := by simp [pullR, hv, hl]
      rw [hf']
      have c2 := fun W => gain_any P k W h1 h2 h3 h4
      clear hf'
      generalize sumT P k = G at *
      generalize (100 : Int) ^ (P - 1) = U at *
      have hm := load_mul h5 h6 hp.1 hp.2
      have hm' : -load * U = -(load * U) := Int.neg_mul ..
      have c1 := fun W => Floor_any (-(load * U)) G W hsum.1 (by omega) (by omega) (by omega)
      have hq := ceilq_bd hm.1 hsum.1
      have hq' : Hid (-(-(load * U) / G) = ceilq (load * U) G) := rfl
      have hq2 : -(load * U) / G = - ceilq (load * U) G := by unfold ceilq; omega
      rw [hq2] at c1
      generalize ceilq (load * U) G = R at *
      clear hq' hq2
      have C1 := Lib.hid c1
      have C2 := Lib.hid c2
      clear c1 c2
      go_enter Try.func23, Try.ntmps23
      go_wp2_with (first | (go_at_call 19; refine (rValidTackle_any _ _ _).mono ?_; rintro e w1 ⟨rfl, hb⟩; have hB_w1 : Below w.heap.size w w1 := (by repeat (first | exact Below.refl _ _ | assumption | refine Below.setCell ?_ (by first | (simp; done) | (simp; omega) | omega) _ | refine Below.drew ?_ | refine below_drewN ?_ _ | refine Below.alloc ?_ (by first | (simp; done) | (simp; omega) | omega) _ | refine below_alloc ?_ _ | refine below_step ?_ (by assumption))); have hz_w1 := hB_w1.size; have hsw10 : w.heap.size < w1.heap.size := Nat.lt_of_lt_of_le (by first | (simp; done) | (simp; omega) | omega) hb.size; have hnw10 : ¬ w.heap.size = w1.heap.size := (by omega); have hmw10 : ¬ w1.heap.size = w.heap.size := (by omega); have hlw10_0 : w.heap.size ≤ w1.heap.size := (by omega); have hlw10_1 : w.heap.size ≤ w1.heap.size + 1 := (by omega); have hlw10_2 : w.heap.size ≤ w1.heap.size + 1 + 1 := (by omega); have hkw10 : w1.cell? ⟨w.heap.size, 0, none⟩ = some (.int .i64 P) := (by rw [hb.cell (p := ⟨w.heap.size, 0, none⟩) (by first | (simp; done) | (simp; omega) | omega)]; first | (go_simp; done) | assumption); have hkw11 : w1.cell? ⟨w.heap.size, 1, none⟩ = some (.int .i64 k) := (by rw [hb.cell (p := ⟨w.heap.size, 1, none⟩) (by first | (simp; done) | (simp; omega) | omega)]; first | (go_simp; done) | assumption); clear hb) | (go_at_call 69; refine (okload_any _ _).mono ?_; rintro e w' ⟨rfl, rfl⟩) | (go_at_call 62; refine (C2.out _).mono ?_; rintro e w1 ⟨rfl, hb⟩; have hB_w1 : Below w.heap.size w w1 := (by repeat (first | exact Below.refl _ _ | assumption | refine Below.setCell ?_ (by first | (simp; done) | (simp; omega) | omega) _ | refine Below.drew ?_ | refine below_drewN ?_ _ | refine Below.alloc ?_ (by first | (simp; done) | (simp; omega) | omega) _ | refine below_alloc ?_ _ | refine below_step ?_ (by assumption))); have hz_w1 := hB_w1.size; have hsw10 : w.heap.size < w1.heap.size := Nat.lt_of_lt_of_le (by first | (simp; done) | (simp; omega) | omega) hb.size; have hnw10 : ¬ w.heap.size = w1.heap.size := (by omega); have hmw10 : ¬ w1.heap.size = w.heap.size := (by omega); have hlw10_0 : w.heap.size ≤ w1.heap.size := (by omega); have hlw10_1 : w.heap.size ≤ w1.heap.size + 1 := (by omega); have hlw10_2 : w.heap.size ≤ w1.heap.size + 1 + 1 := (by omega); have hkw10 : w1.cell? ⟨w.heap.size, 0, none⟩ = some (.int .i64 P) := (by rw [hb.cell (p := ⟨w.heap.size, 0, none⟩) (by first | (simp; done) | (simp; omega) | omega)]; first | (go_simp; done) | assumption); have hkw11 : w1.cell? ⟨w.heap.size, 1, none⟩ = some (.int .i64 k) := (by rw [hb.cell (p := ⟨w.heap.size, 1, none⟩) (by first | (simp; done) | (simp; omega) | omega)]; first | (go_simp; done) | assumption); clear hb) | (go_at_call 70; refine (C1.out _).mono ?_; rintro e w1 ⟨rfl, rfl⟩))
      go_ret2
      exact ⟨ret1 (by simp), (by repeat (first | exact Below.refl _ _ | assumption | refine Below.setCell ?_ (by first | (simp; done) | (simp; omega) | omega) _ | refine Below.drew ?_ | refine below_drewN ?_ _ | refine Below.alloc ?_ (by first | (simp; done) | (simp; omega) | omega) _ | refine below_alloc ?_ _ | refine below_step ?_ (by assumption)))⟩
    · have hf : pullR p k load = (0, 7) := by simp [pullR, hv, hl]
      rw [hf]
      go_enter Try.func23, Try.ntmps23
      go_wp2_with (first | (go_at_call 19; refine (rValidTackle_any _ _ _).mono ?_; rintro e w1 ⟨rfl, hb⟩; obtain ⟨hc, hf⟩ := bcell hb; have hlt := blt hb; have hz := hb.size; try simp at hz) | (go_at_call 69; refine (okload_any _ _).mono ?_; rintro e w' ⟨rfl, rfl⟩))
      go_ret2
      exact ⟨rfl, (by repeat (first | exact Below.refl _ _ | assumption | refine Below.setCell ?_ (by first | (simp; done) | (simp; omega) | omega) _ | refine Below.drew ?_ | refine below_drewN ?_ _ | refine Below.alloc ?_ (by first | (simp; done) | (simp; omega) | omega) _ | refine below_alloc ?_ _ | refine below_step ?_ (by assumption)))⟩
  · have hf : pullR p k load = (0, 1) := by simp [pullR, hv]
    rw [hf]
    go_enter Try.func23, Try.ntmps23
    go_wp2_with (first | (go_at_call 19; refine (rValidTackle_any _ _ _).mono ?_; rintro e w1 ⟨rfl, hb⟩; obtain ⟨hc, hf⟩ := bcell hb; have hlt := blt hb; have hz := hb.size; try simp at hz) | (go_at_call 69; refine (okload_any _ _).mono ?_; rintro e w' ⟨rfl, rfl⟩))
    go_ret2
    exact ⟨rfl, (by repeat (first | exact Below.refl _ _ | assumption | refine Below.setCell ?_ (by first | (simp; done) | (simp; omega) | omega) _ | refine Below.drew ?_ | refine below_drewN ?_ _ | refine Below.alloc ?_ (by first | (simp; done) | (simp; omega) | omega) _ | refine below_alloc ?_ _ | refine below_step ?_ (by assumption)))⟩
end Go.Proofs.Ythninhkimhnegaa
