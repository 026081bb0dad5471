/- The exported functions of tackles, continued. -/
import Derived.Test.YtolamhjbpdjgeaaDoorTackle
set_option linter.unusedSimpArgs false
set_option linter.unusedVariables false
namespace Go.Proofs.YtolamhjbpdjgeaaDoor
open Go.RowKit

set_option maxHeartbeats 1000000 in
theorem Gain_any (p k : Int) (w : World) :
    Calls Tryd.prog 11 #[.agg #[.int .i64 p, .int .i64 k]] w fun e w' => e = .returned (.tuple #[.agg #[.int .i64 (liftedR p k 1).1, .int .i64 (liftedR p k 1).2.1], .int .i64 (liftedR p k 1).2.2]) ∧ Below w.heap.size w w' := by
  have c := fun W => Lifted_any p k 1 W
  generalize liftedR p k 1 = R at *
  have C := Lib.hid c
  clear c
  go_enter Tryd.func11, Tryd.ntmps11
  go_wp2_with (first | (go_at_call 22; refine (C.out _).mono ?_; rintro e w1 ⟨rfl, hb⟩; obtain ⟨hc, hf⟩ := bcell hb; have hlt := blt hb; have hz := hb.size; try simp at hz))
  refine bodyPost_ret (v := .tuple #[.agg #[.int .i64 R.1, .int .i64 R.2.1], .int .i64 R.2.2]) (by simp [results, Tryd.results11, go_sem, hc, hlt]) rfl ⟨rfl, (by repeat (first | exact Below.refl _ _ | assumption | refine Below.setCell ?_ (by first | (simp; done) | (simp; omega) | omega) _ | refine Below.drew ?_ | refine below_drewN ?_ _ | refine Below.alloc ?_ (by first | (simp; done) | (simp; omega) | omega) _ | refine below_alloc ?_ _ | refine below_step ?_ (by assumption)))⟩
theorem gainR_eq {P : Nat} {k : Int} (hv : valT P k = true) : liftedR P k 1 = (lowN (sumT P k) (100 ^ (P - 1)), lowD (sumT P k) (100 ^ (P - 1)), 0) := by
  simp [liftedR, hv, okLoad, withinB]
/-- A quotient rounded up. -/
def ceilq (a b : Int) : Int := -((-a) / b)
theorem ceilq_eq {a b : Int} (hb : 1 ≤ b) : (a + b - 1) / b = ceilq a b := by
  unfold ceilq
  have h1 := Int.ediv_mul_add_emod (-a) b
  have h2 := Int.emod_nonneg (-a) (show b ≠ 0 by omega)
  have h3 := Int.emod_lt_of_pos (-a) (show 0 < b by omega)
  generalize (-a) / b = q at *
  refine (Int.ediv_eq_iff_of_pos (by omega)).2 ?_
  rw [Int.neg_mul]
  omega
def pullR (p k load : Int) : Int × Int :=
  if valT p k then (if okLoad load then (ceilq (load * 100 ^ (p.toNat - 1)) (sumT p.toNat k), 0) else (0, 7)) else (0, 1)
theorem ceilq_bd {a b : Int} (ha : 0 ≤ a) (hb : 1 ≤ b) : 0 ≤ ceilq a b ∧ ceilq a b ≤ a := by
  rw [← ceilq_eq hb]
  refine ⟨Int.ediv_nonneg (by omega) (by omega), ?_⟩
  rcases Int.lt_or_le 0 a with h | h
  · have h1 : (b - 1) * 1 ≤ (b - 1) * a := Int.mul_le_mul_of_nonneg_left (by omega) (by omega)
    have h2 : a + b - 1 ≤ a * b := by simp only [Int.sub_mul, Int.one_mul, Int.mul_one] at h1; rw [Int.mul_comm a b]; omega
    exact Int.ediv_le_of_le_mul (by omega) h2
  · have : a = 0 := by omega
    subst this
    rw [Int.ediv_eq_zero_of_lt (by omega) (by omega)]
    omega
set_option maxHeartbeats 1000000 in
theorem Pull_any (p k load : Int) (w : World) :
    Calls Tryd.prog 12 #[.agg #[.int .i64 p, .int .i64 k], .int .i64 load] w fun e w' => e = .returned (.tuple #[.int .i64 (pullR p k load).1, .int .i64 (pullR p k load).2]) ∧ Below w.heap.size w w' := by
  by_cases hv : valT p k = true
  · by_cases hl : okLoad load = true
    · obtain ⟨P, rfl, h1, h2, h3, h4⟩ := valT_nat hv
      obtain ⟨h5, h6⟩ := okLoad_iff.1 hl
      have hp := pow100_le (m := P - 1) (by omega)
      have hsum := sumT_le (m := P) h3 h4 h2 h1
      have hf' : pullR P k load = (ceilq (load * 100 ^ (P - 1)) (sumT P k), 0) := by simp [pullR, hv, hl]
      rw [hf', ← ceilq_eq hsum.1]
      have c1 := fun W => lifted_any P k 1 W h1 h2 h3 h4 (by omega) (by omega)
      have c2 := fun W => unit_any P k W h1 h2
      simp only [Int.mul_one] at c1
      clear hf'
      generalize sumT P k = G at *
      generalize (100 : Int) ^ (P - 1) = U at *
      have hm := load_mul h5 h6 hp.1 hp.2
      have C1 := Lib.hid c1
      have C2 := Lib.hid c2
      clear c1 c2
      go_enter Tryd.func12, Tryd.ntmps12
      go_wp2_with (first | (go_at_call 23; refine (ValidTackle_any _ _ _).mono ?_; rintro e w1 ⟨rfl, hb⟩; have hB_w1 : Below w.heap.size w w1 := (by repeat (first | exact Below.refl _ _ | assumption | refine Below.setCell ?_ (by first | (simp; done) | (simp; omega) | omega) _ | refine Below.drew ?_ | refine below_drewN ?_ _ | refine Below.alloc ?_ (by first | (simp; done) | (simp; omega) | omega) _ | refine below_alloc ?_ _ | refine below_step ?_ (by assumption))); have hz_w1 := hB_w1.size; have hsw10 : w.heap.size < w1.heap.size := Nat.lt_of_lt_of_le (by first | (simp; done) | (simp; omega) | omega) hb.size; have hnw10 : ¬ w.heap.size = w1.heap.size := (by omega); have hmw10 : ¬ w1.heap.size = w.heap.size := (by omega); have hlw10_0 : w.heap.size ≤ w1.heap.size := (by omega); have hlw10_1 : w.heap.size ≤ w1.heap.size + 1 := (by omega); have hlw10_2 : w.heap.size ≤ w1.heap.size + 1 + 1 := (by omega); have hkw10 : w1.cell? ⟨w.heap.size, 0, none⟩ = some (.int .i64 P) := (by rw [hb.cell (p := ⟨w.heap.size, 0, none⟩) (by first | (simp; done) | (simp; omega) | omega)]; first | (go_simp; done) | assumption); have hkw11 : w1.cell? ⟨w.heap.size, 1, none⟩ = some (.int .i64 k) := (by rw [hb.cell (p := ⟨w.heap.size, 1, none⟩) (by first | (simp; done) | (simp; omega) | omega)]; first | (go_simp; done) | assumption); clear hb) | (go_at_call 24; refine (loads1_any _ _ _).mono ?_; rintro e w' ⟨rfl, rfl⟩) | (go_at_call 25; refine (C1.out _).mono ?_; rintro e w1 ⟨rfl, hb⟩; have hB_w1 : Below w.heap.size w w1 := (by repeat (first | exact Below.refl _ _ | assumption | refine Below.setCell ?_ (by first | (simp; done) | (simp; omega) | omega) _ | refine Below.drew ?_ | refine below_drewN ?_ _ | refine Below.alloc ?_ (by first | (simp; done) | (simp; omega) | omega) _ | refine below_alloc ?_ _ | refine below_step ?_ (by assumption))); have hz_w1 := hB_w1.size; have hsw10 : w.heap.size < w1.heap.size := Nat.lt_of_lt_of_le (by first | (simp; done) | (simp; omega) | omega) hb.size; have hnw10 : ¬ w.heap.size = w1.heap.size := (by omega); have hmw10 : ¬ w1.heap.size = w.heap.size := (by omega); have hlw10_0 : w.heap.size ≤ w1.heap.size := (by omega); have hlw10_1 : w.heap.size ≤ w1.heap.size + 1 := (by omega); have hlw10_2 : w.heap.size ≤ w1.heap.size + 1 + 1 := (by omega); have hkw10 : w1.cell? ⟨w.heap.size, 0, none⟩ = some (.int .i64 P) := (by rw [hb.cell (p := ⟨w.heap.size, 0, none⟩) (by first | (simp; done) | (simp; omega) | omega)]; first | (go_simp; done) | assumption); have hkw11 : w1.cell? ⟨w.heap.size, 1, none⟩ = some (.int .i64 k) := (by rw [hb.cell (p := ⟨w.heap.size, 1, none⟩) (by first | (simp; done) | (simp; omega) | omega)]; first | (go_simp; done) | assumption); clear hb) | (go_at_call 26; refine (C2.out _).mono ?_; rintro e w1 ⟨rfl, hb⟩; have hB_w1 : Below w.heap.size w w1 := (by repeat (first | exact Below.refl _ _ | assumption | refine Below.setCell ?_ (by first | (simp; done) | (simp; omega) | omega) _ | refine Below.drew ?_ | refine below_drewN ?_ _ | refine Below.alloc ?_ (by first | (simp; done) | (simp; omega) | omega) _ | refine below_alloc ?_ _ | refine below_step ?_ (by assumption))); have hz_w1 := hB_w1.size; have hsw10 : w.heap.size < w1.heap.size := Nat.lt_of_lt_of_le (by first | (simp; done) | (simp; omega) | omega) hb.size; have hnw10 : ¬ w.heap.size = w1.heap.size := (by omega); have hmw10 : ¬ w1.heap.size = w.heap.size := (by omega); have hlw10_0 : w.heap.size ≤ w1.heap.size := (by omega); have hlw10_1 : w.heap.size ≤ w1.heap.size + 1 := (by omega); have hlw10_2 : w.heap.size ≤ w1.heap.size + 1 + 1 := (by omega); have hkw10 : w1.cell? ⟨w.heap.size, 0, none⟩ = some (.int .i64 P) := (by rw [hb.cell (p := ⟨w.heap.size, 0, none⟩) (by first | (simp; done) | (simp; omega) | omega)]; first | (go_simp; done) | assumption); have hkw11 : w1.cell? ⟨w.heap.size, 1, none⟩ = some (.int .i64 k) := (by rw [hb.cell (p := ⟨w.heap.size, 1, none⟩) (by first | (simp; done) | (simp; omega) | omega)]; first | (go_simp; done) | assumption); clear hb))
      go_ret2
      exact ⟨rfl, (by repeat (first | exact Below.refl _ _ | assumption | refine Below.setCell ?_ (by first | (simp; done) | (simp; omega) | omega) _ | refine Below.drew ?_ | refine below_drewN ?_ _ | refine Below.alloc ?_ (by first | (simp; done) | (simp; omega) | omega) _ | refine below_alloc ?_ _ | refine below_step ?_ (by assumption)))⟩
    · have hf : pullR p k load = (0, 7) := by simp [pullR, hv, hl]
      rw [hf]
      go_enter Tryd.func12, Tryd.ntmps12
      go_wp2_with (first | (go_at_call 23; refine (ValidTackle_any _ _ _).mono ?_; rintro e w1 ⟨rfl, hb⟩; obtain ⟨hc, hf⟩ := bcell hb; have hlt := blt hb; have hz := hb.size; try simp at hz) | (go_at_call 24; refine (loads1_any _ _ _).mono ?_; rintro e w' ⟨rfl, rfl⟩))
      go_ret2
      exact ⟨rfl, (by repeat (first | exact Below.refl _ _ | assumption | refine Below.setCell ?_ (by first | (simp; done) | (simp; omega) | omega) _ | refine Below.drew ?_ | refine below_drewN ?_ _ | refine Below.alloc ?_ (by first | (simp; done) | (simp; omega) | omega) _ | refine below_alloc ?_ _ | refine below_step ?_ (by assumption)))⟩
  · have hf : pullR p k load = (0, 1) := by simp [pullR, hv]
    rw [hf]
    go_enter Tryd.func12, Tryd.ntmps12
    go_wp2_with (first | (go_at_call 23; refine (ValidTackle_any _ _ _).mono ?_; rintro e w1 ⟨rfl, hb⟩; obtain ⟨hc, hf⟩ := bcell hb; have hlt := blt hb; have hz := hb.size; try simp at hz) | (go_at_call 24; refine (loads1_any _ _ _).mono ?_; rintro e w' ⟨rfl, rfl⟩))
    go_ret2
    exact ⟨rfl, (by repeat (first | exact Below.refl _ _ | assumption | refine Below.setCell ?_ (by first | (simp; done) | (simp; omega) | omega) _ | refine Below.drew ?_ | refine below_drewN ?_ _ | refine Below.alloc ?_ (by first | (simp; done) | (simp; omega) | omega) _ | refine below_alloc ?_ _ | refine below_step ?_ (by assumption)))⟩
end Go.Proofs.YtolamhjbpdjgeaaDoor
