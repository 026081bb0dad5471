/- The exported functions of tackles: rope's and the reference's have the same contracts. -/
import Derived.Test.YtolamhjbpdjgeaaDoorIter
import Derived.Deep.RegionWith
set_option linter.unusedSimpArgs false
set_option linter.unusedVariables false
namespace Go.Proofs.YtolamhjbpdjgeaaDoor
open Go.RowKit

def okLoad (n : Int) : Bool := withinB n 0 1000000
theorem okLoad_iff {n : Int} : okLoad n = true ↔ 0 ≤ n ∧ n ≤ 1000000 := withinB_iff
theorem loadsB_one (n : Int) : loadsB [n] = okLoad n := by simp [loadsB, okLoad]
theorem loadsB_two (n m : Int) : loadsB [n, m] = (okLoad n && okLoad m) := by simp [loadsB, okLoad]
theorem ints_new1 (W : World) (B : Nat) (n : Int) (t : TypeId) (hB : W.heap.size < B) : Ints (W.alloc (.cells #[.int .i64 n] t)) B (some ⟨W.heap.size, 0, none⟩) 1 [n] := by
  refine ⟨rfl, fun _ => ⟨_, _, rfl, hB, fun k hk => ?_⟩⟩
  obtain rfl : k = 0 := by omega
  go_simp
theorem ints_new2 (W : World) (B : Nat) (n m : Int) (t : TypeId) (hB : W.heap.size < B) : Ints (W.alloc (.cells #[.int .i64 n, .int .i64 m] t)) B (some ⟨W.heap.size, 0, none⟩) 2 [n, m] := by
  refine ⟨rfl, fun _ => ⟨_, _, rfl, hB, fun k hk => ?_⟩⟩
  have : k = 0 ∨ k = 1 := by omega
  rcases this with rfl | rfl <;> go_simp
/-- loads of one number, as the walk makes the slice. -/
theorem loads1_any (n : Int) (t : TypeId) (W : World) :
    Calls Tryd.prog 24 #[.slice (some ⟨W.heap.size, 0, none⟩) 1 1] (W.alloc (.cells #[.int .i64 n] t)) fun e w' => e = .returned (.bool (okLoad n)) ∧ W.alloc (.cells #[.int .i64 n] t) = w' := by
  rw [← loadsB_one]
  exact loads_any _ 1 1 [n] _ (by omega) (ints_new1 W _ n t (by simp))
theorem loads2_any (n m : Int) (t : TypeId) (W : World) :
    Calls Tryd.prog 24 #[.slice (some ⟨W.heap.size, 0, none⟩) 2 2] (W.alloc (.cells #[.int .i64 n, .int .i64 m] t)) fun e w' => e = .returned (.bool (okLoad n && okLoad m)) ∧ W.alloc (.cells #[.int .i64 n, .int .i64 m] t) = w' := by
  rw [← loadsB_two]
  exact loads_any _ 2 2 [n, m] _ (by omega) (ints_new2 W _ n m t (by simp))

/-- Lifted: the fraction and the error. -/
def liftedR (p k pull : Int) : Int × Int × Int :=
  if valT p k then (if okLoad pull then (lowN (sumT p.toNat k * pull) (100 ^ (p.toNat - 1)), lowD (sumT p.toNat k * pull) (100 ^ (p.toNat - 1)), 0) else (0, 0, 7)) else (0, 0, 1)
theorem valT_nat {p k : Int} (h : valT p k = true) : ∃ P : Nat, p = P ∧ 1 ≤ P ∧ P ≤ 6 ∧ 1 ≤ k ∧ k ≤ 100 := by
  have := valT_bd h
  exact ⟨p.toNat, by omega, by omega, by omega, by omega, by omega⟩
theorem sumT_mul {P : Nat} {k pull : Int} (h1 : 1 ≤ P) (h2 : P ≤ 6) (h3 : 1 ≤ k) (h4 : k ≤ 100) (h5 : 0 ≤ pull) (h6 : pull ≤ 1000000) : 0 ≤ sumT P k * pull ∧ sumT P k * pull ≤ 60000000000000000 := by
  have hle := sumT_le (m := P) h3 h4 h2 h1
  have g1 : 0 ≤ sumT P k * pull := Int.mul_nonneg (by omega) h5
  have g2 : sumT P k * pull ≤ 60000000000 * 1000000 := Int.mul_le_mul (by omega) h6 h5 (by omega)
  omega

set_option maxHeartbeats 1000000 in
theorem Lifted_any (p k pull : Int) (w : World) :
    Calls Tryd.prog 22 #[.agg #[.int .i64 p, .int .i64 k], .int .i64 pull] w fun e w' => e = .returned (.tuple #[.agg #[.int .i64 (liftedR p k pull).1, .int .i64 (liftedR p k pull).2.1], .int .i64 (liftedR p k pull).2.2]) ∧ Below w.heap.size w w' := by
  by_cases hv : valT p k = true
  · by_cases hl : okLoad pull = true
    · obtain ⟨P, rfl, h1, h2, h3, h4⟩ := valT_nat hv
      obtain ⟨h5, h6⟩ := okLoad_iff.1 hl
      have hm := sumT_mul h1 h2 h3 h4 h5 h6
      have hp := pow100_le (m := P - 1) (by omega)
      have hf' : liftedR P k pull = (lowN (sumT P k * pull) (100 ^ (P - 1)), lowD (sumT P k * pull) (100 ^ (P - 1)), 0) := by simp [liftedR, hv, hl]
      rw [hf']
      have c1 := fun W => lifted_any P k pull W h1 h2 h3 h4 h5 h6
      have c2 := fun W => unit_any P k W h1 h2
      clear hf'
      generalize sumT P k * pull = S at *
      generalize (100 : Int) ^ (P - 1) = U at *
      have c3 := fun W => ratio_any S U W hp.1 (by omega) (by omega) (by omega)
      generalize lowN S U = N at *
      generalize lowD S U = D at *
      have C1 := Lib.hid c1
      have C2 := Lib.hid c2
      have C3 := Lib.hid c3
      clear c1 c2 c3
      go_enter Tryd.func22, Tryd.ntmps22
      go_wp2_with (first | (go_at_call 23; refine (ValidTackle_any _ _ _).mono ?_; rintro e w1 ⟨rfl, hb⟩; have hB_w1 : Below w.heap.size w w1 := (by repeat (first | exact Below.refl _ _ | assumption | refine Below.setCell ?_ (by first | (simp; done) | (simp; omega) | omega) _ | refine Below.drew ?_ | refine below_drewN ?_ _ | refine Below.alloc ?_ (by first | (simp; done) | (simp; omega) | omega) _ | refine below_alloc ?_ _ | refine below_step ?_ (by assumption))); have hz_w1 := hB_w1.size; have hsw10 : w.heap.size < w1.heap.size := Nat.lt_of_lt_of_le (by first | (simp; done) | (simp; omega) | omega) hb.size; have hnw10 : ¬ w.heap.size = w1.heap.size := (by omega); have hmw10 : ¬ w1.heap.size = w.heap.size := (by omega); have hlw10_0 : w.heap.size ≤ w1.heap.size := (by omega); have hlw10_1 : w.heap.size ≤ w1.heap.size + 1 := (by omega); have hlw10_2 : w.heap.size ≤ w1.heap.size + 1 + 1 := (by omega); have hkw10 : w1.cell? ⟨w.heap.size, 0, none⟩ = some (.int .i64 P) := (by rw [hb.cell (p := ⟨w.heap.size, 0, none⟩) (by first | (simp; done) | (simp; omega) | omega)]; first | (go_simp; done) | assumption); have hkw11 : w1.cell? ⟨w.heap.size, 1, none⟩ = some (.int .i64 k) := (by rw [hb.cell (p := ⟨w.heap.size, 1, none⟩) (by first | (simp; done) | (simp; omega) | omega)]; first | (go_simp; done) | assumption); have hsw12 : w.heap.size + 1 < w1.heap.size := Nat.lt_of_lt_of_le (by first | (simp; done) | (simp; omega) | omega) hb.size; have hnw12 : ¬ w.heap.size + 1 = w1.heap.size := (by omega); have hmw12 : ¬ w1.heap.size = w.heap.size + 1 := (by omega); have hlw12_0 : w.heap.size + 1 ≤ w1.heap.size := (by omega); have hlw12_1 : w.heap.size + 1 ≤ w1.heap.size + 1 := (by omega); have hlw12_2 : w.heap.size + 1 ≤ w1.heap.size + 1 + 1 := (by omega); have hkw12 : w1.cell? ⟨w.heap.size + 1, 0, none⟩ = some (.int .i64 0) := (by rw [hb.cell (p := ⟨w.heap.size + 1, 0, none⟩) (by first | (simp; done) | (simp; omega) | omega)]; first | (go_simp; done) | assumption); have hfw12 : w1.frozen? ⟨w.heap.size + 1, 0, none⟩ = false := (by rw [hb.frozen (p := ⟨w.heap.size + 1, 0, none⟩) (by first | (simp; done) | (simp; omega) | omega)]; first | (go_simp; done) | assumption); have hkw13 : w1.cell? ⟨w.heap.size + 1, 1, none⟩ = some (.int .i64 0) := (by rw [hb.cell (p := ⟨w.heap.size + 1, 1, none⟩) (by first | (simp; done) | (simp; omega) | omega)]; first | (go_simp; done) | assumption); have hfw13 : w1.frozen? ⟨w.heap.size + 1, 1, none⟩ = false := (by rw [hb.frozen (p := ⟨w.heap.size + 1, 1, none⟩) (by first | (simp; done) | (simp; omega) | omega)]; first | (go_simp; done) | assumption); clear hb) | (go_at_call 24; refine (loads1_any _ _ _).mono ?_; rintro e w' ⟨rfl, rfl⟩))
      go_region_with (first | (go_at_call 25; refine (C1.out _).mono ?_; rintro e w1 ⟨rfl, hb⟩; have hB_w1 : Below w.heap.size w w1 := (by repeat (first | exact Below.refl _ _ | assumption | refine Below.setCell ?_ (by first | (simp; done) | (simp; omega) | omega) _ | refine Below.drew ?_ | refine below_drewN ?_ _ | refine Below.alloc ?_ (by first | (simp; done) | (simp; omega) | omega) _ | refine below_alloc ?_ _ | refine below_step ?_ (by assumption))); have hz_w1 := hB_w1.size; have hsw10 : w.heap.size < w1.heap.size := Nat.lt_of_lt_of_le (by first | (simp; done) | (simp; omega) | omega) hb.size; have hnw10 : ¬ w.heap.size = w1.heap.size := (by omega); have hmw10 : ¬ w1.heap.size = w.heap.size := (by omega); have hlw10_0 : w.heap.size ≤ w1.heap.size := (by omega); have hlw10_1 : w.heap.size ≤ w1.heap.size + 1 := (by omega); have hlw10_2 : w.heap.size ≤ w1.heap.size + 1 + 1 := (by omega); have hkw10 : w1.cell? ⟨w.heap.size, 0, none⟩ = some (.int .i64 P) := (by rw [hb.cell (p := ⟨w.heap.size, 0, none⟩) (by first | (simp; done) | (simp; omega) | omega)]; first | (go_simp; done) | assumption); have hkw11 : w1.cell? ⟨w.heap.size, 1, none⟩ = some (.int .i64 k) := (by rw [hb.cell (p := ⟨w.heap.size, 1, none⟩) (by first | (simp; done) | (simp; omega) | omega)]; first | (go_simp; done) | assumption); have hsw12 : w.heap.size + 1 < w1.heap.size := Nat.lt_of_lt_of_le (by first | (simp; done) | (simp; omega) | omega) hb.size; have hnw12 : ¬ w.heap.size + 1 = w1.heap.size := (by omega); have hmw12 : ¬ w1.heap.size = w.heap.size + 1 := (by omega); have hlw12_0 : w.heap.size + 1 ≤ w1.heap.size := (by omega); have hlw12_1 : w.heap.size + 1 ≤ w1.heap.size + 1 := (by omega); have hlw12_2 : w.heap.size + 1 ≤ w1.heap.size + 1 + 1 := (by omega); have hkw12 : w1.cell? ⟨w.heap.size + 1, 0, none⟩ = some (.int .i64 0) := (by rw [hb.cell (p := ⟨w.heap.size + 1, 0, none⟩) (by first | (simp; done) | (simp; omega) | omega)]; first | (go_simp; done) | assumption); have hfw12 : w1.frozen? ⟨w.heap.size + 1, 0, none⟩ = false := (by rw [hb.frozen (p := ⟨w.heap.size + 1, 0, none⟩) (by first | (simp; done) | (simp; omega) | omega)]; first | (go_simp; done) | assumption); have hkw13 : w1.cell? ⟨w.heap.size + 1, 1, none⟩ = some (.int .i64 0) := (by rw [hb.cell (p := ⟨w.heap.size + 1, 1, none⟩) (by first | (simp; done) | (simp; omega) | omega)]; first | (go_simp; done) | assumption); have hfw13 : w1.frozen? ⟨w.heap.size + 1, 1, none⟩ = false := (by rw [hb.frozen (p := ⟨w.heap.size + 1, 1, none⟩) (by first | (simp; done) | (simp; omega) | omega)]; first | (go_simp; done) | assumption); clear hb) | (go_at_call 26; refine (C2.out _).mono ?_; rintro e w1 ⟨rfl, hb⟩; have hB_w1 : Below w.heap.size w w1 := (by repeat (first | exact Below.refl _ _ | assumption | refine Below.setCell ?_ (by first | (simp; done) | (simp; omega) | omega) _ | refine Below.drew ?_ | refine below_drewN ?_ _ | refine Below.alloc ?_ (by first | (simp; done) | (simp; omega) | omega) _ | refine below_alloc ?_ _ | refine below_step ?_ (by assumption))); have hz_w1 := hB_w1.size; have hsw10 : w.heap.size < w1.heap.size := Nat.lt_of_lt_of_le (by first | (simp; done) | (simp; omega) | omega) hb.size; have hnw10 : ¬ w.heap.size = w1.heap.size := (by omega); have hmw10 : ¬ w1.heap.size = w.heap.size := (by omega); have hlw10_0 : w.heap.size ≤ w1.heap.size := (by omega); have hlw10_1 : w.heap.size ≤ w1.heap.size + 1 := (by omega); have hlw10_2 : w.heap.size ≤ w1.heap.size + 1 + 1 := (by omega); have hkw10 : w1.cell? ⟨w.heap.size, 0, none⟩ = some (.int .i64 P) := (by rw [hb.cell (p := ⟨w.heap.size, 0, none⟩) (by first | (simp; done) | (simp; omega) | omega)]; first | (go_simp; done) | assumption); have hkw11 : w1.cell? ⟨w.heap.size, 1, none⟩ = some (.int .i64 k) := (by rw [hb.cell (p := ⟨w.heap.size, 1, none⟩) (by first | (simp; done) | (simp; omega) | omega)]; first | (go_simp; done) | assumption); have hsw12 : w.heap.size + 1 < w1.heap.size := Nat.lt_of_lt_of_le (by first | (simp; done) | (simp; omega) | omega) hb.size; have hnw12 : ¬ w.heap.size + 1 = w1.heap.size := (by omega); have hmw12 : ¬ w1.heap.size = w.heap.size + 1 := (by omega); have hlw12_0 : w.heap.size + 1 ≤ w1.heap.size := (by omega); have hlw12_1 : w.heap.size + 1 ≤ w1.heap.size + 1 := (by omega); have hlw12_2 : w.heap.size + 1 ≤ w1.heap.size + 1 + 1 := (by omega); have hkw12 : w1.cell? ⟨w.heap.size + 1, 0, none⟩ = some (.int .i64 0) := (by rw [hb.cell (p := ⟨w.heap.size + 1, 0, none⟩) (by first | (simp; done) | (simp; omega) | omega)]; first | (go_simp; done) | assumption); have hfw12 : w1.frozen? ⟨w.heap.size + 1, 0, none⟩ = false := (by rw [hb.frozen (p := ⟨w.heap.size + 1, 0, none⟩) (by first | (simp; done) | (simp; omega) | omega)]; first | (go_simp; done) | assumption); have hkw13 : w1.cell? ⟨w.heap.size + 1, 1, none⟩ = some (.int .i64 0) := (by rw [hb.cell (p := ⟨w.heap.size + 1, 1, none⟩) (by first | (simp; done) | (simp; omega) | omega)]; first | (go_simp; done) | assumption); have hfw13 : w1.frozen? ⟨w.heap.size + 1, 1, none⟩ = false := (by rw [hb.frozen (p := ⟨w.heap.size + 1, 1, none⟩) (by first | (simp; done) | (simp; omega) | omega)]; first | (go_simp; done) | assumption); clear hb) | (go_at_call 34; refine (C3.out _).mono ?_; rintro e w1 ⟨rfl, hb⟩; have hB_w1 : Below w.heap.size w w1 := (by repeat (first | exact Below.refl _ _ | assumption | refine Below.setCell ?_ (by first | (simp; done) | (simp; omega) | omega) _ | refine Below.drew ?_ | refine below_drewN ?_ _ | refine Below.alloc ?_ (by first | (simp; done) | (simp; omega) | omega) _ | refine below_alloc ?_ _ | refine below_step ?_ (by assumption))); have hz_w1 := hB_w1.size; have hsw10 : w.heap.size < w1.heap.size := Nat.lt_of_lt_of_le (by first | (simp; done) | (simp; omega) | omega) hb.size; have hnw10 : ¬ w.heap.size = w1.heap.size := (by omega); have hmw10 : ¬ w1.heap.size = w.heap.size := (by omega); have hlw10_0 : w.heap.size ≤ w1.heap.size := (by omega); have hlw10_1 : w.heap.size ≤ w1.heap.size + 1 := (by omega); have hlw10_2 : w.heap.size ≤ w1.heap.size + 1 + 1 := (by omega); have hkw10 : w1.cell? ⟨w.heap.size, 0, none⟩ = some (.int .i64 P) := (by rw [hb.cell (p := ⟨w.heap.size, 0, none⟩) (by first | (simp; done) | (simp; omega) | omega)]; first | (go_simp; done) | assumption); have hkw11 : w1.cell? ⟨w.heap.size, 1, none⟩ = some (.int .i64 k) := (by rw [hb.cell (p := ⟨w.heap.size, 1, none⟩) (by first | (simp; done) | (simp; omega) | omega)]; first | (go_simp; done) | assumption); have hsw12 : w.heap.size + 1 < w1.heap.size := Nat.lt_of_lt_of_le (by first | (simp; done) | (simp; omega) | omega) hb.size; have hnw12 : ¬ w.heap.size + 1 = w1.heap.size := (by omega); have hmw12 : ¬ w1.heap.size = w.heap.size + 1 := (by omega); have hlw12_0 : w.heap.size + 1 ≤ w1.heap.size := (by omega); have hlw12_1 : w.heap.size + 1 ≤ w1.heap.size + 1 := (by omega); have hlw12_2 : w.heap.size + 1 ≤ w1.heap.size + 1 + 1 := (by omega); have hkw12 : w1.cell? ⟨w.heap.size + 1, 0, none⟩ = some (.int .i64 0) := (by rw [hb.cell (p := ⟨w.heap.size + 1, 0, none⟩) (by first | (simp; done) | (simp; omega) | omega)]; first | (go_simp; done) | assumption); have hfw12 : w1.frozen? ⟨w.heap.size + 1, 0, none⟩ = false := (by rw [hb.frozen (p := ⟨w.heap.size + 1, 0, none⟩) (by first | (simp; done) | (simp; omega) | omega)]; first | (go_simp; done) | assumption); have hkw13 : w1.cell? ⟨w.heap.size + 1, 1, none⟩ = some (.int .i64 0) := (by rw [hb.cell (p := ⟨w.heap.size + 1, 1, none⟩) (by first | (simp; done) | (simp; omega) | omega)]; first | (go_simp; done) | assumption); have hfw13 : w1.frozen? ⟨w.heap.size + 1, 1, none⟩ = false := (by rw [hb.frozen (p := ⟨w.heap.size + 1, 1, none⟩) (by first | (simp; done) | (simp; omega) | omega)]; first | (go_simp; done) | assumption); clear hb))
      all_goals go_wp2
      all_goals refine bodyPost_ret (v := .tuple #[.agg #[.int .i64 N, .int .i64 D], .int .i64 0]) (by simp [results, Tryd.results22, go_sem, hkw12, hkw13]) rfl ⟨rfl, (by repeat (first | exact Below.refl _ _ | assumption | refine Below.setCell ?_ (by first | (simp; done) | (simp; omega) | omega) _ | refine Below.drew ?_ | refine below_drewN ?_ _ | refine Below.alloc ?_ (by first | (simp; done) | (simp; omega) | omega) _ | refine below_alloc ?_ _ | refine below_step ?_ (by assumption)))⟩
    · have hf : liftedR p k pull = (0, 0, 7) := by simp [liftedR, hv, hl]
      rw [hf]
      go_enter Tryd.func22, Tryd.ntmps22
      go_wp2_with (first | (go_at_call 23; refine (ValidTackle_any _ _ _).mono ?_; rintro e w1 ⟨rfl, hb⟩; obtain ⟨hc, hf⟩ := bcell hb; have hlt := blt hb; have hz := hb.size; try simp at hz) | (go_at_call 24; refine (loads1_any _ _ _).mono ?_; rintro e w' ⟨rfl, rfl⟩))
      refine bodyPost_ret (v := .tuple #[.agg #[.int .i64 0, .int .i64 0], .int .i64 7]) (by simp [results, Tryd.results22, go_sem, hc, hlt]) rfl ⟨rfl, (by repeat (first | exact Below.refl _ _ | assumption | refine Below.setCell ?_ (by first | (simp; done) | (simp; omega) | omega) _ | refine Below.drew ?_ | refine below_drewN ?_ _ | refine Below.alloc ?_ (by first | (simp; done) | (simp; omega) | omega) _ | refine below_alloc ?_ _ | refine below_step ?_ (by assumption)))⟩
  · have hf : liftedR p k pull = (0, 0, 1) := by simp [liftedR, hv]
    rw [hf]
    go_enter Tryd.func22, Tryd.ntmps22
    go_wp2_with (first | (go_at_call 23; refine (ValidTackle_any _ _ _).mono ?_; rintro e w1 ⟨rfl, hb⟩; obtain ⟨hc, hf⟩ := bcell hb; have hlt := blt hb; have hz := hb.size; try simp at hz) | (go_at_call 24; refine (loads1_any _ _ _).mono ?_; rintro e w' ⟨rfl, rfl⟩))
    refine bodyPost_ret (v := .tuple #[.agg #[.int .i64 0, .int .i64 0], .int .i64 1]) (by simp [results, Tryd.results22, go_sem, hc]) rfl ⟨rfl, (by repeat (first | exact Below.refl _ _ | assumption | refine Below.setCell ?_ (by first | (simp; done) | (simp; omega) | omega) _ | refine Below.drew ?_ | refine below_drewN ?_ _ | refine Below.alloc ?_ (by first | (simp; done) | (simp; omega) | omega) _ | refine below_alloc ?_ _ | refine below_step ?_ (by assumption)))⟩
theorem load_mul {load U : Int} (h1 : 0 ≤ load) (h2 : load ≤ 1000000) (h3 : 1 ≤ U) (h4 : U ≤ 10000000000) : 0 ≤ load * U ∧ load * U ≤ 10000000000000000 := by
  have g1 : 0 ≤ load * U := Int.mul_nonneg h1 (by omega)
  have g2 : load * U ≤ 1000000 * 10000000000 := Int.mul_le_mul h2 h4 (by omega) (by omega)
  omega
theorem okload_any (n : Int) (w : World) :
    Calls Tryd.prog 21 #[.int .i64 n] w fun e w' => e = .returned (.bool (okLoad n)) ∧ w = w' := rload_any n w
end Go.Proofs.YtolamhjbpdjgeaaDoor
