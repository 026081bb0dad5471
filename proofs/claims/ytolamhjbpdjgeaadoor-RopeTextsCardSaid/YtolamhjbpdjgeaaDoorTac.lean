/- Contracts of tackles: rope's and the reference's. -/
import Derived.Test.YtolamhjbpdjgeaaDoorNum
namespace Go.Proofs.YtolamhjbpdjgeaaDoor
open Go.RowKit

/-- What the parts bear together for a pull of 1, times 100 ^ (parts - 1). -/
def sumT : Nat → Int → Int
  | 0, _ => 0
  | m + 1, k => (100 : Int) ^ m + k * sumT m k
def valT (p k : Int) : Bool := withinB p 1 6 && withinB k 1 100

set_option maxHeartbeats 400000 in
theorem ValidTackle_any (p k : Int) (w : World) :
    Calls Tryd.prog 23 #[.agg #[.int .i64 p, .int .i64 k]] w fun e w' => e = .returned (.bool (valT p k)) ∧ Below w.heap.size w w' := by
  go_enter Tryd.func23, Tryd.ntmps23
  go_wp2_with (go_at_call 35; refine (within_any _ _ _ _).mono ?_; rintro e w' ⟨rfl, rfl⟩)
  all_goals
    go_ret
    exact ⟨ret_bool (by simp [valT, *]), (Below.refl _ _).alloc (Nat.le_refl _) _⟩
theorem pow100_le {m : Nat} (h : m ≤ 5) : (1 : Int) ≤ 100 ^ m ∧ (100 : Int) ^ m ≤ 10000000000 := by
  have : m = 0 ∨ m = 1 ∨ m = 2 ∨ m = 3 ∨ m = 4 ∨ m = 5 := by omega
  rcases this with rfl | rfl | rfl | rfl | rfl | rfl <;> decide
theorem sumT_bd {m : Nat} {k : Int} (h1 : 1 ≤ k) (h2 : k ≤ 100) : 0 ≤ sumT m k ∧ sumT m k ≤ m * 100 ^ (m - 1) ∧ (1 ≤ m → (100 : Int) ^ (m - 1) ≤ sumT m k) := by
  induction m with
  | zero => simp [sumT]
  | succ m ih =>
    obtain ⟨i1, i2, i3⟩ := ih
    have g1 : 0 ≤ k * sumT m k := Int.mul_nonneg (by omega) i1
    have g2 : k * sumT m k ≤ 100 * sumT m k := Int.mul_le_mul_of_nonneg_right h2 i1
    have g3 : (0 : Int) ≤ 100 ^ m := Int.pow_nonneg (by decide)
    simp only [sumT, Nat.add_sub_cancel]
    refine ⟨by omega, ?_, fun _ => by omega⟩
    have g4 : 100 * sumT m k ≤ m * 100 ^ m := by
      rcases m with _ | m
      · simp [sumT]
      · simp only [Nat.add_sub_cancel] at i2
        have : (100 : Int) ^ (m + 1) = 100 ^ m * 100 := Int.pow_succ ..
        rw [this, ← Int.mul_assoc]
        omega
    have : ((m + 1 : Nat) : Int) * 100 ^ m = m * 100 ^ m + 100 ^ m := by
      rw [Int.natCast_add, Int.add_mul]; simp
    omega
theorem sumT_le {m : Nat} {k : Int} (h1 : 1 ≤ k) (h2 : k ≤ 100) (hm : m ≤ 6) (h0 : 1 ≤ m) : 1 ≤ sumT m k ∧ sumT m k ≤ 60000000000 := by
  obtain ⟨a, b, c⟩ := sumT_bd (m := m) h1 h2
  have c := c h0
  have hp := pow100_le (m := m - 1) (by omega)
  have : (m : Int) * 100 ^ (m - 1) ≤ 6 * 100 ^ (m - 1) := Int.mul_le_mul_of_nonneg_right (by omega) (by omega)
  omega

theorem pow100_succ {j : Nat} (h : 1 ≤ j) : (100 : Int) ^ j = 100 * 100 ^ (j - 1) := by
  obtain ⟨m, rfl⟩ : ∃ m, j = m + 1 := ⟨j - 1, by omega⟩
  rw [Int.pow_succ, Int.mul_comm]; rfl
theorem sumT_one (k : Int) : sumT 1 k = 1 := by simp [sumT]
theorem sumT_succ {j : Nat} (h : 1 ≤ j) (k : Int) : sumT (j + 1) k = 100 * 100 ^ (j - 1) + k * sumT j k := by
  rw [← pow100_succ h]; rfl

set_option maxHeartbeats 400000 in
theorem unit_any (p : Nat) (k : Int) (w : World) (h1 : 1 ≤ p) (h2 : p ≤ 6) :
    Calls Tryd.prog 26 #[.agg #[.int .i64 p, .int .i64 k]] w fun e w' => e = .returned (.int .i64 (100 ^ (p - 1))) ∧ Below w.heap.size w w' := by
  go_enter Tryd.func26, Tryd.ntmps26
  go_wp2
  go_loop [3, 7] (fun n i => ∃ (j : Nat) (N : Int), i = .int .i64 j ∧ n = .int .i64 N ∧ N = 100 ^ j ∧ j + 1 ≤ p) (fun _ i => p - (intOf i).toNat)
  case atStart => exact ⟨0, 1, rfl, rfl, rfl, h1⟩
  case round =>
    obtain ⟨j, N, rfl, rfl, hN, hj⟩ := hrel
    have hb := pow100_le (m := j) (by omega)
    rw [← hN] at hb
    have HN := Lib.hid hN
    clear hN
    by_cases hlt : j + 1 < p
    · go_wp2
      go_round
      case rel => exact ⟨j + 1, N * 100, by go_num, rfl, by rw [Int.pow_succ, HN.out], by omega⟩
      case measure => simp [intOf]; omega
    · have hjp : j = p - 1 := by omega
      have HJ := Lib.hid hjp
      clear hjp
      go_wp2
      go_ret
      exact ⟨ret_int (by rw [HN.out, HJ.out]), (Below.refl _ _).alloc (Nat.le_refl _) _⟩
set_option maxHeartbeats 400000 in
theorem tensions_any (p k : Int) (w : World) :
    Calls Tryd.prog 36 #[.agg #[.int .i64 p, .int .i64 k]] w fun e w' => e = .returned (.func (.func 44) #[] #[.pointer (some ⟨w.heap.size, 0, none⟩)]) ∧ w.alloc (.cells #[.int .i64 p, .int .i64 k] 36) = w' := by
  go_enter Tryd.func36, Tryd.ntmps36
  go_wp2
  go_ret
  exact ⟨rfl, rfl⟩

/-- Hauled: the length and the error. -/
def hauledR (p k h : Int) : Int × Int := if valT p k then (if withinB h 0 200000 then (p * h, 0) else (0, 7)) else (0, 1)
theorem valT_bd {p k : Int} (h : valT p k = true) : (1 ≤ p ∧ p ≤ 6) ∧ 1 ≤ k ∧ k ≤ 100 := by simpa [valT, withinB] using h
end Go.Proofs.YtolamhjbpdjgeaaDoor
