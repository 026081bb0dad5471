/- Contracts of the reference's small functions on numbers: Divisor, Lowest, Products, Compare. -/
import Derived.Test.YthpbkbbmedpecaaDoorRows
import Derived.Test.YthpbkbbmedpecaaDoorBase
import Derived.Test.YthpbkbbmedpecaaDoorShelf
import Derived.Deep.QuietTactic
import Derived.BigQuiet
namespace Go.Proofs.YthpbkbbmedpecaaDoor
open Go.RowKit

theorem gcd_round {g : Nat} {x y : Int} (hg : Int.gcd x y = g) : Int.gcd y (x.tmod y) = g := by rw [gcd_step, hg]
theorem gcd_end {g : Nat} {x : Int} (hg : Int.gcd x 0 = g) : x = (g : Int) ∨ x = -(g : Int) := by
  rw [Int.gcd_zero_right] at hg; omega
theorem tmod_bd {x y : Int} (hy : y ≠ 0) : x.tmod y < y.natAbs ∧ -(y.natAbs : Int) < x.tmod y := by
  have h1 := Int.natAbs_tmod x y
  have h2 : x.natAbs % y.natAbs < y.natAbs := Nat.mod_lt _ (by omega)
  omega
theorem gcd_pos'' {n d : Int} (h1 : 1 ≤ d) : 1 ≤ Int.gcd n d := by have := gcd_pos' n d h1; omega

def sgn (n : Int) : Int := if n < 0 then -1 else if n = 0 then 0 else 1
def sgn2 (a b : Int) : Int := if a = 0 ∨ b = 0 then 0 else if (a < 0) ≠ (b < 0) then -1 else 1
theorem sgn_of_neg {n : Int} (h : n < 0) : sgn n = -1 := by simp [sgn, h]
theorem sgn_of_zero {n : Int} (h : n = 0) : sgn n = 0 := by simp [sgn, h]
theorem sgn_of_pos {n : Int} (h : 0 < n) : sgn n = 1 := by simp [sgn]; omega
theorem sgn2_eq (a b : Int) : sgn2 a b = sgn (a * b) := by
  unfold sgn2
  by_cases h0 : a = 0 ∨ b = 0
  · rw [if_pos h0, sgn_of_zero]; rcases h0 with h | h <;> simp [h]
  · rw [if_neg h0]
    rcases Int.lt_or_le a 0 with ha | ha <;> rcases Int.lt_or_le b 0 with hb | hb
    · rw [if_neg (by simp [ha, hb]), sgn_of_pos (Int.mul_pos_of_neg_of_neg ha hb)]
    · rw [if_pos (by simp [ha]; omega), sgn_of_neg (Int.mul_neg_of_neg_of_pos ha (by omega))]
    · rw [if_pos (by simp [hb]; omega), sgn_of_neg (Int.mul_neg_of_pos_of_neg (by omega) hb)]
    · rw [if_neg (by simp; omega), sgn_of_pos (Int.mul_pos (by omega) (by omega))]
/-- The two halves of a product of 128 bits. -/
def hiW (x y : Nat) : Nat := x * y / 18446744073709551616
def loW (x y : Nat) : Nat := x * y % 18446744073709551616
theorem halves_eq {x y z u : Nat} (h : hiW x y = hiW z u) (l : loW x y = loW z u) : x * y = z * u := by
  unfold hiW at h; unfold loW at l
  omega
theorem halves_lt {x y z u : Nat} (h : hiW x y < hiW z u ∨ hiW x y = hiW z u ∧ loW x y < loW z u) : x * y < z * u := by
  unfold hiW loW at h
  omega
theorem halves_gt {x y z u : Nat} (h : ¬ (hiW x y = hiW z u ∧ loW x y = loW z u)) (h' : ¬ (hiW x y < hiW z u ∨ hiW x y = hiW z u ∧ loW x y < loW z u)) : z * u < x * y := by
  unfold hiW loW at h h'
  omega
theorem sgn_cases (n : Int) : (sgn n = -1 ∧ n < 0) ∨ (sgn n = 0 ∧ n = 0) ∨ (sgn n = 1 ∧ 0 < n) := by
  rcases Int.lt_or_le n 0 with h | h
  · exact .inl ⟨sgn_of_neg h, h⟩
  · by_cases h0 : n = 0
    · exact .inr (.inl ⟨sgn_of_zero h0, h0⟩)
    · exact .inr (.inr ⟨sgn_of_pos (by omega), by omega⟩)
theorem natAbs_prod (a b : Int) : (a * b).natAbs = a.natAbs * b.natAbs := Int.natAbs_mul a b

/-- The denominator as Compare takes it. -/
def den1 (d : Int) : Int := if d ≤ 0 then 1 else d
/-- How two fractions compare: -1, 0, 1. -/
def cmpR (an ad bn bd : Int) : Int := sgn (an * den1 bd - bn * den1 ad)
end Go.Proofs.YthpbkbbmedpecaaDoor
