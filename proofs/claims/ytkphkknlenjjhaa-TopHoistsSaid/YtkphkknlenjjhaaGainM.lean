/- Plain laws on gains: more parts and a greater Keep never lift less; a pull lifts, one newton less does not. -/
import Derived.Test.YtkphkknlenjjhaaTackle2
namespace Go.Proofs.Ytkphkknlenjjhaa
open Go.RowKit

theorem sumT_nonneg {m : Nat} {k : Int} (h : 1 ≤ k) : 0 ≤ sumT m k := by
  induction m with
  | zero => simp [sumT]
  | succ m ih =>
    have := Int.mul_nonneg (show (0 : Int) ≤ k by omega) ih
    have h2 : (0 : Int) ≤ 100 ^ m := Int.pow_nonneg (by decide)
    simp only [sumT]; omega
theorem sumT_keep {m : Nat} {k l : Int} (h : 1 ≤ k) (hl : k ≤ l) : sumT m k ≤ sumT m l := by
  induction m with
  | zero => simp [sumT]
  | succ m ih =>
    simp only [sumT]
    have h1 : k * sumT m k ≤ l * sumT m k := Int.mul_le_mul_of_nonneg_right hl (sumT_nonneg h)
    have h2 : l * sumT m k ≤ l * sumT m l := Int.mul_le_mul_of_nonneg_left ih (by omega)
    omega
theorem sumT_more {m : Nat} {k : Int} (h : 1 ≤ k) : 100 * sumT m k ≤ sumT (m + 1) k := by
  induction m with
  | zero => simp [sumT]
  | succ m ih =>
    have e1 : sumT (m + 2) k = 100 ^ (m + 1) + k * sumT (m + 1) k := rfl
    have e2 : sumT (m + 1) k = 100 ^ m + k * sumT m k := rfl
    have e3 : (100 : Int) ^ (m + 1) = 100 ^ m * 100 := Int.pow_succ ..
    have h1 : k * (100 * sumT m k) ≤ k * sumT (m + 1) k := Int.mul_le_mul_of_nonneg_left ih (by omega)
    have e4 : k * (100 * sumT m k) = 100 * (k * sumT m k) := by rw [← Int.mul_assoc, Int.mul_comm k 100, Int.mul_assoc]
    rw [e1, e3]
    omega
theorem sumT_parts {p q : Nat} {k : Int} (h : 1 ≤ k) (hp : 1 ≤ p) (hpq : p ≤ q) : sumT p k * 100 ^ (q - 1) ≤ sumT q k * 100 ^ (p - 1) := by
  obtain ⟨d, rfl⟩ : ∃ d, q = p + d := ⟨q - p, by omega⟩
  induction d with
  | zero => simp
  | succ d ih =>
    have ih := ih (by omega)
    have h1 := sumT_more (m := p + d) h
    have e1 : (100 : Int) ^ (p + (d + 1) - 1) = 100 ^ (p + d - 1) * 100 := by rw [← Int.pow_succ]; congr 1; omega
    have h2 : (0 : Int) ≤ 100 ^ (p - 1) := Int.pow_nonneg (by decide)
    have h3 : 100 * sumT (p + d) k * 100 ^ (p - 1) ≤ sumT (p + d + 1) k * 100 ^ (p - 1) := Int.mul_le_mul_of_nonneg_right h1 h2
    rw [e1, show p + (d + 1) = p + d + 1 by omega, ← Int.mul_assoc]
    have h4 : 100 * sumT (p + d) k * 100 ^ (p - 1) = sumT (p + d) k * 100 ^ (p - 1) * 100 := by rw [Int.mul_comm 100, Int.mul_right_comm]
    omega
theorem gain_le {p q : Nat} {k l : Int} (h : 1 ≤ k) (hl : k ≤ l) (hp : 1 ≤ p) (hpq : p ≤ q) : sumT p k * 100 ^ (q - 1) ≤ sumT q l * 100 ^ (p - 1) := by
  have h2 : (0 : Int) ≤ 100 ^ (p - 1) := Int.pow_nonneg (by decide)
  exact Int.le_trans (sumT_parts h hp hpq) (Int.mul_le_mul_of_nonneg_right (sumT_keep h hl) h2)
/-- How lowest terms compare. -/
theorem low_cmp (n d m e : Int) (hd : 1 ≤ d) (he : 1 ≤ e) : (lowN n d * lowD m e - lowN m e * lowD n d) * ((Int.gcd n d : Int) * (Int.gcd m e : Int)) = n * e - m * d := by
  have h1 := lowN_mul n d
  have h2 := lowD_mul n d
  have h3 := lowN_mul m e
  have h4 := lowD_mul m e
  generalize lowN n d = a at *
  generalize lowD n d = b at *
  generalize lowN m e = c at *
  generalize lowD m e = f at *
  generalize (Int.gcd n d : Int) = g at *
  generalize (Int.gcd m e : Int) = G at *
  subst h1 h2 h3 h4
  grind
theorem den1_pos {d : Int} (h : 1 ≤ d) : den1 d = d := if_neg (by omega)
theorem sgn_le {n : Int} : sgn n ≤ 0 ↔ n ≤ 0 := by rcases sgn_cases n with ⟨h, h'⟩ | ⟨h, h'⟩ | ⟨h, h'⟩ <;> omega
theorem sgn_lt {n : Int} : sgn n < 0 ↔ n < 0 := by rcases sgn_cases n with ⟨h, h'⟩ | ⟨h, h'⟩ | ⟨h, h'⟩ <;> omega
theorem pos_mul {a g : Int} (hg : 1 ≤ g) : (a * g ≤ 0 ↔ a ≤ 0) ∧ (a * g < 0 ↔ a < 0) := by
  refine ⟨⟨fun h => ?_, fun h => Int.mul_nonpos_of_nonpos_of_nonneg h (by omega)⟩, ⟨fun h => ?_, fun h => Int.mul_neg_of_neg_of_pos h (by omega)⟩⟩
  · rcases Int.lt_or_le 0 a with h1 | h1
    · have := Int.mul_pos h1 (show 0 < g by omega); omega
    · exact h1
  · rcases Int.lt_or_le a 0 with h1 | h1
    · exact h1
    · have := Int.mul_nonneg h1 (show 0 ≤ g by omega); omega
theorem cmp_low {n d m e : Int} (hd : 1 ≤ d) (he : 1 ≤ e) : (cmpR (lowN n d) (lowD n d) (lowN m e) (lowD m e) ≤ 0 ↔ n * e ≤ m * d) ∧ (cmpR (lowN n d) (lowD n d) (lowN m e) (lowD m e) < 0 ↔ n * e < m * d) := by
  have h := low_cmp n d m e hd he
  have g1 := gcd_pos' n d hd
  have g2 := gcd_pos' m e he
  have g3 : 1 ≤ (Int.gcd n d : Int) * (Int.gcd m e : Int) := by
    have := Int.mul_le_mul g1 g2 (by decide) (by omega)
    omega
  unfold cmpR
  rw [den1_pos (lowD_pos n d hd), den1_pos (lowD_pos m e he), sgn_le, sgn_lt]
  have := pos_mul (a := lowN n d * lowD m e - lowN m e * lowD n d) g3
  rw [h] at this
  constructor
  · rw [← this.1]; omega
  · rw [← this.2]; omega
/-- With Keep 100 the gain is Parts. -/
theorem sumT_full (m : Nat) : sumT (m + 1) 100 = (m + 1 : Nat) * 100 ^ m := by
  induction m with
  | zero => simp [sumT]
  | succ m ih =>
    have e1 : sumT (m + 2) 100 = 100 ^ (m + 1) + 100 * sumT (m + 1) 100 := rfl
    rw [e1, ih, Int.pow_succ]
    push_cast
    grind
theorem low_whole (n d : Int) (hd : 1 ≤ d) : lowN (n * d) d = n ∧ lowD (n * d) d = 1 := by
  have e : (Int.gcd (n * d) d : Int) = d := by rw [Int.gcd_mul_left_left]; omega
  unfold lowN lowD
  rw [e]
  exact ⟨Int.mul_ediv_cancel _ (by omega), Int.ediv_self (by omega)⟩
theorem low_one (n : Int) : lowN n 1 = n ∧ lowD n 1 = 1 := by have := low_whole n 1 (by decide); simpa using this
theorem cmp_whole {n d m : Int} (hd : 1 ≤ d) : (cmpR (lowN n d) (lowD n d) m 1 < 0 ↔ n < m * d) := by
  have h := (cmp_low (n := n) (d := d) (m := m) (e := 1) hd (by decide)).2
  rw [(low_one m).1, (low_one m).2, Int.mul_one] at h
  exact h
/-- What the statement asks of Gain. -/
theorem gains_le {p k q l : Int} (h1 : (liftedR p k 1).2.2 = 0) (h2 : (liftedR q l 1).2.2 = 0) (h3 : p ≤ q) (h4 : k ≤ l) : cmpR (liftedR p k 1).1 (liftedR p k 1).2.1 (liftedR q l 1).1 (liftedR q l 1).2.1 ≤ 0 := by
  by_cases hv : valT p k = true
  · by_cases hw : valT q l = true
    · obtain ⟨P, rfl, a1, a2, a3, a4⟩ := valT_nat hv
      obtain ⟨Q, rfl, b1, b2, b3, b4⟩ := valT_nat hw
      rw [gainR_eq hv, gainR_eq hw]
      exact (cmp_low (pow100_le (by omega)).1 (pow100_le (by omega)).1).1.2 (gain_le a3 h4 a1 (by omega))
    · simp [liftedR, hw] at h2
  · simp [liftedR, hv] at h1
theorem gain_full {p k : Int} (h1 : (liftedR p k 1).2.2 = 0) (h2 : k = 100) : (liftedR p k 1).1 = p ∧ (liftedR p k 1).2.1 = 1 := by
  by_cases hv : valT p k = true
  · obtain ⟨P, rfl, a1, a2, a3, a4⟩ := valT_nat hv
    rw [gainR_eq hv]
    subst h2
    obtain ⟨m, rfl⟩ : ∃ m, P = m + 1 := ⟨P - 1, by omega⟩
    rw [sumT_full]
    exact low_whole _ _ (pow100_le (by omega)).1
  · simp [liftedR, hv] at h1
/-- What the statement asks of Pull. -/
theorem pull_ok {p k load : Int} (h : (pullR p k load).2 = 0) : 0 ≤ (pullR p k load).1 ∧ (pullR p k load).1 ≤ 1000000 ∧ (liftedR p k (pullR p k load).1).2.2 = 0 ∧
    0 ≤ cmpR (liftedR p k (pullR p k load).1).1 (liftedR p k (pullR p k load).1).2.1 load 1 ∧ ((pullR p k load).1 = 0 → load = 0) ∧
    (0 < (pullR p k load).1 → (liftedR p k ((pullR p k load).1 - 1)).2.2 = 0 ∧ cmpR (liftedR p k ((pullR p k load).1 - 1)).1 (liftedR p k ((pullR p k load).1 - 1)).2.1 load 1 < 0) := by
  by_cases hv : valT p k = true
  · by_cases hl : okLoad load = true
    · obtain ⟨P, rfl, a1, a2, a3, a4⟩ := valT_nat hv
      obtain ⟨b1, b2⟩ := okLoad_iff.1 hl
      have hp := pow100_le (m := P - 1) (by omega)
      have hU := (sumT_bd (m := P) a3 a4).2.2 a1
      have hf : pullR P k load = (ceilq (load * 100 ^ (P - 1)) (sumT P k), 0) := by simp [pullR, hv, hl]
      have hlf : ∀ x, 0 ≤ x → x ≤ 1000000 → liftedR P k x = (lowN (sumT P k * x) (100 ^ (P - 1)), lowD (sumT P k * x) (100 ^ (P - 1)), 0) := fun x h1 h2 => by
        have : okLoad x = true := okLoad_iff.2 ⟨h1, h2⟩
        simp [liftedR, hv, this]
      rw [hf]
      generalize sumT P k = S at *
      generalize (100 : Int) ^ (P - 1) = U at *
      have hm := load_mul b1 b2 hp.1 hp.2
      -- the quotient rounded up
      have hq1 : load * U ≤ ceilq (load * U) S * S := by
        unfold ceilq
        have h1 := Int.ediv_mul_add_emod (-(load * U)) S
        have h2 := Int.emod_nonneg (-(load * U)) (show S ≠ 0 by omega)
        rw [Int.neg_mul]; omega
      have hq2 : (ceilq (load * U) S - 1) * S < load * U := by
        unfold ceilq
        have h1 := Int.ediv_mul_add_emod (-(load * U)) S
        have h3 := Int.emod_lt_of_pos (-(load * U)) (show 0 < S by omega)
        rw [Int.sub_mul, Int.neg_mul]; omega
      have hq0 := (ceilq_bd (a := load * U) (b := S) hm.1 (by omega)).1
      have hq3 : ceilq (load * U) S ≤ load := by
        rcases Int.lt_or_le load (ceilq (load * U) S) with h | h
        · have h1 : load * S ≤ (ceilq (load * U) S - 1) * S := Int.mul_le_mul_of_nonneg_right (by omega) (by omega)
          have h2 : load * U ≤ load * S := Int.mul_le_mul_of_nonneg_left hU b1
          omega
        · exact h
      generalize ceilq (load * U) S = c at *
      refine ⟨hq0, by omega, ?_, ?_, ?_, ?_⟩
      · rw [hlf c hq0 (by omega)]
      · rw [hlf c hq0 (by omega)]
        have := cmp_whole (n := S * c) (m := load) hp.1
        rw [Int.mul_comm S c] at this ⊢
        dsimp only
        omega
      · intro h0
        simp only at h0
        subst h0
        rw [Int.zero_mul] at hq1
        rcases Int.lt_or_le 0 load with h | h
        · have := Int.mul_pos h (show 0 < U by omega); omega
        · omega
      · intro h0
        simp only at h0
        rw [hlf (c - 1) (by omega) (by omega)]
        refine ⟨rfl, ?_⟩
        rw [cmp_whole hp.1, Int.mul_comm S]
        exact hq2
    · simp [pullR, hv, hl] at h
  · simp [pullR, hv] at h
end Go.Proofs.Ytkphkknlenjjhaa
