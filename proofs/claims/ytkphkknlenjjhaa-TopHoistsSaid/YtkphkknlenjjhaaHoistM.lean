/- A rope and its tackle: plain. No program is named. -/
import Derived.Test.YtkphkknlenjjhaaGainM
import Derived.Test.YtkphkknlenjjhaaWear4
set_option linter.unusedSimpArgs false
set_option linter.unusedVariables false
namespace Go.Proofs.Ytkphkknlenjjhaa
open Go.RowKit

theorem pull_lift {p k load : Int} (h : (pullR p k load).2 = 0) : ∃ P : Nat, p = P ∧ 1 ≤ P ∧ P ≤ 6 ∧ (0 ≤ (pullR p k load).1 ∧ (pullR p k load).1 ≤ 1000000) ∧ (liftedR p k (pullR p k load).1).2.2 = 0 ∧
    cmpR (liftedR p k (pullR p k load).1).1 (liftedR p k (pullR p k load).1).2.1 ((pullR p k load).1 * p) 1 ≤ 0 := by
  obtain ⟨h1, h2, h3, -⟩ := pull_ok h
  by_cases hv : valT p k = true
  · obtain ⟨P, rfl, a1, a2, a3, a4⟩ := valT_nat hv
    refine ⟨P, rfl, a1, a2, ⟨h1, h2⟩, h3, ?_⟩
    generalize (pullR P k load).1 = x at *
    have hp := pow100_le (m := P - 1) (by omega)
    have hlf : liftedR P k x = (lowN (sumT P k * x) (100 ^ (P - 1)), lowD (sumT P k * x) (100 ^ (P - 1)), 0) := by
      have : okLoad x = true := okLoad_iff.2 ⟨h1, h2⟩
      simp [liftedR, hv, this]
    rw [hlf]
    have hs : sumT P k ≤ P * 100 ^ (P - 1) := by
      have e := sumT_keep (m := P) a3 a4
      obtain ⟨m, rfl⟩ : ∃ m, P = m + 1 := ⟨P - 1, by omega⟩
      rw [sumT_full] at e
      exact e
    have hq := (cmp_low (n := sumT P k * x) (d := 100 ^ (P - 1)) (m := x * P) (e := 1) hp.1 (by decide)).1
    rw [(low_one (x * P)).1, (low_one (x * P)).2] at hq
    refine hq.2 ?_
    rw [Int.mul_one]
    have h5 : sumT P k * x ≤ P * 100 ^ (P - 1) * x := Int.mul_le_mul_of_nonneg_right hs h1
    have e : (P : Int) * 100 ^ (P - 1) * x = x * P * 100 ^ (P - 1) := by ac_rfl
    omega
  · simp [pullR, hv] at h
/-- What the rope may pull. -/
theorem may_safe {s d l : Int} {us : List (Int × Int)} {day x : Int} (h : safeE s d l us day = 0 ∨ safeE s d l us day = 10) (h0 : 0 ≤ x) (h1 : x ≤ 1000000) :
    errR s d l us day x = 0 ∧ mayV s d l us day x = (decide (safeE s d l us day = 0) && decide (x ≤ safeV s d l us day)) := by
  have ha : askR s d l us day = 0 := by
    have hE : safeE s d l us day = if askR s d l us day = 0 then (if leftR s d us day < l then 10 else 0) else askR s d l us day := rfl
    have hb : askR s d l us day = 0 ∨ askR s d l us day = 1 ∨ askR s d l us day = 7 := by
      unfold askR
      split
      · split
        · exact .inl rfl
        · exact .inr (.inr rfl)
      · exact .inr (.inl rfl)
    rcases hb with hb | hb | hb
    · exact hb
    · rw [hb, if_neg (by decide)] at hE; omega
    · rw [hb, if_neg (by decide)] at hE; omega
  have he : errR s d l us day x = 0 := by rw [err_ask, if_pos ha, if_pos (okLoad_iff.2 ⟨h0, h1⟩)]
  refine ⟨he, ?_⟩
  unfold mayV safeE safeV
  rw [if_pos he, if_pos ha, if_pos ha]
  unfold mayR
  by_cases hl : leftR s d us day < l
  · rw [if_pos hl, if_pos hl, decide_eq_false (show ¬ l ≤ leftR s d us day by omega)]; rfl
  · rw [if_neg hl, if_neg hl, decide_eq_true (show l ≤ leftR s d us day by omega), Bool.true_and, show decide ((0 : Int) = 0) = true from rfl, Bool.true_and]
    generalize s * leftR s d us day = y
    exact decide_eq_decide.2 (by omega)
end Go.Proofs.Ytkphkknlenjjhaa
