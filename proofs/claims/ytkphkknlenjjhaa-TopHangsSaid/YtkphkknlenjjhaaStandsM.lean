/- Cradles: neither rope bears more than the limit exactly if Walk has the place: plain. -/
import Derived.Test.YtkphkknlenjjhaaWalkP
import Derived.Test.YtkphkknlenjjhaaLevM
set_option linter.unusedSimpArgs false
set_option linter.unusedVariables false
namespace Go.Proofs.Ytkphkknlenjjhaa
open Go.RowKit

theorem sgn_le_iff {x : Int} : sgn x ≤ 0 ↔ x ≤ 0 := by
  rcases sgn_cases x with h | h | h <;> omega
theorem walk_bits {span : Int} {xs : List (Int × Int)} {wt lim : Int} (he : walkE span xs wt lim = 0 ∨ walkE span xs wt lim = 8) : goodL span xs = true ∧ (0 ≤ wt ∧ wt ≤ 1000000) ∧ (0 ≤ lim ∧ lim ≤ 1000000) ∧ (walkE span xs wt lim = 8 ↔ highP span xs wt lim < lowP span xs wt lim) := by
  have hE : walkE span xs wt lim = if goodL span xs then (if okLoad wt && okLoad lim then (if highP span xs wt lim < lowP span xs wt lim then 8 else 0) else 7) else 1 := rfl
  generalize walkE span xs wt lim = E at *
  by_cases hg : goodL span xs = true
  · rw [if_pos hg] at hE
    by_cases ho : (okLoad wt && okLoad lim) = true
    · rw [if_pos ho] at hE
      rw [Bool.and_eq_true] at ho
      refine ⟨hg, okLoad_iff.1 ho.1, okLoad_iff.1 ho.2, ?_⟩
      by_cases hl : highP span xs wt lim < lowP span xs wt lim
      · rw [if_pos hl] at hE; exact ⟨fun _ => hl, fun _ => hE⟩
      · rw [if_neg hl] at hE; exact ⟨fun h => by omega, fun h => absurd h hl⟩
    · rw [if_neg ho] at hE; omega
  · rw [if_neg hg] at hE; omega
theorem cross_le {N D lim F span : Int} (hd : 1 ≤ D) (hs : 1 ≤ span) (h : N * span = F * D) : N * 1 - lim * D ≤ 0 ↔ F ≤ lim * span := by
  constructor
  · intro h1
    have h2 : N * span ≤ (lim * D) * span := Int.mul_le_mul_of_nonneg_right (by omega) (by omega)
    have h3 : (lim * D) * span = (lim * span) * D := by rw [Int.mul_assoc, Int.mul_comm D span, ← Int.mul_assoc]
    exact mul_le_cancel hd (by omega)
  · intro h1
    have h2 : F * D ≤ (lim * span) * D := Int.mul_le_mul_of_nonneg_right h1 (by omega)
    have h3 : (lim * D) * span = (lim * span) * D := by rw [Int.mul_assoc, Int.mul_comm D span, ← Int.mul_assoc]
    have := mul_le_cancel (a := N) (b := lim * D) hs (by omega)
    omega
theorem stands {span : Int} {xs : List (Int × Int)} {wt lim a : Int} (he : walkE span xs wt lim = 0 ∨ walkE span xs wt lim = 8) (hg : goodE span (xs ++ [(a, wt)]) = 0) :
    (cmpR (shareN1 span (xs ++ [(a, wt)])) (shareD1 span (xs ++ [(a, wt)])) lim 1 ≤ 0 ∧ cmpR (shareN2 span (xs ++ [(a, wt)])) (shareD2 span (xs ++ [(a, wt)])) lim 1 ≤ 0) ↔
    (walkE span xs wt lim = 0 ∧ walkL span xs wt lim ≤ a ∧ a ≤ walkH span xs wt lim) := by
  obtain ⟨hgx, hw, hl, h8⟩ := walk_bits he
  have hgl : goodL span (xs ++ [(a, wt)]) = true := by
    unfold goodE at hg
    by_cases h : goodL span (xs ++ [(a, wt)]) = true
    · exact h
    · rw [if_neg h] at hg; omega
  obtain ⟨⟨g1, g2⟩, _, g4⟩ := goodL_spec hgl
  have ha := g4 (a, wt) (by simp)
  obtain ⟨⟨d1, _⟩, ⟨d2, _⟩, _, _, _, q1, q2⟩ := levers_sum hgl
  have e1 : wsum (xs ++ [(a, wt)]) * span - msum (xs ++ [(a, wt)]) = fstR span xs wt a := rfl
  have e2 : msum (xs ++ [(a, wt)]) = sndR xs wt a := rfl
  rw [e1] at q1
  rw [e2] at q2
  unfold cmpR
  rw [sgn_le_iff, sgn_le_iff, show den1 1 = 1 from rfl, show den1 (shareD1 span (xs ++ [(a, wt)])) = shareD1 span (xs ++ [(a, wt)]) from if_neg (by omega), show den1 (shareD2 span (xs ++ [(a, wt)])) = shareD2 span (xs ++ [(a, wt)]) from if_neg (by omega)]
  rw [cross_le d1 g1 q1, cross_le d2 g1 q2]
  obtain ⟨⟨r1, r2⟩, r3, r4⟩ := leastC_spec' (loP span xs wt lim) span (by omega)
  obtain ⟨⟨t1, t2⟩, t3, t4⟩ := leastC_spec' (hiP span xs wt lim) span (by omega)
  have hlo : lowP span xs wt lim = leastC (loP span xs wt lim) span := rfl
  have hhi : highP span xs wt lim = leastC (hiP span xs wt lim) span - 1 := rfl
  have k1 : loP span xs wt lim a = true ↔ leastC (loP span xs wt lim) span ≤ a := by
    constructor
    · intro h
      rcases Int.lt_or_le a (leastC (loP span xs wt lim) span) with hlt | hge
      · rw [r3 a ha.1 hlt] at h; cases h
      · exact hge
    · intro h
      exact loP_mono hw.1 span _ a r1 h ha.2.1 (r4 (by omega))
  have k2 : hiP span xs wt lim a = true ↔ leastC (hiP span xs wt lim) span ≤ a := by
    constructor
    · intro h
      rcases Int.lt_or_le a (leastC (hiP span xs wt lim) span) with hlt | hge
      · rw [t3 a ha.1 hlt] at h; cases h
      · exact hge
    · intro h
      exact hiP_mono hw.1 span _ a t1 h ha.2.1 (t4 (by omega))
  simp only [loP, hiP, decide_eq_true_eq] at k1 k2
  rw [← hlo] at k1
  have hL : walkL span xs wt lim = if walkE span xs wt lim = 0 then lowP span xs wt lim else 0 := rfl
  have hH : walkH span xs wt lim = if walkE span xs wt lim = 0 then highP span xs wt lim else 0 := rfl
  rcases he with he | he
  · rw [if_pos he] at hL hH
    constructor
    · intro h; exact ⟨he, by rw [hL]; exact k1.1 h.1, by rw [hH]; have := mt k2.2 (by omega); omega⟩
    · intro h; rw [hL, hH] at h; exact ⟨k1.2 h.2.1, by have := mt k2.1 (by omega); omega⟩
  · have := h8.1 he
    constructor
    · intro h
      have h5 := k1.1 h.1
      have h6 := mt k2.2 (show ¬ lim * span < sndR xs wt a by omega)
      omega
    · intro h; omega
end Go.Proofs.Ytkphkknlenjjhaa
