/- Cradles: where a man may stand, by division: plain. -/
import Derived.Test.YthninhkimhnegaaWalkP
set_option linter.unusedSimpArgs false
set_option linter.unusedVariables false
namespace Go.Proofs.Ythninhkimhnegaa
open Go.RowKit

theorem ediv_bd {x wt K : Int} (hw : 1 ≤ wt) (hK : 0 ≤ K) (h1 : -K ≤ x) (h2 : x ≤ K) : -K ≤ x / wt ∧ x / wt ≤ K := by
  have h3 : K * 1 ≤ K * wt := Int.mul_le_mul_of_nonneg_left hw hK
  refine ⟨(Int.le_ediv_iff_mul_le (by omega)).2 ?_, Int.ediv_le_of_le_mul (by omega) (by omega)⟩
  rw [Int.neg_mul]
  omega
theorem lowP_pos {span : Int} {xs : List (Int × Int)} {wt lim : Int} (hs : 0 ≤ span) (hw : 1 ≤ wt) : lowP span xs wt lim = max 0 (min (span - (lim * span - (wsum xs * span - msum xs)) / wt) (span + 1)) := by
  have key : ∀ a, loP span xs wt lim a = decide (span - (lim * span - (wsum xs * span - msum xs)) / wt ≤ a) := by
    intro a
    unfold loP
    rw [fstR_eq]
    refine decide_eq_decide.2 ?_
    generalize wsum xs * span - msum xs = F
    generalize lim * span = L
    have h1 : span - a ≤ (L - F) / wt ↔ (span - a) * wt ≤ L - F := Int.le_ediv_iff_mul_le (by omega)
    have h2 : (span - a) * wt = wt * span - wt * a := by rw [Int.sub_mul, Int.mul_comm span wt, Int.mul_comm a wt]
    rw [h2] at h1
    omega
  refine LSpec.eq ⟨by omega, fun a ha hb => ?_, fun h => ?_⟩
  · rw [key, decide_eq_false (by omega)]
  · rw [key, decide_eq_true (by omega)]
theorem highP_pos {span : Int} {xs : List (Int × Int)} {wt lim : Int} (hs : 0 ≤ span) (hw : 1 ≤ wt) : highP span xs wt lim = max (-1) (min span ((lim * span - msum xs) / wt)) := by
  have key : ∀ a, hiP span xs wt lim a = decide ((lim * span - msum xs) / wt < a) := by
    intro a
    unfold hiP
    rw [sndR_eq]
    refine decide_eq_decide.2 ?_
    generalize lim * span = L
    have h1 : a ≤ (L - msum xs) / wt ↔ a * wt ≤ L - msum xs := Int.le_ediv_iff_mul_le (by omega)
    rw [Int.mul_comm a wt] at h1
    omega
  have : leastC (hiP span xs wt lim) span = max (-1) (min span ((lim * span - msum xs) / wt)) + 1 := by
    refine LSpec.eq ⟨by omega, fun a ha hb => ?_, fun h => ?_⟩
    · rw [key, decide_eq_false (by omega)]
    · rw [key, decide_eq_true (by omega)]
  unfold highP
  rw [this]
  omega
theorem lowP_zero {span : Int} {xs : List (Int × Int)} {lim : Int} (hs : 0 ≤ span) : lowP span xs 0 lim = if wsum xs * span - msum xs ≤ lim * span then 0 else span + 1 := by
  have key : ∀ a, loP span xs 0 lim a = decide (wsum xs * span - msum xs ≤ lim * span) := by
    intro a
    unfold loP
    rw [fstR_eq]
    simp
  refine LSpec.eq ?_
  split
  · rename_i h
    exact ⟨by omega, fun a ha hb => absurd hb (by omega), fun _ => by rw [key, decide_eq_true h]⟩
  · rename_i h
    exact ⟨by omega, fun a ha hb => by rw [key, decide_eq_false h], fun h => absurd h (by omega)⟩
theorem highP_zero {span : Int} {xs : List (Int × Int)} {lim : Int} (hs : 0 ≤ span) : highP span xs 0 lim = if lim * span < msum xs then -1 else span := by
  have key : ∀ a, hiP span xs 0 lim a = decide (lim * span < msum xs) := by
    intro a
    unfold hiP
    rw [sndR_eq]
    simp
  have : leastC (hiP span xs 0 lim) span = if lim * span < msum xs then 0 else span + 1 := by
    refine LSpec.eq ?_
    split
    · rename_i h
      exact ⟨by omega, fun a ha hb => absurd hb (by omega), fun _ => by rw [key, decide_eq_true h]⟩
    · rename_i h
      exact ⟨by omega, fun a ha hb => by rw [key, decide_eq_false h], fun h => absurd h (by omega)⟩
  unfold highP
  rw [this]
  split <;> omega
end Go.Proofs.Ythninhkimhnegaa
