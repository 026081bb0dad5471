/- The plain law of levers: the two shares add up to all weights; a load that is moved makes its side's share no less. No program is named. -/
import Derived.Test.YtkphkknlenjjhaaShares
set_option linter.unusedSimpArgs false
set_option linter.unusedVariables false
namespace Go.Proofs.Ytkphkknlenjjhaa
open Go.RowKit

theorem foldl_shift {α : Type} (f : α → Int) : ∀ (xs : List α) (a : Int), xs.foldl (fun s x => s + f x) a = a + xs.foldl (fun s x => s + f x) 0 := by
  intro xs
  induction xs with
  | nil => intro a; simp
  | cons x xs ih =>
    intro a
    rw [List.foldl_cons, List.foldl_cons, ih (a + f x), ih (0 + f x)]
    omega
theorem foldl_set {α : Type} (f : α → Int) (d y : α) : ∀ (xs : List α) (i : Nat), i < xs.length → (xs.set i y).foldl (fun s x => s + f x) 0 = xs.foldl (fun s x => s + f x) 0 + (f y - f (xs[i]?.getD d)) := by
  intro xs
  induction xs with
  | nil => intro i h; exact absurd h (by simp)
  | cons x xs ih =>
    intro i h
    cases i with
    | zero =>
      simp only [List.set_cons_zero, List.foldl_cons, List.getElem?_cons_zero, Option.getD_some]
      rw [foldl_shift f xs (0 + f y), foldl_shift f xs (0 + f x)]
      omega
    | succ i =>
      simp only [List.set_cons_succ, List.foldl_cons, List.getElem?_cons_succ]
      rw [foldl_shift f _ (0 + f x), foldl_shift f xs (0 + f x), ih i (by simpa using h)]
      omega
theorem wsum_set (xs : List (Int × Int)) (i : Nat) (y : Int × Int) (h : i < xs.length) : wsum (xs.set i y) = wsum xs + (y.2 - (xs[i]?.getD (0,0)).2) := foldl_set (fun x : Int × Int => x.2) (0,0) y xs i h
theorem msum_set (xs : List (Int × Int)) (i : Nat) (y : Int × Int) (h : i < xs.length) : msum (xs.set i y) = msum xs + (y.2 * y.1 - (xs[i]?.getD (0,0)).2 * (xs[i]?.getD (0,0)).1) := foldl_set (fun x : Int × Int => x.2 * x.1) (0,0) y xs i h

theorem low_one {W k : Int} (hk : 1 ≤ k) : lowN (W * k) k = W ∧ lowD (W * k) k = 1 := by
  have hg : (Int.gcd (W * k) k : Int) = k := by
    rw [Int.gcd_comm]
    have : Int.gcd k (W * k) = k.natAbs := Int.gcd_eq_left_iff_dvd (by omega) |>.2 (Int.dvd_mul_left W k) |> fun h => by omega
    omega
  unfold lowN lowD
  rw [hg]
  exact ⟨Int.mul_ediv_cancel _ (by omega), Int.ediv_self (by omega)⟩

theorem goodL_set {span : Int} {xs : List (Int × Int)} (h : goodL span xs = true) {i : Nat} (hi : i < xs.length) {to : Int} (h0 : (xs[i]?.getD (0,0)).1 ≤ to) (h1 : to ≤ span) :
    goodL span (xs.set i (to, (xs[i]?.getD (0,0)).2)) = true := by
  obtain ⟨h2, h3, h4⟩ := goodL_spec h
  have hm : xs[i]?.getD (0,0) ∈ xs := by rw [List.getElem?_eq_getElem hi]; exact List.getElem_mem _
  have h5 := h4 _ hm
  have hx : ∀ x ∈ xs.set i (to, (xs[i]?.getD (0,0)).2), goodX span x = true := by
    intro x hx
    rcases List.mem_or_eq_of_mem_set hx with h | h
    · have := h4 x h
      simp only [goodX, Bool.and_eq_true]
      exact ⟨withinB_iff.2 ⟨this.1, this.2.1⟩, okLoad_iff.2 ⟨this.2.2.1, this.2.2.2⟩⟩
    · subst h
      simp only [goodX, Bool.and_eq_true]
      exact ⟨withinB_iff.2 ⟨by omega, h1⟩, okLoad_iff.2 ⟨h5.2.2.1, h5.2.2.2⟩⟩
  unfold goodL
  simp only [Bool.and_eq_true, List.all_eq_true, decide_eq_true_eq, List.length_set]
  exact ⟨hx, withinB_iff.2 h2, h3⟩

theorem levers_sum {span : Int} {xs : List (Int × Int)} (h : goodL span xs = true) :
    (1 ≤ shareD1 span xs ∧ shareD1 span xs ≤ 100000) ∧ (1 ≤ shareD2 span xs ∧ shareD2 span xs ≤ 100000) ∧ (0 ≤ shareN1 span xs ∧ shareN1 span xs ≤ 2000000000000) ∧ (0 ≤ shareN2 span xs ∧ shareN2 span xs ≤ 2000000000000) ∧
    shareN1 span xs * shareD2 span xs + shareN2 span xs * shareD1 span xs = wsum xs * (shareD1 span xs * shareD2 span xs) ∧
    shareN1 span xs * span = (wsum xs * span - msum xs) * shareD1 span xs ∧ shareN2 span xs * span = msum xs * shareD2 span xs := by
  obtain ⟨⟨h1, h2⟩, h3, h4⟩ := goodL_spec h
  obtain ⟨⟨s1, s2⟩, ⟨s3, s4⟩, ⟨s5, s6⟩, s7⟩ := sums_all (n := 20) (by omega) h2 h4 h3
  have e1 : shareN1 span xs = lowN (wsum xs * span - msum xs) span := if_pos h
  have e2 : shareD1 span xs = lowD (wsum xs * span - msum xs) span := if_pos h
  have e3 : shareN2 span xs = lowN (msum xs) span := if_pos h
  have e4 : shareD2 span xs = lowD (msum xs) span := if_pos h
  rw [e1, e2, e3, e4]
  rw [s7] at s5 s6
  have a1 := lowD_pos (wsum xs * span - msum xs) span h1
  have a2 := lowD_le (wsum xs * span - msum xs) span h1
  have a3 := lowN_nonneg (wsum xs * span - msum xs) span h1 s5
  have a4 := lowN_le (wsum xs * span - msum xs) span h1 s5
  have b1 := lowD_pos (msum xs) span h1
  have b2 := lowD_le (msum xs) span h1
  have b3 := lowN_nonneg (msum xs) span h1 s3
  have b4 := lowN_le (msum xs) span h1 s3
  have c1 := low_cross (wsum xs * span - msum xs) span
  have c2 := low_cross (msum xs) span
  generalize lowN (wsum xs * span - msum xs) span = N1 at *
  generalize lowD (wsum xs * span - msum xs) span = D1 at *
  generalize lowN (msum xs) span = N2 at *
  generalize lowD (msum xs) span = D2 at *
  generalize wsum xs = W at *
  generalize msum xs = M at *
  refine ⟨⟨a1, by omega⟩, ⟨b1, by omega⟩, ⟨a3, by omega⟩, ⟨b3, by omega⟩, ?_, c1, c2⟩
  have : (N1 * D2 + N2 * D1 - W * (D1 * D2)) * span = 0 := by grind
  rcases Int.mul_eq_zero.1 this with h | h <;> omega

theorem sgn_nonneg {x : Int} (h : 0 ≤ x) : 0 ≤ sgn x := by unfold sgn; split <;> (try split) <;> omega
theorem sgn_nonpos {x : Int} (h : x ≤ 0) : sgn x ≤ 0 := by unfold sgn; split <;> (try split) <;> omega
theorem mul_le_cancel {a b s : Int} (hs : 1 ≤ s) (h : a * s ≤ b * s) : a ≤ b := Int.le_of_mul_le_mul_right h (by omega)

theorem levers_moved {span : Int} {xs : List (Int × Int)} (h : goodL span xs = true) {i : Nat} (hi : i < xs.length) {to : Int} (h0 : (xs[i]?.getD (0,0)).1 ≤ to) (h1 : to ≤ span)
    {ys : List (Int × Int)} (hy : ys = xs.set i (to, (xs[i]?.getD (0,0)).2)) :
    0 ≤ cmpR (shareN2 span ys) (shareD2 span ys) (shareN2 span xs) (shareD2 span xs) ∧ cmpR (shareN1 span ys) (shareD1 span ys) (shareN1 span xs) (shareD1 span xs) ≤ 0 := by
  have hg := goodL_set h hi h0 h1
  rw [← hy] at hg
  obtain ⟨⟨h2, h3⟩, h4, h5⟩ := goodL_spec h
  have hm : xs[i]?.getD (0,0) ∈ xs := by rw [List.getElem?_eq_getElem hi]; exact List.getElem_mem _
  have h6 := h5 _ hm
  have w1 : wsum ys = wsum xs := by rw [hy, wsum_set xs i _ hi]; dsimp only; omega
  have m1 : msum xs ≤ msum ys := by
    rw [hy, msum_set xs i _ hi]
    dsimp only
    have : (xs[i]?.getD (0,0)).2 * (xs[i]?.getD (0,0)).1 ≤ (xs[i]?.getD (0,0)).2 * to := Int.mul_le_mul_of_nonneg_left h0 h6.2.2.1
    omega
  obtain ⟨⟨a1, a2⟩, ⟨b1, b2⟩, ⟨c1, c2⟩, ⟨d1, d2⟩, _, e1, e2⟩ := levers_sum h
  obtain ⟨⟨a1', a2'⟩, ⟨b1', b2'⟩, ⟨c1', c2'⟩, ⟨d1', d2'⟩, _, e1', e2'⟩ := levers_sum hg
  rw [w1] at e1'
  unfold cmpR den1
  rw [if_neg (by omega), if_neg (by omega), if_neg (by omega), if_neg (by omega)]
  clear w1 hy hm h6 hg h h5
  generalize shareN1 span xs = N1 at *
  generalize shareD1 span xs = D1 at *
  generalize shareN2 span xs = N2 at *
  generalize shareD2 span xs = D2 at *
  generalize shareN1 span ys = N3 at *
  generalize shareD1 span ys = D3 at *
  generalize shareN2 span ys = N4 at *
  generalize shareD2 span ys = D4 at *
  generalize wsum xs = W at *
  generalize msum xs = M at *
  generalize msum ys = M' at *
  have k1 : (0:Int) ≤ D2 * D4 := Int.mul_nonneg (by omega) (by omega)
  have k2 : (0:Int) ≤ D1 * D3 := Int.mul_nonneg (by omega) (by omega)
  refine ⟨sgn_nonneg ?_, sgn_nonpos ?_⟩
  · have k3 : 0 ≤ (M' - M) * (D2 * D4) := Int.mul_nonneg (by omega) k1
    have k4 : (N4 * D2 - N2 * D4) * span = (M' - M) * (D2 * D4) := by grind
    have := mul_le_cancel (a := 0) (b := N4 * D2 - N2 * D4) h2 (by omega)
    omega
  · have k3 : 0 ≤ (M' - M) * (D1 * D3) := Int.mul_nonneg (by omega) k2
    have k4 : (N1 * D3 - N3 * D1) * span = (M' - M) * (D1 * D3) := by grind
    have := mul_le_cancel (a := 0) (b := N1 * D3 - N3 * D1) h2 (by omega)
    omega
end Go.Proofs.Ytkphkknlenjjhaa
