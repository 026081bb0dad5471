/- What is left of a rope: plain. No program is named. -/
import Derived.Test.YtkphkknlenjjhaaUses
set_option linter.unusedSimpArgs false
set_option linter.unusedVariables false
namespace Go.Proofs.Ytkphkknlenjjhaa
open Go.RowKit

/-- How many of the first n uses lie up to a day, cut from the end. -/
def cutN (us : List (Int × Int)) (day : Int) : Nat → Nat
  | 0 => 0
  | n+1 => if day < (us[n]?.getD (0,0)).1 then cutN us day n else n+1
theorem cutN_le (us : List (Int × Int)) (day : Int) : ∀ n, cutN us day n ≤ n := by
  intro n
  induction n with
  | zero => exact Nat.le_refl _
  | succ n ih => unfold cutN; split <;> omega
def cst (s l : Int) : Int := (l * 100 + s - 1) / s
theorem cst_bd {s l : Int} (hs : 1 ≤ s) (h0 : 0 ≤ l) (h1 : l ≤ 1000000) : 0 ≤ cst s l ∧ cst s l ≤ 100000000 := by
  unfold cst
  rw [ceilq_eq hs]
  have := ceilq_bd (a := l * 100) (b := s) (by omega) hs
  omega
theorem cst_floor {s l : Int} (hs : 1 ≤ s) : (-100 * l) / s = - cst s l := by
  unfold cst
  rw [ceilq_eq hs]
  unfold ceilq
  rw [Int.neg_neg]
  congr 1
  omega
def lsum (s : Int) (xs : List (Int × Int)) : Int := xs.foldl (fun a x => a + cst s x.2) 0
def lsumD (s day : Int) (xs : List (Int × Int)) : Int := xs.foldl (fun a x => a + if x.1 ≤ day then cst s x.2 else 0) 0
theorem lsum_snoc (s : Int) (xs : List (Int × Int)) (x : Int × Int) : lsum s (xs ++ [x]) = lsum s xs + cst s x.2 := by simp [lsum]
theorem lsumD_snoc (s day : Int) (xs : List (Int × Int)) (x : Int × Int) : lsumD s day (xs ++ [x]) = lsumD s day xs + if x.1 ≤ day then cst s x.2 else 0 := by simp [lsumD]
theorem take_sn {xs : List (Int × Int)} {k : Nat} (h : k < xs.length) : xs.take (k+1) = xs.take k ++ [xs[k]?.getD (0,0)] := by
  rw [List.take_succ_eq_append_getElem h]; simp [List.getElem?_eq_getElem h]
theorem lsum_bd {s : Int} {us : List (Int × Int)} (hs : 1 ≤ s) (hu : ∀ k, k < us.length → (0 ≤ (us[k]?.getD (0,0)).1 ∧ (us[k]?.getD (0,0)).1 ≤ 100000) ∧ 0 ≤ (us[k]?.getD (0,0)).2 ∧ (us[k]?.getD (0,0)).2 ≤ 1000000) : ∀ k, k ≤ us.length → 0 ≤ lsum s (us.take k) ∧ lsum s (us.take k) ≤ k * 100000000 := by
  intro k
  induction k with
  | zero => intro _; simp [lsum]
  | succ k ih =>
    intro h
    have := ih (by omega)
    have h2 := hu k (by omega)
    have h3 := cst_bd hs h2.2.1 h2.2.2
    rw [take_sn (by omega), lsum_snoc]
    omega
theorem lsumD_bd {s day : Int} {us : List (Int × Int)} (hs : 1 ≤ s) (hu : ∀ k, k < us.length → (0 ≤ (us[k]?.getD (0,0)).1 ∧ (us[k]?.getD (0,0)).1 ≤ 100000) ∧ 0 ≤ (us[k]?.getD (0,0)).2 ∧ (us[k]?.getD (0,0)).2 ≤ 1000000) : ∀ k, k ≤ us.length → 0 ≤ lsumD s day (us.take k) ∧ lsumD s day (us.take k) ≤ k * 100000000 := by
  intro k
  induction k with
  | zero => intro _; simp [lsumD]
  | succ k ih =>
    intro h
    have := ih (by omega)
    have h2 := hu k (by omega)
    have h3 := cst_bd hs h2.2.1 h2.2.2
    rw [take_sn (by omega), lsumD_snoc]
    split <;> omega
theorem sorted_le {us : List (Int × Int)} (hu : ∀ k, k + 1 < us.length → (us[k]?.getD (0,0)).1 ≤ (us[k+1]?.getD (0,0)).1) {i : Nat} : ∀ j, i ≤ j → j < us.length → (us[i]?.getD (0,0)).1 ≤ (us[j]?.getD (0,0)).1 := by
  intro j
  induction j with
  | zero => intro h _; rw [show i = 0 by omega]; exact Int.le_refl _
  | succ j ih =>
    intro h h2
    by_cases he : i = j + 1
    · rw [he]; exact Int.le_refl _
    · exact Int.le_trans (ih (by omega) (by omega)) (hu j h2)
theorem lsum_eqD {s day : Int} {us : List (Int × Int)} : ∀ n, n ≤ us.length → (∀ k, k < n → (us[k]?.getD (0,0)).1 ≤ day) → lsum s (us.take n) = lsumD s day (us.take n) := by
  intro n
  induction n with
  | zero => intro _ _; rfl
  | succ n ih =>
    intro h h2
    rw [take_sn (by omega), lsum_snoc, lsumD_snoc, ih (by omega) (fun k hk => h2 k (by omega)), if_pos (h2 n (by omega))]
theorem cut_sum {s day : Int} {us : List (Int × Int)} (hu : ∀ k, k + 1 < us.length → (us[k]?.getD (0,0)).1 ≤ (us[k+1]?.getD (0,0)).1) : ∀ n, n ≤ us.length → lsum s (us.take (cutN us day n)) = lsumD s day (us.take n) := by
  intro n
  induction n with
  | zero => intro _; rfl
  | succ n ih =>
    intro h
    unfold cutN
    split
    · rename_i hd
      rw [ih (by omega), take_sn (by omega), lsumD_snoc, if_neg (by omega)]
      omega
    · rename_i hd
      exact lsum_eqD (n+1) h (fun k hk => by have := sorted_le hu (i := k) n (by omega) (by omega); omega)
/-- What is left of a rope on a day. -/
def leftR (s d : Int) (us : List (Int × Int)) (day : Int) : Int := max 0 (1000 - (d * day + lsumD s day us))
theorem leftR_bd (s d : Int) (us : List (Int × Int)) (day : Int) {x : Int} (h : 0 ≤ d * day + lsumD s day us) : 0 ≤ leftR s d us day ∧ leftR s d us day ≤ 1000 := by
  unfold leftR; omega
theorem leftR_bd' {s d : Int} {us : List (Int × Int)} {day : Int} (hs : 1 ≤ s) (hd : 0 ≤ d) (hu : goodU us = true) (h0 : 0 ≤ day) : 0 ≤ leftR s d us day ∧ leftR s d us day ≤ 1000 := by
  obtain ⟨h1, h2, h3⟩ := goodU_spec hu
  have h4 := (lsumD_bd (day := day) hs h2 us.length (Nat.le_refl _)).1
  rw [List.take_length] at h4
  have h5 : 0 ≤ d * day := Int.mul_nonneg hd h0
  unfold leftR; omega
theorem Pairs.take {w : World} {B : Nat} {A : Option Addr} {len : Nat} {xs : List (Int × Int)} (h : Pairs w B A len xs) (n : Nat) (hn : n ≤ len) : Pairs w B A n (xs.take n) := by
  refine ⟨by rw [List.length_take, h.1]; omega, fun h0 => ?_⟩
  obtain ⟨b, off, h1, h2, h3⟩ := h.2 (by omega)
  refine ⟨b, off, h1, h2, fun k hk => ?_⟩
  rw [List.getElem?_take, if_pos hk]
  exact h3 k (by omega)
end Go.Proofs.Ytkphkknlenjjhaa
