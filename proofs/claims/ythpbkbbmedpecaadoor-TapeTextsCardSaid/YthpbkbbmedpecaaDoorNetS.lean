/- Sums over the forests of a list of tapes, as the program makes them: plain. No program is named. -/
import Derived.Test.YthpbkbbmedpecaaDoorNetT
import Derived.IntWalk
set_option linter.unusedSimpArgs false
set_option linter.unusedVariables false
namespace Go.Proofs.YthpbkbbmedpecaaDoor
open Go.RowKit

/-- The sets without a circle, below k. -/
def fl (l : List Tp) (m k : Nat) : List Nat := (List.range k).filter fun s => (jk l s m).2
theorem fl_yes {l : List Tp} {m k : Nat} (h : (jk l k m).2 = true) : fl l m (k + 1) = fl l m k ++ [k] := by simp [fl, List.range_succ, List.filter_append, h]
theorem fl_no {l : List Tp} {m k : Nat} (h : (jk l k m).2 = false) : fl l m (k + 1) = fl l m k := by simp [fl, List.range_succ, List.filter_append, h]
theorem fl_len (l : List Tp) (m k : Nat) : (fl l m k).length ≤ k := by
  have := List.length_filter_le (fun s => (jk l s m).2) (List.range k)
  simpa [fl] using this
/-- A sum as the machine makes it. -/
def sumW (f : Nat → Int) : List Nat → Int := List.foldl (fun a s => if f s = 0 then a else wrap64 (a + f s)) 0
theorem sumW_snoc (f : Nat → Int) (pre : List Nat) (x : Nat) : sumW f (pre ++ [x]) = if f x = 0 then sumW f pre else wrap64 (sumW f pre + f x) := by simp [sumW]
theorem sumW_no {f : Nat → Int} {x : Nat} (pre : List Nat) (h : f x = 0) : sumW f (pre ++ [x]) = sumW f pre := by rw [sumW_snoc, if_pos h]
theorem sumW_yes {f : Nat → Int} {x : Nat} (pre : List Nat) (h : f x ≠ 0) : sumW f (pre ++ [x]) = wrap64 (sumW f pre + f x) := by rw [sumW_snoc, if_neg h]
theorem foldl_congr' {f g : Nat → Int} : ∀ (pre : List Nat) (a : Int), (∀ s, s ∈ pre → f s = g s) → pre.foldl (fun a s => if f s = 0 then a else wrap64 (a + f s)) a = pre.foldl (fun a s => if g s = 0 then a else wrap64 (a + g s)) a := by
  intro pre
  induction pre with
  | nil => intro a _; rfl
  | cons s pre ih => intro a h; simp only [List.foldl_cons]; rw [h s (List.mem_cons_self ..)]; exact ih _ (fun u hu => h u (List.mem_cons_of_mem _ hu))
theorem sumW_congr {f g : Nat → Int} {pre : List Nat} (h : ∀ s, s ∈ pre → f s = g s) : sumW f pre = sumW g pre := foldl_congr' pre 0 h
theorem sumW_zero {f : Nat → Int} (h : ∀ s, f s = 0) : ∀ pre : List Nat, sumW f pre = 0 := by
  intro pre
  rw [sumW_congr (g := fun _ => 0) (fun s _ => h s)]
  have : ∀ (pre : List Nat) (a : Int), pre.foldl (fun a _ => if (0 : Int) = 0 then a else wrap64 (a + 0)) a = a := by
    intro pre
    induction pre with
    | nil => intro a; rfl
    | cons s pre ih => intro a; show List.foldl _ (if (0 : Int) = 0 then a else wrap64 (a + 0)) pre = a; rw [if_pos rfl]; exact ih a
  exact this pre 0
/-- With small partial sums the machine's sum is the sum. -/
theorem sumW_fl {l : List Tp} {m : Nat} {f g : Nat → Int} (hg : ∀ s, g s = if (jk l s m).2 = true then f s else 0) {N : Nat} (hb : ∀ k, k ≤ N → 0 ≤ sumTo g k ∧ sumTo g k ≤ 713342911662882601) : ∀ k, k ≤ N → sumW f (fl l m k) = sumTo g k := by
  intro k
  induction k with
  | zero => intro _; rfl
  | succ k ih =>
    intro hk
    have h1 := ih (by omega)
    have h2 := hb (k + 1) hk
    have h3 : sumTo g (k + 1) = sumTo g k + g k := rfl
    rw [hg k] at h3
    cases ht : (jk l k m).2
    · rw [fl_no ht, h1, h3, ht]; simp
    · rw [ht, if_pos rfl] at h3
      by_cases h0 : f k = 0
      · rw [fl_yes ht, sumW_no _ h0, h1, h3, h0]; omega
      · rw [fl_yes ht, sumW_yes _ h0, h1, ← h3]
        exact IntWalk.wrap64_in _ ⟨by omega, by omega⟩
theorem fl_mem {l : List Tp} {m k s : Nat} (h : s ∈ fl l m k) : s < k := by
  unfold fl at h
  exact List.mem_range.1 (List.mem_filter.1 h).1
/-- What a set adds to the sum over sets of just k tapes whose labels please P. -/
def addF (P : List Int → Bool) (k : Nat) (l : List Tp) (s : Nat) : Int := if pcf l.length s = k ∧ P (jk l s l.length).1 = true then wgt l (2 ^ l.length - 1 - s) else 0
theorem addF_term (P : List Int → Bool) (k : Nat) (l : List Tp) (s : Nat) : term P k l (R0, true) s = if (jk l s l.length).2 = true then addF P k l s else 0 := by
  unfold term addF
  rw [jk_all]
  by_cases h1 : (run l s (R0, true)).2 = true
  · rw [if_pos h1]
    by_cases h2 : pcf l.length s = k ∧ P (run l s (R0, true)).1 = true
    · rw [if_pos h2, if_pos ⟨h1, h2⟩]
    · rw [if_neg h2, if_neg (fun h => h2 h.2)]
  · rw [if_neg h1, if_neg (fun h => h1 h.1)]
theorem sumW_all {P : List Int → Bool} {k : Nat} {l : List Tp} (h : okL l) (hl : l.length ≤ 10) : sumW (addF P k l) (fl l l.length (2 ^ l.length)) = sumL P k l R0 := by
  rw [sumW_fl (g := term P k l (R0, true)) (fun s => addF_term P k l s) (N := 2 ^ l.length) (fun j hj => part_bd h hl hj) _ (Nat.le_refl _), sum_term]
theorem pcf_zero (n : Nat) : pcf n 0 = 0 := by
  induction n with
  | zero => rfl
  | succ n ih => show 0 % 2 + pcf n (0 / 2) = 0; rw [Nat.zero_div, ih]
theorem pcf_ten : ∀ {m n s : Nat}, m ≤ n → s < 2 ^ m → pcf n s = pcf m s := by
  intro m
  induction m with
  | zero => intro n s _ hs; rw [show s = 0 by simpa using hs, pcf_zero, pcf_zero]
  | succ m ih =>
    intro n s hn hs
    obtain ⟨n, rfl⟩ : ∃ n', n = n' + 1 := ⟨n - 1, by omega⟩
    show s % 2 + pcf n (s / 2) = s % 2 + pcf m (s / 2)
    rw [ih (by omega) (by rw [Nat.pow_succ] at hs; omega)]
theorem andNot_all : (List.range 11).all (fun m => (List.range (2 ^ m)).all fun s => bits .andNot .i64 ((2 ^ m - 1 : Nat) : Int) (s : Int) == ((2 ^ m - 1 - s : Nat) : Int)) = true := by decide +kernel
theorem andNot_eq {m s : Nat} (hm : m ≤ 10) (hs : s < 2 ^ m) : bits .andNot .i64 ((2 ^ m - 1 : Nat) : Int) (s : Int) = ((2 ^ m - 1 - s : Nat) : Int) := by
  have := List.all_eq_true.1 (List.all_eq_true.1 andNot_all m (List.mem_range.2 (by omega))) s (List.mem_range.2 hs)
  simpa using this
end Go.Proofs.YthpbkbbmedpecaaDoor
