/- Words and numerals: plain. -/
import Derived.Test.YthpbkbbmedpecaaDoorWords
import Derived.Lib.Join
set_option linter.unusedSimpArgs false
set_option linter.unusedVariables false
namespace Go.Proofs.YthpbkbbmedpecaaDoor
open Go.RowKit

theorem wordsA_app {m : UInt8} : ∀ (x cur rest : List UInt8), m ∉ x → wordsA m cur (x ++ rest) = wordsA m (cur ++ x) rest := by
  intro x
  induction x with
  | nil => intro cur rest _; simp
  | cons c x ih =>
    intro cur rest h
    have h1 : c ≠ m := fun e => h (by rw [e]; exact List.mem_cons_self ..)
    have h2 : m ∉ x := fun e => h (List.mem_cons_of_mem _ e)
    rw [List.cons_append, wordsA, if_neg h1, ih _ _ h2]
    simp
theorem joinTail_cons (sep y : List UInt8) (r : List (List UInt8)) : Lib.joinTail sep (y :: r) = sep ++ y ++ Lib.joinTail sep r := by simp [Lib.joinTail]
theorem wordsA_tail {m : UInt8} : ∀ (r : List (List UInt8)) (x : List UInt8), (∀ y ∈ r, m ∉ y) → wordsA m x (Lib.joinTail [m] r) = x :: r := by
  intro r
  induction r with
  | nil => intro x _; simp [Lib.joinTail, wordsA]
  | cons y r ih =>
    intro x h
    rw [joinTail_cons]
    show wordsA m x (m :: (y ++ Lib.joinTail [m] r)) = _
    rw [wordsA, if_pos rfl, wordsA_app _ _ _ (h y (List.mem_cons_self ..)), List.nil_append, ih _ (fun z hz => h z (List.mem_cons_of_mem _ hz))]
theorem words_join {m : UInt8} {ws : List (List UInt8)} (h0 : ws ≠ []) (h : ∀ y ∈ ws, m ∉ y) : words m (Lib.join ws [m]) = ws := by
  cases ws with
  | nil => exact absurd rfl h0
  | cons x r =>
    rw [Lib.join_cons, words, wordsA_app _ _ _ (h x (List.mem_cons_self ..)), List.nil_append, wordsA_tail _ _ (fun z hz => h z (List.mem_cons_of_mem _ hz))]
theorem wordsA_ne (m : UInt8) : ∀ (b cur : List UInt8), wordsA m cur b ≠ [] := by
  intro b
  induction b with
  | nil => intro cur; simp [wordsA]
  | cons c r ih => intro cur; unfold wordsA; split <;> simp [ih]
theorem join_wordsA (m : UInt8) : ∀ (b cur : List UInt8), Lib.join (wordsA m cur b) [m] = cur ++ b := by
  intro b
  induction b with
  | nil => intro cur; simp [wordsA, Lib.join_one]
  | cons c r ih =>
    intro cur
    unfold wordsA
    split
    · rename_i hc
      rw [Lib.join_cons]
      obtain ⟨y, t, hy⟩ := List.exists_cons_of_ne_nil (wordsA_ne m r [])
      have := ih []
      rw [hy, Lib.join_cons, List.nil_append] at this
      rw [hy, joinTail_cons, List.append_assoc, this, hc]
      simp
    · rw [ih]; simp
theorem join_words (m : UInt8) (b : List UInt8) : Lib.join (words m b) [m] = b := join_wordsA m b []
theorem wordsA_mem (m : UInt8) : ∀ (b cur : List UInt8), m ∉ cur → ∀ y ∈ wordsA m cur b, m ∉ y := by
  intro b
  induction b with
  | nil => intro cur h y hy; simp [wordsA] at hy; rw [hy]; exact h
  | cons c r ih =>
    intro cur h y hy
    unfold wordsA at hy
    split at hy
    · rcases List.mem_cons.1 hy with rfl | hy
      · exact h
      · exact ih [] (by simp) y hy
    · rename_i hc
      exact ih _ (by intro hm; rcases List.mem_append.1 hm with hm | hm; exact h hm; exact hc (List.mem_singleton.1 hm).symm) y hy
theorem words_mem {m : UInt8} {b y : List UInt8} (h : y ∈ words m b) : m ∉ y := wordsA_mem m b [] (by simp) y h
theorem join_snoc (xs : List (List UInt8)) (x sep : List UInt8) : Lib.join (xs ++ [x]) sep = if xs = [] then x else Lib.join xs sep ++ sep ++ x := by
  cases xs with
  | nil => simp [Lib.join_one]
  | cons y r => rw [if_neg (by simp), List.cons_append, Lib.join_cons, Lib.join_cons]; simp [Lib.joinTail]

/-! ### numerals -/
theorem digB_48 {d : Nat} (h : d < 10) : digB (UInt8.ofNat (48 + d)) = true ∧ (UInt8.ofNat (48 + d)).toNat - 48 = d := by
  have : (UInt8.ofNat (48 + d)).toNat = 48 + d := by simp; omega
  unfold digB
  rw [this]
  exact ⟨by simp; omega, by omega⟩
theorem dec_facts : ∀ (k n : Nat), n < 10 ^ (k + 1) → (Lib.decDigits n).all digB = true ∧ valD (Lib.decDigits n) = n ∧ (Lib.decDigits n).length ≤ k + 1 ∧ Lib.decDigits n ≠ [] := by
  intro k
  induction k with
  | zero =>
    intro n hn
    rw [Lib.decDigits_one (by simpa using hn)]
    have := digB_48 (d := n) (by simpa using hn)
    exact ⟨by simp only [List.all_cons, List.all_nil, this.1]; rfl, by simp only [valD, List.foldl_cons, List.foldl_nil, this.2]; omega, by simp, by simp⟩
  | succ k ih =>
    intro n hn
    by_cases h9 : 9 < n
    · have h1 := ih (n / 10) (by rw [Nat.pow_succ] at hn; omega)
      have h2 := digB_48 (d := n % 10) (Nat.mod_lt _ (by omega))
      rw [decDigits_big h9]
      exact ⟨by rw [List.all_append, h1.1]; simp only [List.all_cons, List.all_nil, h2.1]; rfl, by rw [valD_snoc, h1.2.1, h2.2]; omega, by rw [List.length_append]; have := h1.2.2.1; simp; omega, by simp⟩
    · rw [Lib.decDigits_one (by omega)]
      have := digB_48 (d := n) (by omega)
      exact ⟨by simp only [List.all_cons, List.all_nil, this.1]; rfl, by simp only [valD, List.foldl_cons, List.foldl_nil, this.2]; omega, by simp, by simp⟩
theorem itoa_neg {m : Nat} (h : 0 < m) : Lib.itoa (-(m : Int)) = 45 :: Lib.decDigits m := by
  unfold Lib.itoa
  rw [if_pos (by omega)]
  congr 1
  congr 1
  omega
theorem itoa_nat (m : Nat) : Lib.itoa (m : Int) = Lib.decDigits m := by
  unfold Lib.itoa
  rw [if_neg (by omega)]
  congr 1
theorem all_dig_ne {b : List UInt8} (h : b.all digB = true) {c : UInt8} (hc : c ∈ b) : 48 ≤ c.toNat ∧ c.toNat ≤ 57 := by
  have := List.all_eq_true.1 h c hc
  unfold digB at this
  simpa using this
theorem bodyS_dig {b : List UInt8} (h : b.all digB = true) : bodyS b = (b, false) := by
  cases b with
  | nil => rfl
  | cons c r =>
    refine bodyS_no fun e => ?_
    have := all_dig_ne h (List.mem_cons_self ..)
    rw [e] at this
    have h45 : (45 : UInt8).toNat = 45 := rfl
    omega
/-- A numeral is read back. -/
theorem numR_itoa {n : Int} (h1 : -1000000000000000000 < n) (h2 : n < 1000000000000000000) : numR (Lib.itoa n) = (n, true) := by
  by_cases hn : n < 0
  · obtain ⟨m, rfl⟩ : ∃ m : Nat, n = -(m : Int) := ⟨n.natAbs, by omega⟩
    have hf := dec_facts 17 m (by omega)
    have hb : bodyS (Lib.itoa (-(m : Int))) = (Lib.decDigits m, true) := by rw [itoa_neg (by omega)]; rfl
    have hv : numV (Lib.itoa (-(m : Int))) = -(m : Int) := by unfold numV; rw [hb, if_pos rfl, hf.2.1]
    have hk : numOk (Lib.decDigits m) = true := by
      unfold numOk
      rw [hf.1, decide_eq_true hf.2.2.1, decide_eq_true (show 1 ≤ (Lib.decDigits m).length from List.length_pos_iff.2 hf.2.2.2)]; rfl
    unfold numR
    rw [hv, hb, if_pos hk]
    simp
  · obtain ⟨m, rfl⟩ : ∃ m : Nat, n = (m : Int) := ⟨n.toNat, by omega⟩
    have hf := dec_facts 17 m (by omega)
    have hb : bodyS (Lib.itoa (m : Int)) = (Lib.decDigits m, false) := by rw [itoa_nat]; exact bodyS_dig hf.1
    have hv : numV (Lib.itoa (m : Int)) = (m : Int) := by unfold numV; rw [hb, if_neg (by simp), hf.2.1]
    have hk : numOk (Lib.decDigits m) = true := by
      unfold numOk
      rw [hf.1, decide_eq_true hf.2.2.1, decide_eq_true (show 1 ≤ (Lib.decDigits m).length from List.length_pos_iff.2 hf.2.2.2)]; rfl
    unfold numR
    rw [hv, hb, if_pos hk]
    simp
/-- What is read as a number is its numeral. -/
theorem numR_yes {w : List UInt8} (h : (numR w).2 = true) : w = Lib.itoa (numR w).1 ∧ -1000000000000000000 < (numR w).1 ∧ (numR w).1 < 1000000000000000000 := by
  unfold numR at *
  split at h
  · rename_i hk
    rw [if_pos hk]
    have hk' := hk
    unfold numOk at hk'
    simp only [Bool.and_eq_true, decide_eq_true_eq] at hk'
    have := valD_lt 18 _ hk'.2.1 hk'.2.2
    refine ⟨by simpa using (eq_of_beq h).symm, ?_⟩
    show -1000000000000000000 < numV w ∧ numV w < 1000000000000000000
    unfold numV
    split <;> omega
  · exact absurd h (by simp)
theorem numR_no_fst {w : List UInt8} (h : numOk (bodyS w).1 = false) : (numR w).2 = false := by rw [numR_bad h]
theorem itoa_chars {n : Int} {c : UInt8} (h : c ∈ Lib.itoa n) : c = 45 ∨ (48 ≤ c.toNat ∧ c.toNat ≤ 57) := by
  have hd : ∀ m : Nat, (Lib.decDigits m).all digB = true := fun m => (dec_facts m m (Nat.lt_of_lt_of_le (Nat.lt_pow_self (by omega)) (Nat.pow_le_pow_right (by omega) (by omega)))).1
  unfold Lib.itoa at h
  split at h
  · rcases List.mem_cons.1 h with rfl | h
    · exact .inl rfl
    · exact .inr (all_dig_ne (hd _) h)
  · exact .inr (all_dig_ne (hd _) h)
theorem itoa_ne (n : Int) : Lib.itoa n ≠ [] := by
  have hd : ∀ m : Nat, Lib.decDigits m ≠ [] := fun m => (dec_facts m m (Nat.lt_of_lt_of_le (Nat.lt_pow_self (by omega)) (Nat.pow_le_pow_right (by omega) (by omega)))).2.2.2
  unfold Lib.itoa
  split
  · simp
  · exact hd _
end Go.Proofs.YthpbkbbmedpecaaDoor
