/- Cutting at a mark, and strconv.Atoi: plain. -/
import Derived.Test.YthpbkbbmedpecaaDoorTxtM
import Derived.Lib.IndexMore
import Derived.Lib.AtoiAllCases
import Derived.Lib.AtoiTie
set_option linter.unusedSimpArgs false
set_option linter.unusedVariables false
namespace Go.Proofs.YthpbkbbmedpecaaDoor
open Go.RowKit

theorem index_cons1 (m c : UInt8) (r : List UInt8) : Lib.index (c :: r) [m] = if m = c then 0 else if Lib.index r [m] = -1 then -1 else Lib.index r [m] + 1 := by
  rw [Lib.index]
  by_cases h : m = c
  · rw [if_pos h, if_pos (by subst h; simp [List.isPrefixOf])]
  · rw [if_neg h, if_neg (by simp [List.isPrefixOf, h])]
    by_cases h2 : Lib.index r [m] = -1 <;> simp [h2]
def cutM (m : UInt8) (b : List UInt8) : List UInt8 × List UInt8 × Bool := Lib.cut b [m]
theorem cutM_nil (m : UInt8) : cutM m [] = ([], [], false) := rfl
theorem cutM_cons (m c : UInt8) (r : List UInt8) : cutM m (c :: r) = if m = c then ([], r, true) else (c :: (cutM m r).1, (cutM m r).2.1, (cutM m r).2.2) := by
  unfold cutM Lib.cut
  rw [index_cons1]
  have hg := Lib.index_ge r [m]
  by_cases h : m = c
  · rw [if_pos h, if_pos h]; simp
  · rw [if_neg h, if_neg h]
    by_cases h2 : Lib.index r [m] = -1
    · rw [if_pos h2, h2]; simp
    · rw [if_neg h2]
      have h0 : 0 ≤ Lib.index r [m] := by omega
      rw [if_pos h0, if_pos (by omega)]
      obtain ⟨i, hi⟩ : ∃ i : Nat, Lib.index r [m] = i := ⟨(Lib.index r [m]).toNat, by omega⟩
      rw [hi]
      have e1 : ((i : Int) + 1).toNat = i + 1 := by omega
      have e2 : (i : Int).toNat = i := by omega
      simp only [e1, e2, List.length_cons, List.length_nil, List.take_succ_cons]
      have e3 : i + 1 + (0 + 1) = (i + (0 + 1)) + 1 := by omega
      rw [e3, List.drop_succ_cons]
theorem cutM_no {m : UInt8} : ∀ {b : List UInt8}, m ∉ b → cutM m b = (b, [], false) := by
  intro b
  induction b with
  | nil => intro _; rfl
  | cons c r ih =>
    intro h
    rw [cutM_cons, if_neg (fun e => h (by rw [e]; exact List.mem_cons_self ..)), ih (fun e => h (List.mem_cons_of_mem _ e))]
theorem cutM_app {m : UInt8} : ∀ {x : List UInt8} (r : List UInt8), m ∉ x → cutM m (x ++ m :: r) = (x, r, true) := by
  intro x
  induction x with
  | nil => intro r _; rw [List.nil_append, cutM_cons, if_pos rfl]
  | cons c x ih =>
    intro r h
    rw [List.cons_append, cutM_cons, if_neg (fun e => h (by rw [e]; exact List.mem_cons_self ..)), ih r (fun e => h (List.mem_cons_of_mem _ e))]
theorem cutM_yes {m : UInt8} : ∀ {b : List UInt8}, m ∈ b → (cutM m b).2.2 = true ∧ m ∉ (cutM m b).1 ∧ b = (cutM m b).1 ++ m :: (cutM m b).2.1 := by
  intro b
  induction b with
  | nil => intro h; simp at h
  | cons c r ih =>
    intro h
    rw [cutM_cons]
    by_cases hc : m = c
    · rw [if_pos hc]; exact ⟨rfl, by simp, by rw [hc]; rfl⟩
    · rw [if_neg hc]
      have hr : m ∈ r := by
        rcases List.mem_cons.1 h with e | e
        · exact absurd e hc
        · exact e
      obtain ⟨h1, h2, h3⟩ := ih hr
      refine ⟨h1, ?_, ?_⟩
      · intro e
        rcases List.mem_cons.1 e with e | e
        · exact hc e
        · exact h2 e
      · show c :: r = c :: ((cutM m r).1 ++ m :: (cutM m r).2.1)
        rw [← h3]
theorem cutM_flag (m : UInt8) (b : List UInt8) : (cutM m b).2.2 = decide (m ∈ b) := by
  by_cases h : m ∈ b
  · rw [(cutM_yes h).1, decide_eq_true h]
  · rw [cutM_no h, decide_eq_false h]
theorem cutM_len (m : UInt8) (b : List UInt8) : (cutM m b).1.length ≤ b.length ∧ (cutM m b).2.1.length ≤ b.length ∧ (m ∈ b → (cutM m b).2.1.length < b.length) := by
  by_cases h : m ∈ b
  · have h3 := congrArg List.length (cutM_yes h).2.2
    rw [List.length_append, List.length_cons] at h3
    exact ⟨by omega, by omega, fun _ => by omega⟩
  · rw [cutM_no h]
    exact ⟨Nat.le_refl _, Nat.zero_le _, fun e => absurd e h⟩
theorem words_no {m : UInt8} {b : List UInt8} (h : m ∉ b) : words m b = [b] := by
  have := wordsA_app b [] [] h
  simpa [words, wordsA] using this
theorem words_app {m : UInt8} {x : List UInt8} (r : List UInt8) (h : m ∉ x) : words m (x ++ m :: r) = x :: words m r := by
  rw [words, wordsA_app _ _ _ h, List.nil_append, wordsA, if_pos rfl]; rfl
theorem words_cut {m : UInt8} {b : List UInt8} (h : m ∈ b) : words m b = (cutM m b).1 :: words m (cutM m b).2.1 := by
  obtain ⟨h1, h2, h3⟩ := cutM_yes h
  conv => lhs; rw [h3]
  exact words_app _ h2
theorem words_ne (m : UInt8) (b : List UInt8) : words m b ≠ [] := wordsA_ne m b []

/-! ### strconv.Atoi -/
/-- The number that Atoi hands back, and whether it hands back no error. -/
def atoiV (l : List UInt8) : Int := match Lib.atoiAll l with | .ok v => v | .range => Lib.atoiSat l | _ => 0
def atoiOk (l : List UInt8) : Bool := match Lib.atoiAll l with | .ok _ => true | _ => false
theorem atoiV_bd (l : List UInt8) : -9223372036854775808 ≤ atoiV l ∧ atoiV l ≤ 9223372036854775807 := by
  unfold atoiV
  cases h : Lib.atoiAll l
  · exact Lib.atoiAll_bounds h
  · exact ⟨show (-9223372036854775808 : Int) ≤ 0 by decide, show (0 : Int) ≤ 9223372036854775807 by decide⟩
  · exact Lib.atoiSat_bounds l
theorem decFrom_dig : ∀ (b : List UInt8) (a : Nat), b.all digB = true → Lib.decFrom a b = some (b.foldl (fun a c => 10 * a + (c.toNat - 48)) a) := by
  intro b
  induction b with
  | nil => intro a _; rfl
  | cons c r ih =>
    intro a h
    rw [List.all_cons, Bool.and_eq_true] at h
    have h1 := h.1
    unfold digB at h1
    simp only [Bool.and_eq_true, decide_eq_true_eq] at h1
    rw [Lib.decFrom, Lib.digitVal, if_pos h1, List.foldl_cons, Nat.mul_comm 10 a]
    exact ih _ h.2
theorem atoi_dec {m : Nat} (h : m < 1000000000000000000) : Lib.parseMag (Lib.decDigits m) = .ok m := by
  have hf := dec_facts 17 m (by omega)
  rw [Lib.parseMag_short _ hf.2.2.1, Lib.decNat, if_neg (by simpa using hf.2.2.2), decFrom_dig _ _ hf.1]
  show Lib.NumEnd.ok (valD (Lib.decDigits m)) = _
  rw [hf.2.1]
theorem atoi_itoa {n : Int} (h1 : -1000000000000000000 < n) (h2 : n < 1000000000000000000) : Lib.atoiAll (Lib.itoa n) = .ok n := by
  by_cases hn : n < 0
  · obtain ⟨m, rfl⟩ : ∃ m : Nat, n = -(m : Int) := ⟨n.natAbs, by omega⟩
    rw [itoa_neg (by omega), Lib.atoiAll_minus, atoi_dec (by omega)]
    show (if 9223372036854775808 < m then _ else _) = _
    rw [if_neg (by omega)]
  · obtain ⟨m, rfl⟩ : ∃ m : Nat, n = (m : Int) := ⟨n.toNat, by omega⟩
    have hf := dec_facts 17 m (by omega)
    have hd := atoi_dec (m := m) (by omega)
    rw [itoa_nat]
    cases hb : Lib.decDigits m with
    | nil => exact absurd hb hf.2.2.2
    | cons c r =>
      have hc := all_dig_ne hf.1 (c := c) (by rw [hb]; exact List.mem_cons_self ..)
      rw [Lib.atoiAll_plain c r (by omega) (by omega), ← hb, hd]
      show (if 9223372036854775808 ≤ m then _ else _) = _
      rw [if_neg (by omega)]
theorem atoiV_itoa {n : Int} (h1 : -1000000000000000000 < n) (h2 : n < 1000000000000000000) : atoiV (Lib.itoa n) = n ∧ atoiOk (Lib.itoa n) = true := by
  unfold atoiV atoiOk
  rw [atoi_itoa h1 h2]
  exact ⟨rfl, rfl⟩
theorem itoa_no {m : UInt8} (n : Int) (h1 : m ≠ 45) (h2 : ¬ (48 ≤ m.toNat ∧ m.toNat ≤ 57)) : m ∉ Lib.itoa n := by
  intro h
  rcases itoa_chars h with e | e
  · exact h1 e
  · exact h2 e
end Go.Proofs.YthpbkbbmedpecaaDoor
