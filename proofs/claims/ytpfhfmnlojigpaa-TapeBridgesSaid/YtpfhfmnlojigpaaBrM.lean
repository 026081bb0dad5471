/- Nets of tapes: bridges: plain. No program is named. -/
import Derived.Test.YtpfhfmnlojigpaaNetS
import Derived.Test.YtpfhfmnlojigpaaNetV
set_option linter.unusedSimpArgs false
set_option linter.unusedVariables false
namespace Go.Proofs.Ytpfhfmnlojigpaa

theorem run_without : ∀ {l : List Tp} {i : Nat}, i < l.length → ∀ q : List Int × Bool, (run l (2 ^ l.length - 1 - 2 ^ i) q).1 = full (l.eraseIdx i) q.1 := by
  intro l
  induction l with
  | nil => intro i h; exact absurd h (by simp)
  | cons t l ih =>
    intro i h q
    have hp : 0 < 2 ^ l.length := Nat.pow_pos (by omega)
    cases i with
    | zero =>
      have e1 : (2 ^ (t :: l).length - 1 - 2 ^ 0) % 2 = 0 := by rw [List.length_cons, Nat.pow_succ]; omega
      have e2 : (2 ^ (t :: l).length - 1 - 2 ^ 0) / 2 = 2 ^ l.length - 1 := by rw [List.length_cons, Nat.pow_succ]; omega
      show (run l ((2 ^ (t :: l).length - 1 - 2 ^ 0) / 2) (stepR q t ((2 ^ (t :: l).length - 1 - 2 ^ 0) % 2 == 1))).1 = full l q.1
      rw [e1, e2, run_full]; rfl
    | succ i =>
      have hi : i < l.length := by simpa using h
      have hlt : 2 ^ i < 2 ^ l.length := Nat.pow_lt_pow_right (by omega) hi
      have e1 : (2 ^ (t :: l).length - 1 - 2 ^ (i + 1)) % 2 = 1 := by rw [List.length_cons, Nat.pow_succ, Nat.pow_succ]; omega
      have e2 : (2 ^ (t :: l).length - 1 - 2 ^ (i + 1)) / 2 = 2 ^ l.length - 1 - 2 ^ i := by rw [List.length_cons, Nat.pow_succ, Nat.pow_succ]; omega
      show (run l ((2 ^ (t :: l).length - 1 - 2 ^ (i + 1)) / 2) (stepR q t ((2 ^ (t :: l).length - 1 - 2 ^ (i + 1)) % 2 == 1))).1 = full (t :: l.eraseIdx i) q.1
      rw [e1, e2, ih hi]; rfl
theorem jk_without {l : List Tp} {i : Nat} (h : i < l.length) : (jk l (2 ^ l.length - 1 - 2 ^ i) l.length).1 = full (l.eraseIdx i) R0 := by rw [jk_all, run_without h]
def isBr (l : List Tp) (i : Nat) : Bool := !(at6 (full (l.eraseIdx i) R0) (tpA l i).1 == at6 (full (l.eraseIdx i) R0) (tpA l i).2.1)
/-- The bridges among the first k tapes. -/
def brK (l : List Tp) (k : Nat) : List Int := ((List.range k).filter (isBr l)).map fun i : Nat => (i : Int)
theorem brK_yes {l : List Tp} {k : Nat} (h : isBr l k = true) : brK l (k + 1) = brK l k ++ [(k : Int)] := by simp [brK, List.range_succ, List.filter_append, h]
theorem brK_no {l : List Tp} {k : Nat} (h : isBr l k = false) : brK l (k + 1) = brK l k := by simp [brK, List.range_succ, List.filter_append, h]
theorem brK_len (l : List Tp) (k : Nat) : (brK l k).length ≤ k := by
  have := List.length_filter_le (isBr l) (List.range k)
  simpa [brK] using this
theorem pow_andNot_all : (List.range 11).all (fun m => (List.range m).all fun i => bits .andNot .i64 ((2 ^ m - 1 : Nat) : Int) ((2 ^ i : Nat) : Int) == ((2 ^ m - 1 - 2 ^ i : Nat) : Int)) = true := by decide +kernel
theorem pow_andNot {m i : Nat} (hm : m ≤ 10) (hi : i < m) : bits .andNot .i64 ((2 ^ m - 1 : Nat) : Int) ((2 ^ i : Nat) : Int) = ((2 ^ m - 1 - 2 ^ i : Nat) : Int) := by
  have := List.all_eq_true.1 (List.all_eq_true.1 pow_andNot_all m (List.mem_range.2 (by omega))) i (List.mem_range.2 hi)
  simpa using this
end Go.Proofs.Ytpfhfmnlojigpaa
