/- Tapes: Merged. -/
import Derived.Test.YtloogollfconpaaMake2
import Derived.Deep.QuietTactic
import Derived.BigQuiet
import Derived.Deep.DeepCutAuto
set_option linter.unusedSimpArgs false
set_option linter.unusedVariables false
namespace Go.Proofs.Ytloogollfconpaa
open Go.RowKit
attribute [local go_sem] Later.cell Same.cell

def meE (n : Int) (l : List Tp) (a b : Int) : Int := if askE n l [a, b] = 0 then (if a = b then 10 else 0) else askE n l [a, b]
def meN (n : Int) (l : List Tp) (a b : Int) : Int := if meE n l a b = 0 then n - 1 else 0
def meL (n : Int) (l : List Tp) (a b : Int) : List Tp := if meE n l a b = 0 then mrg (min a b) (max a b) l else []
theorem mrg_snoc_no {a b : Int} {l : List Tp} {k : Nat} (hk : k < l.length) (h : nw a b (tpA l k).1 = nw a b (tpA l k).2.1) : mrg a b (l.take (k + 1)) = mrg a b (l.take k) := by
  unfold mrg
  rw [take_snoc hk, List.filter_append]
  simp [h]
theorem mrg_snoc_yes {a b : Int} {l : List Tp} {k : Nat} (hk : k < l.length) (h : nw a b (tpA l k).1 ≠ nw a b (tpA l k).2.1) : mrg a b (l.take (k + 1)) = mrg a b (l.take k) ++ [mrgT a b (tpA l k)] := by
  unfold mrg
  rw [take_snoc hk, List.filter_append]
  simp [h]
theorem mrg_len_le (a b : Int) (l : List Tp) : (mrg a b l).length ≤ l.length := by
  unfold mrg
  rw [List.length_map]
  exact List.length_filter_le ..
def MR (w1 : World) (base : Nat) (a b : Int) (l : List Tp) (n : Nat) (i v : Value) (W : World) : Prop :=
  ∃ k : Nat, k ≤ n ∧ i = .int .i64 k ∧ W.ownsRow base 37 3 v (mrg a b (l.take k)).length (tcells (mrg a b (l.take k))) ∧ Below base w1 W
theorem MR.mk {w1 : World} {base : Nat} {a b : Int} {l : List Tp} {n : Nat} {i v : Value} {W : World} (k : Nat) (h1 : k ≤ n) (h2 : i = .int .i64 k) (h3 : W.ownsRow base 37 3 v (mrg a b (l.take k)).length (tcells (mrg a b (l.take k)))) (h4 : Below base w1 W) : MR w1 base a b l n i v W := ⟨k, h1, h2, h3, h4⟩
end Go.Proofs.Ytloogollfconpaa
