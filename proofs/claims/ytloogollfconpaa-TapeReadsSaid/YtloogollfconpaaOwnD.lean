/- A tape taken out of a row that the call made. No program is named. -/
import Derived.Test.YtloogollfconpaaOwnT
import Derived.Laws.OwnMore
import Derived.Lib.SliceRun
set_option linter.unusedSimpArgs false
set_option linter.unusedVariables false
namespace Go.Proofs.Ytloogollfconpaa
open Go.RowKit

def setL : List Value → Nat → List Value → List Value
  | xs, _, [] => xs
  | xs, o, v :: vs => setL (xs.set o v) (o + 1) vs
theorem setL_len : ∀ (vs xs : List Value) (o : Nat), (setL xs o vs).length = xs.length := by
  intro vs
  induction vs with
  | nil => intro xs o; rfl
  | cons v vs ih => intro xs o; show (setL (xs.set o v) (o + 1) vs).length = _; rw [ih]; simp
theorem setL_get : ∀ (vs xs : List Value) (o j : Nat), (setL xs o vs)[j]? = if o ≤ j ∧ j < o + vs.length ∧ j < xs.length then vs[j - o]? else xs[j]? := by
  intro vs
  induction vs with
  | nil => intro xs o j; show xs[j]? = _; rw [if_neg (by simp; omega)]
  | cons v vs ih =>
    intro xs o j
    show (setL (xs.set o v) (o + 1) vs)[j]? = _
    rw [ih, List.length_set, List.length_cons]
    by_cases h1 : o + 1 ≤ j ∧ j < o + 1 + vs.length ∧ j < xs.length
    · rw [if_pos h1, if_pos (by omega), show j - o = (j - (o + 1)) + 1 by omega, List.getElem?_cons_succ]
    · rw [if_neg h1, List.getElem?_set]
      by_cases h2 : o = j
      · subst h2
        rw [if_pos rfl]
        by_cases h3 : o < xs.length
        · rw [if_pos h3, if_pos (by omega), Nat.sub_self]; rfl
        · rw [if_neg h3, if_neg (by omega), List.getElem?_eq_none (by omega)]
      · rw [if_neg h2, if_neg (by omega)]
theorem own_setL {base g n cap size : Nat} {e : TypeId} : ∀ (vs xs : List Value) (o : Nat) (w : World), w.ownsRow base e size (.slice (some ⟨g, 0, none⟩) n cap) n xs →
    (w.setCells g o vs).ownsRow base e size (.slice (some ⟨g, 0, none⟩) n cap) n (setL xs o vs) ∧ w.grownBy (w.setCells g o vs) (some g) := by
  intro vs
  induction vs with
  | nil => intro xs o w h; exact ⟨h, rfl, rfl, rfl, Nat.le_refl _, fun _ _ _ => rfl⟩
  | cons v vs ih =>
    intro xs o w h
    obtain ⟨h1, h2⟩ := h.stored o v
    obtain ⟨h3, h4⟩ := ih (xs.set o v) (o + 1) _ h1
    exact ⟨h3, h4.os.trans h2.os, h4.tape.trans h2.tape, h4.output.trans h2.output, Nat.le_trans h2.size h4.size, fun k hk hne => (h4.block k (Nat.lt_of_lt_of_le hk h2.size) hne).trans (h2.block k hk hne)⟩
theorem own_cut {base g n cap size m : Nat} {e : TypeId} {xs : List Value} {w : World} (h : w.ownsRow base e size (.slice (some ⟨g, 0, none⟩) n cap) n xs) (hm : m ≤ n) : w.ownsRow base e size (.slice (some ⟨g, 0, none⟩) m cap) m (xs.take (m * size)) := by
  have hmn : m * size ≤ n * size := Nat.mul_le_mul_right _ hm
  refine ⟨by rw [List.length_take, h.1]; exact Nat.min_eq_left hmn, ?_⟩
  rcases h.2 with ⟨h', _⟩ | ⟨g', cap', cur, h', hb, hg, hnc, hcm, hcs, ht⟩
  · simp at h'
  · simp only [Value.slice.injEq, Option.some.injEq, Addr.mk.injEq, and_true, true_and] at h'
    obtain ⟨rfl, rfl⟩ := h'
    refine .inr ⟨g, cap, cur, rfl, hb, hg, by omega, hcm, hcs, ?_⟩
    rw [← ht, List.take_take, Nat.min_eq_left hmn]
theorem tcells_take (l : List Tp) (k : Nat) (hk : k ≤ l.length) : (tcells l).take (k * 3) = tcells (l.take k) := by
  have h : tcells l = tcells (l.take k) ++ tcells (l.drop k) := by rw [← tcells_app, List.take_append_drop]
  rw [h, List.take_left' (by rw [tcells_len, List.length_take, Nat.min_eq_left hk])]
theorem tcells_drop (l : List Tp) (k : Nat) (hk : k ≤ l.length) : (tcells l).drop (k * 3) = tcells (l.drop k) := by
  have h : tcells l = tcells (l.take k) ++ tcells (l.drop k) := by rw [← tcells_app, List.take_append_drop]
  rw [h, List.drop_left' (by rw [tcells_len, List.length_take, Nat.min_eq_left hk])]
/-- What stands in the row when the tape i is taken out and the last place cleared. -/
theorem cut_cells (l : List Tp) (i : Nat) (hi : i < l.length) (zs : List Value) : (setL (setL (tcells l) (i * 3) ((tcells l).drop ((i + 1) * 3))) ((l.length - 1) * 3) zs).take ((l.length - 1) * 3) = tcells (l.eraseIdx i) := by
  rw [List.eraseIdx_eq_take_drop_succ, tcells_app, ← tcells_take l i (by omega), ← tcells_drop l (i + 1) (by omega)]
  have hl := tcells_len l
  apply List.ext_getElem?
  intro j
  rw [List.getElem?_take, List.getElem?_append, List.length_take, hl, setL_get, setL_get, setL_len, hl, List.length_drop, hl, List.getElem?_take, List.getElem?_drop, List.getElem?_drop]
  by_cases h1 : j < (l.length - 1) * 3
  · rw [if_pos h1, if_neg (by omega)]
    by_cases h2 : j < i * 3
    · rw [if_neg (by omega), if_pos (by omega), if_pos h2]
    · rw [if_pos (by omega), if_neg (by omega)]
      congr 1; omega
  · rw [if_neg h1, if_neg (by omega)]
    symm
    rw [List.getElem?_eq_none]
    omega
theorem run_clear3 {P : Program} (w : World) (t e ty : TypeId) (z : Value) (ht : P.underlying t = some (.slice e)) (hv : ∀ w, (zeroValue e).run P w = .ok z w) (zs : List Value) (hz : (Builtin.zeroCells z.cells 1).toList = zs) (h1 : ∀ v ∈ zs, v.oneCell' = true) (b o c : Nat)
    (hc : ∀ j, j < zs.length → (w.cell? ⟨b, o + j, none⟩).isSome = true) (hf : ∀ j, j < zs.length → w.frozen? ⟨b, o + j, none⟩ = false) :
    (Builtin.clear_ #[t] ty #[.slice (some ⟨b, o, none⟩) 1 c]).run P w = .ok (.tuple #[]) (w.setCells b o zs) := by
  have hst := run_storeCells_cells (P := P) b o zs 0 w (by simpa using hc) (by simpa using hf) h1
  simp only [Nat.add_zero] at hst
  simp [Builtin.clear_, run_underlying ht, hv, hz, hst]
end Go.Proofs.Ytloogollfconpaa
