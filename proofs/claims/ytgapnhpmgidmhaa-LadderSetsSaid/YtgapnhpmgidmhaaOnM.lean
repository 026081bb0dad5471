/- The dogs on a ladder: plain. No program is named. -/
import Derived.Test.YtgapnhpmgidmhaaLeastM
set_option linter.unusedSimpArgs false
set_option linter.unusedVariables false
namespace Go.Proofs.Ytgapnhpmgidmhaa
open Go.RowKit

/-- The height of the k-th dog of a list. -/
def hD (l : List J) (ds : List Int) (k : Nat) : Int := hI l (num ds k)
structure WallOk (l : List J) (ds : List Int) : Prop where
  idx : ∀ k, k < ds.length → 0 ≤ num ds k ∧ num ds k < l.length
  bd : ∀ k, k < ds.length → 1 ≤ hD l ds k ∧ hD l ds k ≤ 200000
  mono : ∀ i j, i < j → j < ds.length → hD l ds i < hD l ds j
theorem wall_ok {c : Clb} {l : List J} {ds : List Int} (h : rightB c l ds = true) : WallOk l ds := by
  simp only [rightB, Bool.and_eq_true] at h
  obtain ⟨⟨h1, h2⟩, h3, h4, h5⟩ := h
  have hv := vJ_spec h2
  have ha := ascB_spec h4
  refine ⟨ha.1, fun k hk => ?_, fun i j hij hj => ?_⟩
  · have := ha.1 k hk
    exact hv.2.1 _ (by omega)
  · have h6 := ha.2 i j hij hj
    have h7 := ha.1 i (by omega)
    have h8 := ha.1 j hj
    exact hv.2.2 _ _ (by omega) (by omega)
def onP (c : Clb) (l : List J) (ds : List Int) (f k : Nat) : Bool := decide (f ≤ k) && decide (hD l ds k ≤ hD l ds f + c.le)
def onI (c : Clb) (l : List J) (ds : List Int) (f k : Nat) : List Int := ((List.range k).filter (onP c l ds f)).map fun i : Nat => (i : Int)
theorem onI_yes {c : Clb} {l : List J} {ds : List Int} {f k : Nat} (h : f ≤ k) (h2 : hD l ds k ≤ hD l ds f + c.le) : onI c l ds f (k + 1) = onI c l ds f k ++ [(k : Int)] := by
  have hp : onP c l ds f k = true := by unfold onP; rw [decide_eq_true h, decide_eq_true h2]; rfl
  simp [onI, List.range_succ, List.filter_append, hp]
theorem onI_no {c : Clb} {l : List J} {ds : List Int} {f k : Nat} (h2 : ¬ hD l ds k ≤ hD l ds f + c.le) : onI c l ds f (k + 1) = onI c l ds f k := by
  have hp : onP c l ds f k = false := by unfold onP; rw [decide_eq_false h2, Bool.and_false]
  simp [onI, List.range_succ, List.filter_append, hp]
theorem onI_len (c : Clb) (l : List J) (ds : List Int) (f k : Nat) : (onI c l ds f k).length ≤ k := by
  have := List.length_filter_le (onP c l ds f) (List.range k)
  simpa [onI] using this
theorem onI_start (c : Clb) (l : List J) (ds : List Int) (f : Nat) : ∀ k, k ≤ f → onI c l ds f k = [] := by
  intro k
  induction k with
  | zero => intro _; rfl
  | succ k ih =>
    intro h
    have hp : onP c l ds f k = false := by unfold onP; rw [decide_eq_false (by omega)]; rfl
    have := ih (by omega)
    simp only [onI, List.range_succ, List.filter_append, List.map_append] at this ⊢
    rw [this]; simp [hp]
theorem onI_stop {c : Clb} {l : List J} {ds : List Int} (hw : WallOk l ds) {f k : Nat} (h2 : ¬ hD l ds k ≤ hD l ds f + c.le) : ∀ m, k ≤ m → m ≤ ds.length → onI c l ds f m = onI c l ds f k := by
  intro m
  induction m with
  | zero => intro h _; have : k = 0 := by omega
            rw [this]
  | succ m ih =>
    intro h3 h4
    by_cases h5 : k = m + 1
    · rw [h5]
    · rw [onI_no ?_, ih (by omega) (by omega)]
      by_cases h6 : k = m
      · rw [← h6]; exact h2
      · have := hw.mono k m (by omega) (by omega)
        omega
/-! ### Without one dog -/
def wout (ds : List Int) (k : Nat) : List Int := ds.take k ++ ds.drop (k + 1)
def spX (c : Clb) (l : List J) (ds : List Int) (k : Nat) : Bool := rightB c l (wout ds k)
def spI (c : Clb) (l : List J) (ds : List Int) (k : Nat) : List Int := ((List.range k).filter (spX c l ds)).map fun i : Nat => (i : Int)
theorem spI_yes {c : Clb} {l : List J} {ds : List Int} {k : Nat} (h : spX c l ds k = true) : spI c l ds (k + 1) = spI c l ds k ++ [(k : Int)] := by
  simp [spI, List.range_succ, List.filter_append, h]
theorem spI_no {c : Clb} {l : List J} {ds : List Int} {k : Nat} (h : spX c l ds k = false) : spI c l ds (k + 1) = spI c l ds k := by
  simp [spI, List.range_succ, List.filter_append, h]
theorem spI_len (c : Clb) (l : List J) (ds : List Int) (k : Nat) : (spI c l ds k).length ≤ k := by
  have := List.length_filter_le (spX c l ds) (List.range k)
  simpa [spI] using this
def onE (c : Clb) (l : List J) (ds : List Int) (f : Int) : Int := if okCJ' c l then (if withinB f 0 ((ds.length : Int) - 1) then (if rightB c l ds then 0 else 10) else 7) else 1
where okCJ' (c : Clb) (l : List J) : Bool := vC c && vJ l
def onL (c : Clb) (l : List J) (ds : List Int) (f : Int) : List Int := if (vC c && vJ l) && (withinB f 0 ((ds.length : Int) - 1) && rightB c l ds) then onI c l ds f.toNat ds.length else []
def spE (c : Clb) (l : List J) (ds : List Int) : Int := if vC c && vJ l then (if rightB c l ds then 0 else 10) else 1
def spL (c : Clb) (l : List J) (ds : List Int) : List Int := if rightB c l ds then spI c l ds ds.length else []
end Go.Proofs.Ytgapnhpmgidmhaa
