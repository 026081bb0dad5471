/- Joints, climbs, dogs: plain. No program is named. -/
import Derived.Test.YtjgibipficojaaaDoorRowsB
set_option linter.unusedSimpArgs false
set_option linter.unusedVariables false
namespace Go.Proofs.YtjgibipficojaaaDoor
open Go.RowKit

abbrev J := Int × Bool
def jointV (x : J) : List Value := [.int .i64 x.1, .bool x.2]
def dJ : J := (0, false)
def hgt (l : List J) (k : Nat) : Int := (l[k]?.getD dJ).1
def sndB (l : List J) (k : Nat) : Bool := (l[k]?.getD dJ).2
theorem Rows.atJ {w : World} {B : Nat} {A : Option Addr} {len : Nat} {xs : List J} (h : Rows 2 jointV dJ w B A len xs) (k : Nat) (hk : k < len) :
    ∃ b off, A = some ⟨b, off, none⟩ ∧ b < B ∧ w.cell? ⟨b, off + k * 2, none⟩ = some (.int .i64 (hgt xs k)) ∧ w.cell? ⟨b, off + k * 2 + 1, none⟩ = some (.bool (sndB xs k)) := by
  obtain ⟨b, off, h1, h2, h3⟩ := h.at_ k hk
  exact ⟨b, off, h1, h2, by have := h3 0 (.int .i64 (hgt xs k)) rfl; rwa [Nat.add_zero] at this, h3 1 _ rfl⟩
/-- A climb: First, Gap, Top, Length, Lap, Strength. -/
structure Clb where
  (fi ga to le la st : Int)

def jX (l : List J) (k : Nat) : Bool := withinB (hgt l k) 1 200000 && (k == 0 || decide (hgt l (k - 1) < hgt l k))
def vJ (l : List J) : Bool := (List.range l.length).all (jX l) && decide (l.length ≤ 200)
theorem range_yes {p : Nat → Bool} {k : Nat} (h : (List.range k).all p = true) (hp : p k = true) : (List.range (k + 1)).all p = true := by
  rw [List.range_succ, List.all_append, h]; simp [hp]
theorem range_no {p : Nat → Bool} {k n : Nat} (h : k < n) (hp : p k = false) : (List.range n).all p = false := by
  rw [List.all_eq_false]
  exact ⟨k, List.mem_range.2 h, by simp [hp]⟩
theorem jX_zero (l : List J) : jX l 0 = withinB (hgt l 0) 1 200000 := by simp [jX]
theorem jX_succ (l : List J) (j : Nat) : jX l (j + 1) = (withinB (hgt l (j + 1)) 1 200000 && decide (hgt l j < hgt l (j + 1))) := by simp [jX]
theorem vJ_spec {l : List J} (h : vJ l = true) : l.length ≤ 200 ∧ (∀ k, k < l.length → 1 ≤ hgt l k ∧ hgt l k ≤ 200000) ∧ ∀ i j, i < j → j < l.length → hgt l i < hgt l j := by
  simp only [vJ, Bool.and_eq_true, List.all_eq_true, decide_eq_true_eq] at h
  have h1 : ∀ k, k + 1 < l.length → hgt l k < hgt l (k + 1) := fun k hk => by
    have := h.1 (k + 1) (List.mem_range.2 hk)
    rw [jX_succ, Bool.and_eq_true, decide_eq_true_eq] at this
    exact this.2
  refine ⟨h.2, fun k hk => ?_, fun i j hij => ?_⟩
  · have := h.1 k (List.mem_range.2 hk)
    rw [jX, Bool.and_eq_true] at this
    exact withinB_iff.1 this.1
  · induction j with
    | zero => omega
    | succ j ih =>
      intro hj
      by_cases he : i = j
      · subst he; exact h1 i hj
      · have := ih (by omega) (by omega)
        have := h1 j hj
        omega
def vC (c : Clb) : Bool := withinB c.fi 1 200000 && withinB c.ga 1 200000 && withinB c.to 1 200000 && withinB c.le 1 200000 && withinB c.la 0 (c.le - 1) && withinB c.st 1 1000000
theorem vC_spec {c : Clb} (h : vC c = true) : (1 ≤ c.fi ∧ c.fi ≤ 200000) ∧ (1 ≤ c.ga ∧ c.ga ≤ 200000) ∧ (1 ≤ c.to ∧ c.to ≤ 200000) ∧ (1 ≤ c.le ∧ c.le ≤ 200000) ∧ (0 ≤ c.la ∧ c.la < c.le) ∧ 1 ≤ c.st ∧ c.st ≤ 1000000 := by
  simp only [vC, Bool.and_eq_true] at h
  obtain ⟨⟨⟨⟨⟨h1, h2⟩, h3⟩, h4⟩, h5⟩, h6⟩ := h
  have := withinB_iff.1 h5
  exact ⟨withinB_iff.1 h1, withinB_iff.1 h2, withinB_iff.1 h3, withinB_iff.1 h4, by omega, withinB_iff.1 h6⟩
/-- The indexes of the sound joints among the first k. -/
def sndL (l : List J) (k : Nat) : List Nat := (List.range k).filter (sndB l)
def sndI (l : List J) (k : Nat) : List Int := (sndL l k).map fun i : Nat => (i : Int)
theorem sndI_yes {l : List J} {k : Nat} (h : sndB l k = true) : sndI l (k + 1) = sndI l k ++ [(k : Int)] := by
  simp [sndI, sndL, List.range_succ, List.filter_append, h]
theorem sndI_no {l : List J} {k : Nat} (h : sndB l k = false) : sndI l (k + 1) = sndI l k := by
  simp [sndI, sndL, List.range_succ, List.filter_append, h]
theorem sndI_len (l : List J) (k : Nat) : (sndI l k).length ≤ k := by
  have := List.length_filter_le (sndB l) (List.range k)
  simpa [sndI, sndL] using this

/-! ### right dogs -/
/-- The number at place k of a list. -/
def num (ds : List Int) (k : Nat) : Int := ds[k]?.getD 0
/-- The k-th number is an index of one of n, and greater than the one before it. -/
def ascX (n : Nat) (ds : List Int) (k : Nat) : Bool := withinB (num ds k) 0 ((n : Int) - 1) && (k == 0 || decide (num ds (k - 1) < num ds k))
def ascB (n : Nat) (ds : List Int) : Bool := (List.range ds.length).all (ascX n ds)
theorem ascX_zero (n : Nat) (ds : List Int) : ascX n ds 0 = withinB (num ds 0) 0 ((n : Int) - 1) := by simp [ascX]
theorem ascX_succ (n : Nat) (ds : List Int) (j : Nat) : ascX n ds (j + 1) = (withinB (num ds (j + 1)) 0 ((n : Int) - 1) && decide (num ds j < num ds (j + 1))) := by simp [ascX]
theorem ascB_spec {n : Nat} {ds : List Int} (h : ascB n ds = true) : (∀ k, k < ds.length → 0 ≤ num ds k ∧ num ds k < n) ∧ ∀ i j, i < j → j < ds.length → num ds i < num ds j := by
  simp only [ascB, List.all_eq_true] at h
  have h1 : ∀ k, k + 1 < ds.length → num ds k < num ds (k + 1) := fun k hk => by
    have := h (k + 1) (List.mem_range.2 hk)
    rw [ascX_succ, Bool.and_eq_true, decide_eq_true_eq] at this
    exact this.2
  refine ⟨fun k hk => ?_, fun i j hij => ?_⟩
  · have := h k (List.mem_range.2 hk)
    rw [ascX, Bool.and_eq_true] at this
    have := withinB_iff.1 this.1
    omega
  · induction j with
    | zero => omega
    | succ j ih =>
      intro hj
      by_cases he : i = j
      · subst he; exact h1 i hj
      · have := ih (by omega) (by omega)
        have := h1 j hj
        omega
/-- The height of the joint with a number. -/
def hI (l : List J) (d : Int) : Int := hgt l d.toNat
def sI (l : List J) (d : Int) : Bool := sndB l d.toNat
/-- The k-th dog holds, and is near enough to the one before it, or to the ground. -/
def stepX (c : Clb) (l : List J) (ds : List Int) (k : Nat) : Bool := sI l (num ds k) && (if k = 0 then decide (hI l (num ds 0) ≤ c.fi) else decide (hI l (num ds k) - hI l (num ds (k - 1)) ≤ c.ga))
theorem stepX_zero (c : Clb) (l : List J) (ds : List Int) : stepX c l ds 0 = (sI l (num ds 0) && decide (hI l (num ds 0) ≤ c.fi)) := by simp [stepX]
theorem stepX_succ (c : Clb) (l : List J) (ds : List Int) (j : Nat) : stepX c l ds (j + 1) = (sI l (num ds (j + 1)) && decide (hI l (num ds (j + 1)) - hI l (num ds j) ≤ c.ga)) := by simp [stepX]
def lastB (c : Clb) (l : List J) (ds : List Int) : Bool := decide (c.to ≤ hI l (num ds (ds.length - 1)) + c.ga)
def right1 (c : Clb) (l : List J) (ds : List Int) : Bool := (List.range ds.length).all (stepX c l ds) && lastB c l ds
def rightB (c : Clb) (l : List J) (ds : List Int) : Bool := (vC c && vJ l) && (!ds.isEmpty && (ascB l.length ds && right1 c l ds))
/-- Both of a place at once, as the reference asks. -/
theorem range_both {p q : Nat → Bool} {n : Nat} : (List.range n).all (fun k => p k && q k) = ((List.range n).all p && (List.range n).all q) := by
  induction n with
  | zero => rfl
  | succ n ih => simp only [List.range_succ, List.all_append, List.all_cons, List.all_nil, ih, Bool.and_true]; cases (List.range n).all p <;> cases (List.range n).all q <;> cases p n <;> cases q n <;> rfl
theorem right_both (c : Clb) (l : List J) (ds : List Int) : (ascB l.length ds && right1 c l ds) = ((List.range ds.length).all (fun k => ascX l.length ds k && stepX c l ds k) && lastB c l ds) := by
  rw [range_both, ascB, right1, Bool.and_assoc]
end Go.Proofs.YtjgibipficojaaaDoor
