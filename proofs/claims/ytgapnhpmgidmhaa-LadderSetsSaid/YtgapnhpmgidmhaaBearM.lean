/- Ladders on dogs, and what they bear: plain. No program is named. -/
import Derived.Test.YtgapnhpmgidmhaaOnM
set_option linter.unusedSimpArgs false
set_option linter.unusedVariables false
namespace Go.Proofs.Ytgapnhpmgidmhaa
open Go.RowKit

/-- How many dogs a ladder has that stands on the f-th one. -/
def onN (c : Clb) (l : List J) (ds : List Int) (f : Nat) : Nat := (onI c l ds f ds.length).length
theorem onN_le (c : Clb) (l : List J) (ds : List Int) (f : Nat) : onN c l ds f ≤ ds.length := onI_len _ _ _ _ _
/-- The foot's height of a ladder. -/
def hL (l : List J) (ds : List Int) (f : Int) : Int := hD l ds f.toNat
def two (c : Clb) (l : List J) (ds : List Int) (f : Int) : Bool := decide (2 ≤ onN c l ds f.toNat)
def setX (c : Clb) (l : List J) (ds ls : List Int) (k : Nat) : Bool := two c l ds (num ls k) && (if k = 0 then decide (hL l ds (num ls 0) ≤ c.fi) else decide (hL l ds (num ls k) - hL l ds (num ls (k - 1)) ≤ c.le - c.la))
theorem setX_zero (c : Clb) (l : List J) (ds ls : List Int) : setX c l ds ls 0 = (two c l ds (num ls 0) && decide (hL l ds (num ls 0) ≤ c.fi)) := by simp [setX]
theorem setX_succ (c : Clb) (l : List J) (ds ls : List Int) (j : Nat) : setX c l ds ls (j + 1) = (two c l ds (num ls (j + 1)) && decide (hL l ds (num ls (j + 1)) - hL l ds (num ls j) ≤ c.le - c.la)) := by simp [setX]
def topB (c : Clb) (l : List J) (ds ls : List Int) : Bool := decide (c.to ≤ hL l ds (num ls (ls.length - 1)) + c.le)
def set1 (c : Clb) (l : List J) (ds ls : List Int) : Bool := (List.range ls.length).all (setX c l ds ls) && topB c l ds ls
def setB (c : Clb) (l : List J) (ds ls : List Int) : Bool := rightB c l ds && (!ls.isEmpty && (ascB ds.length ls && set1 c l ds ls))
def bothS (c : Clb) (l : List J) (ds ls : List Int) (k : Nat) : Bool := ascX ds.length ls k && setX c l ds ls k
theorem set_both (c : Clb) (l : List J) (ds ls : List Int) : (ascB ds.length ls && set1 c l ds ls) = ((List.range ls.length).all (bothS c l ds ls) && topB c l ds ls) := by
  have := range_both (p := ascX ds.length ls) (q := setX c l ds ls) (n := ls.length)
  show _ = ((List.range ls.length).all (fun k => ascX ds.length ls k && setX c l ds ls k) && topB c l ds ls)
  rw [this, ascB, set1, Bool.and_assoc]
/-- Whether a ladder may stand behind another one (below 0 for the ground). -/
def aftB (c : Clb) (l : List J) (ds : List Int) (b : Int) (f : Nat) : Bool := decide (2 ≤ onN c l ds f) && (if b < 0 then decide (hD l ds f ≤ c.fi) else (decide (b < f) && decide (hD l ds f - hD l ds b.toNat ≤ c.le - c.la)))
theorem aftB_few {c : Clb} {l : List J} {ds : List Int} {b : Int} {f : Nat} (h : ¬ 2 ≤ onN c l ds f) : aftB c l ds b f = false := by unfold aftB; rw [decide_eq_false h]; rfl
theorem aftB_neg {c : Clb} {l : List J} {ds : List Int} {b : Int} {f : Nat} (h : 2 ≤ onN c l ds f) (hb : b < 0) : aftB c l ds b f = decide (hD l ds f ≤ c.fi) := by unfold aftB; rw [decide_eq_true h, if_pos hb]; rfl
theorem aftB_nat {c : Clb} {l : List J} {ds : List Int} {b f : Nat} (h : 2 ≤ onN c l ds f) : aftB c l ds b f = (decide (b < f) && decide (hD l ds f - hD l ds b ≤ c.le - c.la)) := by
  unfold aftB; rw [decide_eq_true h, if_neg (by omega), Bool.true_and, Int.toNat_natCast]
  congr 1
  exact decide_eq_decide.2 (by omega)
theorem setX_aft {c : Clb} {l : List J} {ds ls : List Int} {k D : Nat} (hD' : num ls k = (D : Int)) (hb : 0 < k → 0 ≤ num ls (k - 1) ∧ num ls (k - 1) < num ls k) : setX c l ds ls k = aftB c l ds (if k = 0 then -1 else num ls (k - 1)) D := by
  unfold setX aftB two hL
  rw [hD', Int.toNat_natCast]
  congr 1
  by_cases hk : k = 0
  · subst hk
    rw [if_pos rfl, if_pos rfl, if_pos (by decide), hD', Int.toNat_natCast]
  · rw [if_neg hk, if_neg hk]
    have h2 := hb (by omega)
    rw [if_neg (by omega), decide_eq_true (show num ls (k - 1) < D by omega), Bool.true_and]
/-! ### What ladders bear -/
def bearK (c : Clb) (l : List J) (ds ls : List Int) : Nat → Int
  | 0 => 1000000000
  | k + 1 => min (bearK c l ds ls k) (c.st * ((onN c l ds (num ls k).toNat : Int) - 1))
def bearG (c : Clb) (l : List J) (ds ls : List Int) : Int := if setB c l ds ls then bearK c l ds ls ls.length else 0
def bearE (c : Clb) (l : List J) (ds ls : List Int) : Int := if vC c && vJ l then (if setB c l ds ls then 0 else 10) else 1
def beE (c : Clb) (l : List J) (ds ls : List Int) (x : Int) : Int := if vC c && vJ l then (if withinB x 0 1000000000 then (if setB c l ds ls then 0 else 10) else 7) else 1
def beV (c : Clb) (l : List J) (ds ls : List Int) (x : Int) : Bool := (vC c && vJ l) && (withinB x 0 1000000000 && (setB c l ds ls && decide (x ≤ bearK c l ds ls ls.length)))
theorem set_right {c : Clb} {l : List J} {ds ls : List Int} (h : setB c l ds ls = true) : rightB c l ds = true := by
  unfold setB at h
  rw [Bool.and_eq_true] at h
  exact h.1
theorem right_valid {c : Clb} {l : List J} {ds : List Int} (h : rightB c l ds = true) : (vC c && vJ l) = true := by
  unfold rightB at h
  rw [Bool.and_eq_true] at h
  exact h.1
theorem set_spec {c : Clb} {l : List J} {ds ls : List Int} (h : setB c l ds ls = true) : 0 < ls.length ∧ (∀ k, k < ls.length → 0 ≤ num ls k ∧ num ls k < ds.length ∧ 2 ≤ onN c l ds (num ls k).toNat) := by
  unfold setB at h
  simp only [Bool.and_eq_true] at h
  obtain ⟨_, h2, h3, h4⟩ := h
  refine ⟨?_, fun k hk => ?_⟩
  · cases ls with
    | nil => simp at h2
    | cons _ _ => simp
  · have ha := (ascB_spec h3).1 k hk
    unfold set1 at h4
    rw [Bool.and_eq_true, List.all_eq_true] at h4
    have := h4.1 k (List.mem_range.2 hk)
    unfold setX two at this
    rw [Bool.and_eq_true, decide_eq_true_eq] at this
    exact ⟨ha.1, ha.2, this.1⟩
theorem bearK_bd {c : Clb} {l : List J} {ds ls : List Int} (hc : 1 ≤ c.st) (h : ∀ k, k < ls.length → 2 ≤ onN c l ds (num ls k).toNat) : ∀ k, k ≤ ls.length → 0 ≤ bearK c l ds ls k ∧ bearK c l ds ls k ≤ 1000000000 := by
  intro k
  induction k with
  | zero => intro _; show (0 : Int) ≤ 1000000000 ∧ (1000000000 : Int) ≤ 1000000000; omega
  | succ k ih =>
    intro hk
    have h1 := ih (by omega)
    have h2 := h k (by omega)
    have h3 : 0 ≤ c.st * ((onN c l ds (num ls k).toNat : Int) - 1) := Int.mul_nonneg (by omega) (by omega)
    show 0 ≤ min _ _ ∧ min _ _ ≤ _
    omega
theorem bear_facts {c : Clb} {l : List J} {ds ls : List Int} (h : bearE c l ds ls = 0) : setB c l ds ls = true ∧ (vC c && vJ l) = true ∧ (0 ≤ bearG c l ds ls ∧ bearG c l ds ls ≤ 1000000000) := by
  unfold bearE at h
  cases hs : setB c l ds ls
  · rw [hs] at h
    split at h <;> simp at h
  · have hv := right_valid (set_right hs)
    refine ⟨rfl, hv, ?_⟩
    unfold bearG
    rw [hs, if_pos rfl]
    rw [Bool.and_eq_true] at hv
    exact bearK_bd (vC_spec hv.1).2.2.2.2.2.1 (fun k hk => ((set_spec hs).2 k hk).2.2) _ (Nat.le_refl _)
/-- What the statement asks of the numbers. -/
theorem bear_law {c : Clb} {l : List J} {ds ls : List Int} (x : Int) (h : bearE c l ds ls = 0) :
    (beE c l ds ls x = 0 → beV c l ds ls x = decide (x ≤ bearG c l ds ls)) ∧ beE c l ds ls (bearG c l ds ls) = 0 ∧ beV c l ds ls (bearG c l ds ls) = true ∧
    (bearG c l ds ls ≠ 1000000000 → beE c l ds ls (bearG c l ds ls + 1) = 0 ∧ beV c l ds ls (bearG c l ds ls + 1) = false) := by
  obtain ⟨hs, hv, hb⟩ := bear_facts h
  have hG : bearG c l ds ls = bearK c l ds ls ls.length := by unfold bearG; rw [hs]; rfl
  unfold beE beV
  rw [hs, hv, ← hG]
  refine ⟨fun h0 => ?_, ?_, ?_, fun h1 => ⟨?_, ?_⟩⟩
  · cases hw : withinB x 0 1000000000
    · rw [hw] at h0; simp at h0
    · simp
  · rw [withinB_iff.2 hb]; rfl
  · rw [withinB_iff.2 hb]; simp
  · rw [withinB_iff.2 ⟨by omega, by omega⟩]; rfl
  · rw [withinB_iff.2 ⟨by omega, by omega⟩, decide_eq_false (by omega)]; rfl
end Go.Proofs.Ytgapnhpmgidmhaa
