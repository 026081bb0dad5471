/- Stacks: what stands above a bed: plain. No program is named. -/
import Derived.Test.YtfahdgmnlpkaiaaStk1
set_option linter.unusedSimpArgs false
set_option linter.unusedVariables false
namespace Go.Proofs.Ytfahdgmnlpkaiaa
open Go.RowKit

def ab0 : Ab := ⟨0, 0, 0, 0, 0⟩
/-- The sum of the faces of some courses, and what they are as a load. -/
def stA : List Cs → Int × Ab
  | [] => (0, ab0)
  | c :: r => ((stA r).1 + c.o * c.h, ⟨(stA r).2.w + c.g, (stA r).2.e + c.g * c.e, (stA r).2.n + c.g * c.n, (stA r).2.h + c.h, (stA r).2.p + (2 * (stA r).1 * c.h + c.o * c.h * c.h)⟩)
theorem sndC_spec {c : Cs} (h : sndC c = true) : (1 ≤ c.h ∧ c.h ≤ 2000) ∧ 0 ≤ c.i ∧ c.i < c.o ∧ c.o ≤ 5000 ∧ (1 ≤ c.g ∧ c.g ≤ 1000000) ∧ (-5000 ≤ c.e ∧ c.e ≤ 5000) ∧ -5000 ≤ c.n ∧ c.n ≤ 5000 := by
  simp only [sndC, Bool.and_eq_true, decide_eq_true_eq] at h
  obtain ⟨h1, h2, h3, h4, h5, h6, h7⟩ := h
  exact ⟨withinB_iff.1 h1, h2, h3, h4, withinB_iff.1 h5, withinB_iff.1 h6, withinB_iff.1 h7⟩
/-- The products of a course. -/
theorem cs_prod {c : Cs} (h : sndC c = true) {f : Int} (hf : 0 ≤ f ∧ f ≤ 200000000) : (0 ≤ c.o * c.h ∧ c.o * c.h ≤ 10000000) ∧ (0 ≤ c.o * c.h * c.h ∧ c.o * c.h * c.h ≤ 20000000000) ∧ (0 ≤ 2 * f * c.h ∧ 2 * f * c.h ≤ 800000000000) ∧ (-5000000000 ≤ c.g * c.e ∧ c.g * c.e ≤ 5000000000) ∧ -5000000000 ≤ c.g * c.n ∧ c.g * c.n ≤ 5000000000 := by
  obtain ⟨h1, h2, h3, h4, h5, h6, h7⟩ := sndC_spec h
  have a1 := mulB (x := c.o) (y := c.h) (A := 5000) (B := 2000) (by omega) (by omega)
  have b1 : 0 ≤ c.o * c.h := Int.mul_nonneg (by omega) (by omega)
  have a2 := mulB (x := c.o * c.h) (y := c.h) (A := 10000000) (B := 2000) (by omega) (by omega)
  have b2 : 0 ≤ c.o * c.h * c.h := Int.mul_nonneg b1 (by omega)
  have a3 := mulB (x := 2 * f) (y := c.h) (A := 400000000) (B := 2000) (by omega) (by omega)
  have b3 : 0 ≤ 2 * f * c.h := Int.mul_nonneg (by omega) (by omega)
  have a4 := mulB (x := c.g) (y := c.e) (A := 1000000) (B := 5000) (by omega) h6
  have a5 := mulB (x := c.g) (y := c.n) (A := 1000000) (B := 5000) (by omega) h7
  omega
theorem stA_bd : ∀ (l : List Cs), l.length ≤ 20 → l.all sndC = true → (0 ≤ (stA l).1 ∧ (stA l).1 ≤ l.length * 10000000) ∧ (0 ≤ (stA l).2.w ∧ (stA l).2.w ≤ l.length * 1000000) ∧ (-(l.length * 5000000000) ≤ (stA l).2.e ∧ (stA l).2.e ≤ l.length * 5000000000) ∧ (-(l.length * 5000000000) ≤ (stA l).2.n ∧ (stA l).2.n ≤ l.length * 5000000000) ∧ (0 ≤ (stA l).2.h ∧ (stA l).2.h ≤ l.length * 2000) ∧ 0 ≤ (stA l).2.p ∧ (stA l).2.p ≤ l.length * 820000000000 := by
  intro l
  induction l with
  | nil => intro _ _; simp [stA, ab0]
  | cons c r ih =>
    intro hl ha
    rw [List.all_cons, Bool.and_eq_true] at ha
    rw [List.length_cons] at hl
    obtain ⟨i1, i2, i3, i4, i5, i6⟩ := ih (by omega) ha.2
    obtain ⟨p1, p2, p3, p4, p5⟩ := cs_prod ha.1 (f := (stA r).1) (by omega)
    obtain ⟨h1, h2, h3, h4, h5, h6, h7⟩ := sndC_spec ha.1
    simp only [stA, List.length_cons]
    omega
theorem stA_ok {l : List Cs} (hl : l.length ≤ 20) (ha : l.all sndC = true) : abOk (stA l).2 := by
  obtain ⟨i1, i2, i3, i4, i5, i6⟩ := stA_bd l hl ha
  unfold abOk
  omega
/-- The yields from the top down. -/
def bedY (l : List Cs) (j : Nat) : Nat × Ab := (l.length - 1 - j, (stA (l.drop (l.length - 1 - j))).2)
def bedL (l : List Cs) (k : Nat) : List (Nat × Ab) := (List.range k).map (bedY l)
theorem bedL_succ (l : List Cs) (k : Nat) : bedL l (k + 1) = bedL l k ++ [bedY l k] := by unfold bedL; rw [List.range_succ, List.map_append]; rfl
theorem bedL_len (l : List Cs) (k : Nat) : (bedL l k).length = k := by unfold bedL; simp
theorem stA_drop {l : List Cs} {i : Nat} (h : i < l.length) : stA (l.drop i) = ((stA (l.drop (i + 1))).1 + (csA l i).o * (csA l i).h, ⟨(stA (l.drop (i + 1))).2.w + (csA l i).g, (stA (l.drop (i + 1))).2.e + (csA l i).g * (csA l i).e, (stA (l.drop (i + 1))).2.n + (csA l i).g * (csA l i).n, (stA (l.drop (i + 1))).2.h + (csA l i).h, (stA (l.drop (i + 1))).2.p + (2 * (stA (l.drop (i + 1))).1 * (csA l i).h + (csA l i).o * (csA l i).h * (csA l i).h)⟩) := by
  rw [List.drop_eq_getElem_cons h, csA_get h]
  rfl
def turnC (c : Cs) : Cs := { c with e := -c.n, n := c.e }
theorem sndC_turn (c : Cs) : sndC (turnC c) = sndC c := by
  unfold sndC turnC
  simp only
  rw [withinB_neg, Bool.and_comm (withinB c.n _ _)]
theorem stA_turn : ∀ l : List Cs, stA (l.map turnC) = ((stA l).1, ⟨(stA l).2.w, -(stA l).2.n, (stA l).2.e, (stA l).2.h, (stA l).2.p⟩)
  | [] => rfl
  | c :: r => by
    rw [List.map_cons]
    simp only [stA, stA_turn r, turnC]
    have e1 : c.g * -c.n = -(c.g * c.n) := Int.mul_neg ..
    rw [e1, Int.neg_add]
theorem csA_turn {l : List Cs} {k : Nat} (h : k < l.length) : csA (l.map turnC) k = turnC (csA l k) := by
  unfold csA
  rw [List.getElem?_map, List.getElem?_eq_getElem h]; rfl
theorem vS_turn (l : List Cs) : vS (l.map turnC) = vS l := by
  unfold vS
  rw [List.length_map, List.all_map]
  congr 2
  funext c
  exact sndC_turn c
theorem mv_turn {s : Int} (h : 0 ≤ s ∧ s ≤ 3) : mvX ((s + 1) % 4) = -mvY s ∧ mvY ((s + 1) % 4) = mvX s := by
  rcases (by omega : s = 0 ∨ s = 1 ∨ s = 2 ∨ s = 3) with rfl | rfl | rfl | rfl <;> exact ⟨rfl, rfl⟩
theorem arm_turn (c : Cs) (a : Ab) (p : Int) {s : Int} (h : 0 ≤ s ∧ s ≤ 3) : armX (turnC c) ⟨a.w, -a.n, a.e, a.h, a.p⟩ p ((s + 1) % 4) = -armY c a p s ∧ armY (turnC c) ⟨a.w, -a.n, a.e, a.h, a.p⟩ p ((s + 1) % 4) = armX c a p s := by
  obtain ⟨h1, h2⟩ := mv_turn h
  unfold armX armY turnC
  simp only
  rw [h1, h2]
  refine ⟨?_, rfl⟩
  have e1 : a.w * -c.n = -(a.w * c.n) := Int.mul_neg ..
  have e2 : -mvY s * p * a.p = -(mvY s * p * a.p) := by rw [Int.neg_mul, Int.neg_mul]
  rw [e1, e2]
  omega
theorem low_neg (n d : Int) (hd : 1 ≤ d) : lowN (-n) d = -lowN n d ∧ lowD (-n) d = lowD n d := by
  have hg : Int.gcd (-n) d = Int.gcd n d := Int.neg_gcd
  unfold lowN lowD
  rw [hg]
  exact ⟨Int.neg_ediv_of_dvd (Int.gcd_dvd_left ..), rfl⟩
end Go.Proofs.Ytfahdgmnlpkaiaa
