/- Cradles: the level place is the first at which the shares differ least: plain. -/
import Derived.Test.YthninhkimhnegaaLevelP
set_option linter.unusedSimpArgs false
set_option linter.unusedVariables false
namespace Go.Proofs.Ythninhkimhnegaa
open Go.RowKit

/-- B is the first of the places 0 .. n-1 at which f is least. -/
def FirstMin (f : Int → Int) (n B : Int) : Prop := (0 ≤ B ∧ B < n) ∧ (∀ y, 0 ≤ y → y < B → f B < f y) ∧ (∀ y, B < y → y < n → f B ≤ f y)
theorem FirstMin.unique {f : Int → Int} {n B C : Int} (h : FirstMin f n B) (k : FirstMin f n C) : B = C := by
  obtain ⟨⟨h1, h2⟩, h3, h4⟩ := h
  obtain ⟨⟨k1, k2⟩, k3, k4⟩ := k
  rcases Int.lt_trichotomy B C with hlt | heq | hlt
  · have a := k3 B h1 hlt
    have b := h4 C hlt k2
    omega
  · exact heq
  · have a := h3 C k1 hlt
    have b := k4 B hlt h2
    omega
theorem FirstMin.next {f : Int → Int} {n B : Int} (h : FirstMin f n B) : FirstMin f (n + 1) (if f n < f B then n else B) := by
  obtain ⟨⟨h1, h2⟩, h3, h4⟩ := h
  by_cases hf : f n < f B
  · rw [if_pos hf]
    refine ⟨by omega, fun y hy1 hy2 => ?_, fun y hy1 hy2 => absurd hy2 (by omega)⟩
    rcases Int.lt_trichotomy y B with hlt | heq | hlt
    · have := h3 y hy1 hlt; omega
    · rw [heq]; exact hf
    · have := h4 y hlt hy2; omega
  · rw [if_neg hf]
    refine ⟨by omega, h3, fun y hy1 hy2 => ?_⟩
    by_cases hyn : y = n
    · rw [hyn]; omega
    · exact h4 y hy1 (by omega)
theorem off_eq (span : Int) (xs : List (Int × Int)) (wt a : Int) : fstR span xs wt a - sndR xs wt a = wsum xs * span - msum xs - msum xs + wt * (span - 2 * a) := by
  rw [fstR_eq, sndR_eq, Int.mul_sub]
  have : wt * (2 * a) = wt * a + wt * a := by rw [show 2 * a = a + a by omega, Int.mul_add]
  omega
theorem diff_lt {span : Int} {xs : List (Int × Int)} {wt a b : Int} (hw : 1 ≤ wt) (h : a < b) : fstR span xs wt b - sndR xs wt b < fstR span xs wt a - sndR xs wt a := by
  have h1 := fstR_mono (span := span) (xs := xs) (wt := wt) (by omega) (show a + 1 ≤ b by omega)
  have h2 := sndR_mono (xs := xs) (wt := wt) (by omega) (show a + 1 ≤ b by omega)
  have h3 : sndR xs wt (a + 1) = sndR xs wt a + wt := by rw [sndR_eq, sndR_eq, Int.mul_add]; omega
  have h4 := fstR_mono (span := span) (xs := xs) (wt := wt) (by omega) (show a ≤ a + 1 by omega)
  omega
theorem levV_first {span : Int} {xs : List (Int × Int)} {wt : Int} (hs : 0 ≤ span) (hw : 1 ≤ wt) (he : levE span xs wt = 0) : FirstMin (offR span xs wt) (span + 1) (levV span xs wt) := by
  have hV : levV span xs wt = if span < levP span xs wt then levP span xs wt - 1 else if 0 < levP span xs wt ∧ offR span xs wt (levP span xs wt - 1) ≤ offR span xs wt (levP span xs wt) then levP span xs wt - 1 else levP span xs wt := if_pos he
  obtain ⟨⟨s1, s2⟩, s3, s4⟩ := leastC_spec' (evP span xs wt) span hs
  have hR : leastC (evP span xs wt) span = levP span xs wt := rfl
  rw [hR] at s1 s2 s3 s4
  generalize levP span xs wt = R at *
  have hd : ∀ a b, a < b → fstR span xs wt b - sndR xs wt b < fstR span xs wt a - sndR xs wt a := fun a b h => diff_lt hw h
  have hoff : ∀ a, offR span xs wt a = max (fstR span xs wt a - sndR xs wt a) (-(fstR span xs wt a - sndR xs wt a)) := fun a => by unfold offR; omega
  have hlo : ∀ a, 0 ≤ a → a < R → 0 < fstR span xs wt a - sndR xs wt a := fun a h1 h2 => by
    have := s3 a h1 h2
    simp only [evP, decide_eq_false_iff_not] at this
    omega
  have hhi : ∀ a, R ≤ a → R ≤ span → fstR span xs wt a - sndR xs wt a ≤ 0 := fun a h1 h2 => by
    have h3 := s4 h2
    simp only [evP, decide_eq_true_eq] at h3
    by_cases hz : R = a
    · rw [← hz]; omega
    · have := hd R a (by omega); omega
  generalize hD : (fun a => fstR span xs wt a - sndR xs wt a) = D
  have hD' : ∀ a, fstR span xs wt a - sndR xs wt a = D a := fun a => by rw [← hD]
  simp only [hD'] at hd hoff hlo hhi
  rw [hV]
  by_cases k1 : span < R
  · rw [if_pos k1]
    have hR2 : R = span + 1 := by omega
    refine ⟨by omega, fun y h1 h2 => ?_, fun y h1 h2 => absurd h2 (by omega)⟩
    rw [hoff, hoff]
    have a1 := hlo y h1 (by omega)
    have a2 := hlo (R - 1) (by omega) (by omega)
    have a3 := hd y (R - 1) h2
    omega
  · rw [if_neg k1]
    by_cases k2 : 0 < R ∧ offR span xs wt (R - 1) ≤ offR span xs wt R
    · rw [if_pos k2]
      refine ⟨by omega, fun y h1 h2 => ?_, fun y h1 h2 => ?_⟩
      · rw [hoff, hoff]
        have a1 := hlo y h1 (by omega)
        have a2 := hlo (R - 1) (by omega) (by omega)
        have a3 := hd y (R - 1) h2
        omega
      · have b1 := k2.2
        rw [hoff, hoff] at b1
        rw [hoff, hoff]
        have a1 := hhi y (by omega) (by omega)
        have a2 := hhi R (by omega) (by omega)
        by_cases hz : R = y
        · rw [← hz]; exact b1
        · have := hd R y (by omega); omega
    · rw [if_neg k2]
      refine ⟨by omega, fun y h1 h2 => ?_, fun y h1 h2 => ?_⟩
      · have b1 : offR span xs wt R < offR span xs wt (R - 1) := by
          rcases Int.lt_or_le (offR span xs wt R) (offR span xs wt (R - 1)) with h | h
          · exact h
          · exact absurd ⟨by omega, h⟩ k2
        rw [hoff, hoff] at b1
        rw [hoff, hoff]
        have a1 := hlo y h1 h2
        have a2 := hlo (R - 1) (by omega) (by omega)
        by_cases hz : y = R - 1
        · rw [hz]; exact b1
        · have := hd y (R - 1) (by omega); omega
      · rw [hoff, hoff]
        have a1 := hhi y (by omega) (by omega)
        have a2 := hhi R (by omega) (by omega)
        have := hd R y h1
        omega
end Go.Proofs.Ythninhkimhnegaa
