/- RopeWears: the plain law. -/
import Derived.Test.YthninhkimhnegaaRet
import Derived.Test.YthninhkimhnegaaAppend
set_option linter.unusedSimpArgs false
set_option linter.unusedVariables false
namespace Go.Proofs.Ythninhkimhnegaa
open Go.RowKit

theorem leastC_spec (p : Int → Bool) (n : Int) (h : 0 ≤ n) : LSpec p n (leastC p n) := by
  have key : ∀ m : Nat, (∀ a : Int, 0 ≤ a → a < m → p a = false) ∨ ∃ r : Int, 0 ≤ r ∧ r < m ∧ p r = true ∧ ∀ a, 0 ≤ a → a < r → p a = false := by
    intro m
    induction m with
    | zero => exact .inl fun a h1 h2 => absurd h2 (by omega)
    | succ m ih =>
      rcases ih with ih | ⟨r, h1, h2, h3, h4⟩
      · cases hp : p m with
        | true => exact .inr ⟨m, by omega, by omega, hp, fun a h1 h2 => ih a h1 h2⟩
        | false =>
          refine .inl fun a h1 h2 => ?_
          by_cases ha : a = m
          · rw [ha]; exact hp
          · exact ih a h1 (by omega)
      · exact .inr ⟨r, h1, by omega, h3, h4⟩
  have hex : ∃ r, LSpec p n r := by
    rcases key (n + 1).toNat with h1 | ⟨r, h1, h2, h3, h4⟩
    · exact ⟨n + 1, ⟨by omega, by omega⟩, fun a ha hb => h1 a ha (by omega), fun hh => absurd hh (by omega)⟩
    · exact ⟨r, ⟨h1, by omega⟩, h4, fun _ => h3⟩
  unfold leastC
  rw [dif_pos hex]
  exact hex.choose_spec
/-- The day that Retires tells, and a day. -/
theorem least_day {p : Int → Bool} {n : Int} (hn : 0 ≤ n) (hm : ∀ a b, 0 ≤ a → a ≤ b → b ≤ n → p a = true → p b = true) {day : Int} (h0 : 0 ≤ day) (h1 : day ≤ n) : p day = decide (leastC p n ≤ day) := by
  obtain ⟨⟨s1, s2⟩, s3, s4⟩ := leastC_spec p n hn
  by_cases h : leastC p n ≤ day
  · rw [decide_eq_true h]
    exact hm _ day s1 h h1 (s4 (by omega))
  · rw [decide_eq_false h]
    exact s3 day h0 (by omega)
theorem leftR_more {s d : Int} {us : List (Int × Int)} {day ld : Int} (hs : 1 ≤ s) (hl : 0 ≤ ld) (hl2 : ld ≤ 1000000) : leftR s d (us ++ [(day, ld)]) day ≤ leftR s d us day := by
  have := cst_bd hs hl hl2
  unfold leftR
  rw [lsumD_snoc]
  dsimp only
  rw [if_pos (Int.le_refl _)]
  omega
theorem mayR_less {s d l : Int} {us : List (Int × Int)} {day ld le : Int} (h : mayR s d l us day ld = true) (hle : le ≤ ld) : mayR s d l us day le = true := by
  simp only [mayR, Bool.and_eq_true, decide_eq_true_eq] at *
  exact ⟨h.1, by omega⟩
theorem ask_of {s d l : Int} {us : List (Int × Int)} {day day' : Int} (h : askR s d l us day = 0) (h0 : 0 ≤ day') (h1 : day' ≤ 100000) : askR s d l us day' = 0 := by
  obtain ⟨g1, g2, _⟩ := ask_spec h
  unfold askR
  rw [g1, g2, withinB_iff.2 ⟨h0, h1⟩]
  rfl
/-- All that the law asks, of what the functions answer. -/
theorem wears {s d l : Int} {us : List (Int × Int)} {day : Int} (h : askR s d l us day = 0) :
    (∀ later, askR s d l us later = 0 → day ≤ later → leftV s d l us later ≤ leftV s d l us day) ∧
    (∀ ld, askR s d l (us ++ [(day, ld)]) day = 0 → leftV s d l (us ++ [(day, ld)]) day ≤ leftV s d l us day) ∧
    (∀ ld le, errR s d l us day ld = 0 → mayV s d l us day ld = true → 0 ≤ le → le ≤ ld → errR s d l us day le = 0 ∧ mayV s d l us day le = true) ∧
    ((retE s d l us = 8 ∧ l ≤ leftV s d l us day) ∨ (retE s d l us = 0 ∧ decide (retV s d l us ≤ day) = decide (leftV s d l us day < l))) := by
  obtain ⟨g1, g2, g3, g4⟩ := ask_spec h
  obtain ⟨⟨r1, r2⟩, ⟨r3, r4⟩, r5, r6⟩ := goodR_spec g1
  have hv : ∀ {vs : List (Int × Int)} {x : Int}, askR s d l vs x = 0 → leftV s d l vs x = leftR s d vs x := fun h => if_pos h
  refine ⟨fun later h1 h2 => ?_, fun ld h1 => ?_, fun ld le h1 h2 h3 h4 => ?_, ?_⟩
  · rw [hv h, hv h1]
    exact leftR_mono g1 g2 g3 h2
  · rw [hv h, hv h1]
    obtain ⟨_, k2, _⟩ := ask_spec h1
    have := (goodU_spec k2).2.1 us.length (by simp)
    simp at this
    exact leftR_more r1 this.2.1 this.2.2
  · obtain ⟨_, _, _, e1, e2⟩ := err_spec h1
    have e3 : errR s d l us day le = 0 := by
      rw [err_ask, if_pos h, if_pos (okLoad_iff.2 ⟨h3, by omega⟩)]
    refine ⟨e3, ?_⟩
    unfold mayV at *
    rw [if_pos h1] at h2
    rw [if_pos e3]
    exact mayR_less h2 h4
  · have h0 := ask_of h (day' := 0) (by decide) (by decide)
    have hd := least_day (p := gone s d l us) (n := 100000) (by decide) (gone_mono g1 g2 _) g3 g4
    rw [hv h]
    by_cases hR : leastC (gone s d l us) 100000 ≤ 100000
    · right
      have e1 : retE s d l us = 0 := by unfold retE; rw [if_pos h0, if_pos hR]
      have e2 : retV s d l us = leastC (gone s d l us) 100000 := by unfold retV; rw [if_pos h0, if_pos hR]
      rw [e2]
      exact ⟨e1, hd.symm⟩
    · left
      have e1 : retE s d l us = 8 := by unfold retE; rw [if_pos h0, if_neg hR]
      refine ⟨e1, ?_⟩
      rw [decide_eq_false (by omega)] at hd
      simp only [gone, decide_eq_false_iff_not] at hd
      omega
end Go.Proofs.Ythninhkimhnegaa
