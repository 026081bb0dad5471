/- The first place for which a function is true, by halves: 'least', with each of the closures that it is called with. -/
import Derived.Test.YtkphkknlenjjhaaNum
set_option linter.unusedSimpArgs false
set_option linter.unusedVariables false
namespace Go.Proofs.Ytkphkknlenjjhaa
open Go.RowKit

def LSpec (p : Int → Bool) (n r : Int) : Prop := (0 ≤ r ∧ r ≤ n + 1) ∧ (∀ a, 0 ≤ a → a < r → p a = false) ∧ (r ≤ n → p r = true)
theorem LSpec.unique {p : Int → Bool} {n r t : Int} (h : LSpec p n r) (k : LSpec p n t) : r = t := by
  obtain ⟨⟨h1, h2⟩, h3, h4⟩ := h
  obtain ⟨⟨k1, k2⟩, k3, k4⟩ := k
  rcases Int.lt_trichotomy r t with hlt | heq | hlt
  · have a := k3 r h1 hlt
    have b := h4 (by omega)
    rw [a] at b; cases b
  · exact heq
  · have a := h3 t k1 hlt
    have b := k4 (by omega)
    rw [a] at b; cases b
noncomputable def leastC (p : Int → Bool) (n : Int) : Int := by
  classical exact if h : ∃ r, LSpec p n r then h.choose else 0
theorem LSpec.eq {p : Int → Bool} {n r : Int} (h : LSpec p n r) : leastC p n = r := by
  have hex : ∃ r, LSpec p n r := ⟨r, h⟩
  have : LSpec p n (leastC p n) := by unfold leastC; rw [dif_pos hex]; exact hex.choose_spec
  exact this.unique h
/-- What the halves leave. -/
theorem LSpec.of {p : Int → Bool} {n lo hi : Int} (hm : ∀ a b, 0 ≤ a → a ≤ b → b ≤ n → p a = true → p b = true) (h1 : -1 ≤ lo) (h2 : lo + 1 = hi) (h3 : hi ≤ n + 1) (hl : 0 ≤ lo → p lo = false) (hh : hi ≤ n → p hi = true) : LSpec p n hi := by
  refine ⟨by omega, fun a ha hb => ?_, hh⟩
  cases hp : p a with
  | false => rfl
  | true =>
    have := hm a lo ha (by omega) (by omega) hp
    rw [hl (by omega)] at this
    cases this

end Go.Proofs.Ytkphkknlenjjhaa
