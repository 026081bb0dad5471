/- The fewest ladders as the program finds them: one foot at a time, each the first that needs one ladder less: plain. No program is named. -/
import Derived.Test.YtgapnhpmgidmhaaLadM2
set_option linter.unusedSimpArgs false
set_option linter.unusedVariables false
namespace Go.Proofs.Ytgapnhpmgidmhaa
open Go.RowKit

/-- From some feet, the last of them a, to all of them in r steps. -/
inductive Way (c : Clb) (F : List J) (fin : List Int) : List Int → Int → Nat → Prop
  | stop {a : Int} : Way c F fin fin a 0
  | step {out : List Int} {a : Int} {r : Nat} (E : Nat) (h1 : E < F.length) (h2 : folB c F a E = true) (h3 : need c F E = r + 1) (h4 : ∀ K, K < E → folB c F a K = true → need c F K ≠ r + 1) (h : Way c F fin (out ++ [(E : Int)]) E r) : Way c F fin out a (r + 1)
theorem way_first {c : Clb} {F : List J} {a : Int} {i r : Nat} (h2 : i < F.length ∧ folB c F a i = true) (h3 : need c F i = r + 1) (h5 : ∀ q, q < i → (q < F.length ∧ folB c F a q = true) → 0 < need c F q → need c F i < need c F q) : ∀ K, K < i → folB c F a K = true → need c F K ≠ r + 1 := fun K hK hf hn => by
  have := h5 K hK ⟨by omega, hf⟩ (by omega)
  omega
theorem way_fewF {c : Clb} {F : List J} : ∀ (r E f : Nat) (out : List Int), need c F E = r + 2 → F.length ≤ f + E → ∃ xs, fewF c F f E = some xs ∧ Way c F (out ++ xs) out E (r + 1) := by
  intro r
  induction r with
  | zero =>
    intro E f out hn hf
    obtain ⟨hE, hs⟩ := need_snd (c := c) (l := F) (d := E) (by omega)
    obtain ⟨s1, s2, s3⟩ := need_spec c F E hE
    have hnt : ¬ c.to ≤ hgt F E + c.ga := fun h => by have := s2 hs h; omega
    have hfo : ∀ q, (q < F.length ∧ folB c F (E : Int) q = true) ↔ (E < q ∧ q < F.length ∧ hgt F q - hgt F E ≤ c.ga) := fun q => by
      rw [folB_nat, Bool.and_eq_true, decide_eq_true_eq, decide_eq_true_eq]
      constructor
      · rintro ⟨h1, h2, h3⟩; exact ⟨h2, h1, h3⟩
      · rintro ⟨h1, h2, h3⟩; exact ⟨h2, h1, h3⟩
    obtain ⟨g, rfl⟩ : ∃ g, f = g + 1 := ⟨f - 1, by omega⟩
    rcases s3 hs hnt with ⟨h0, _⟩ | ⟨k, k1, k2, k3, k4⟩
    · omega
    · rcases nxt_spec c F (E : Int) with ⟨_, h2⟩ | ⟨i, h1, h2, h3, h4, h5⟩
      · have := h2 k ((hfo k).2 k1); omega
      · have hi1 : need c F i = 1 := by
          have := h4 k ((hfo k).2 k1) k2
          omega
        have hx : ¬ nxt c F (E : Int) < 0 := by rw [h1]; omega
        have hx1 : need c F (nxt c F (E : Int)).toNat = 1 := by rw [h1]; simpa using hi1
        refine ⟨[(i : Int)], by rw [fewF_one hx hx1, h1], .step i h2.1 h2.2 hi1 (way_first h2 hi1 h5) .stop⟩
  | succ r ih =>
    intro E f out hn hf
    obtain ⟨hE, hs⟩ := need_snd (c := c) (l := F) (d := E) (by omega)
    obtain ⟨s1, s2, s3⟩ := need_spec c F E hE
    have hnt : ¬ c.to ≤ hgt F E + c.ga := fun h => by have := s2 hs h; omega
    have hfo : ∀ q, (q < F.length ∧ folB c F (E : Int) q = true) ↔ (E < q ∧ q < F.length ∧ hgt F q - hgt F E ≤ c.ga) := fun q => by
      rw [folB_nat, Bool.and_eq_true, decide_eq_true_eq, decide_eq_true_eq]
      constructor
      · rintro ⟨h1, h2, h3⟩; exact ⟨h2, h1, h3⟩
      · rintro ⟨h1, h2, h3⟩; exact ⟨h2, h1, h3⟩
    obtain ⟨g, rfl⟩ : ∃ g, f = g + 1 := ⟨f - 1, by omega⟩
    rcases s3 hs hnt with ⟨h0, _⟩ | ⟨k, k1, k2, k3, k4⟩
    · omega
    · rcases nxt_spec c F (E : Int) with ⟨_, h2⟩ | ⟨i, h1, h2, h3, h4, h5⟩
      · have := h2 k ((hfo k).2 k1); omega
      · have hi1 : need c F i = r + 2 := by
          have h6 := h4 k ((hfo k).2 k1) k2
          have h7 := k4 i ((hfo i).1 h2) h3
          omega
        have hx : ¬ nxt c F (E : Int) < 0 := by rw [h1]; omega
        have hx1 : ¬ need c F (nxt c F (E : Int)).toNat = 1 := by rw [h1]; simp; omega
        have hEi := ((hfo i).1 h2).1
        obtain ⟨ys, hy1, hy2⟩ := ih i g (out ++ [(i : Int)]) hi1 (by omega)
        refine ⟨(i : Int) :: ys, ?_, ?_⟩
        · rw [fewF_more hx hx1, h1, hy1]; rfl
        · have : out ++ (i : Int) :: ys = out ++ [(i : Int)] ++ ys := by simp
          rw [this]
          exact .step i h2.1 h2.2 hi1 (way_first h2 hi1 h5) hy2
/-- No foot that stands first needs m ladders. -/
def NoFoot (c : Clb) (F : List J) (m : Nat) : Prop := ∀ K, K < F.length → folB c F (-1) K = true → need c F K ≠ m
theorem few_way (c : Clb) (F : List J) : (few c F = none ∧ ∀ m, 0 < m → NoFoot c F m) ∨ ∃ fin r, few c F = some fin ∧ Way c F fin [] (-1) (r + 1) ∧ r + 1 ≤ F.length ∧ ∀ m, 0 < m → m ≤ r → NoFoot c F m := by
  rcases nxt_spec c F (-1) with ⟨h1, h2⟩ | ⟨i, h1, h2, h3, h4, h5⟩
  · exact .inl ⟨fewF_none (by rw [h1]; omega), fun m hm K hK hf hn => by have := h2 K ⟨hK, hf⟩; omega⟩
  · right
    have hx : ¬ nxt c F (-1) < 0 := by rw [h1]; omega
    obtain ⟨r, hr⟩ : ∃ r, need c F i = r + 1 := ⟨need c F i - 1, by omega⟩
    have hb := need_bd c F i
    have hno : ∀ m, 0 < m → m ≤ r → NoFoot c F m := fun m hm hmr K hK hf hn => by
      have := h4 K ⟨hK, hf⟩ (by omega)
      omega
    rcases Nat.eq_zero_or_pos r with rfl | hr0
    · exact ⟨[(i : Int)], 0, by show fewF _ _ _ _ = _; rw [fewF_one hx (by rw [h1]; simpa using hr), h1], .step i h2.1 h2.2 hr (way_first h2 hr h5) .stop, by omega, hno⟩
    · obtain ⟨s, rfl⟩ : ∃ s, r = s + 1 := ⟨r - 1, by omega⟩
      obtain ⟨ys, hy1, hy2⟩ := way_fewF (c := c) (F := F) s i F.length [(i : Int)] hr (by omega)
      refine ⟨(i : Int) :: ys, s + 1, ?_, .step i h2.1 h2.2 hr (way_first h2 hr h5) hy2, by omega, hno⟩
      show fewF _ _ _ _ = _
      rw [fewF_more hx (by rw [h1]; simp; omega), h1, hy1]; rfl
end Go.Proofs.Ytgapnhpmgidmhaa
