/- How high one can come, and where a height proves that there are no right dogs: plain. -/
import Derived.Test.YtecocbohaggokaaLeastM
import Derived.Test.YtecocbohaggokaaFewM
set_option linter.unusedSimpArgs false
set_option linter.unusedVariables false
namespace Go.Proofs.Ytecocbohaggokaa
open Go.RowKit

/-- Whether a dog at a height can be reached when one can come as high as F (0: nowhere). -/
def canB (c : Clb) (F h : Int) : Bool := decide (h ≤ c.fi) || (decide (0 < F) && decide (h - F ≤ c.ga))
def farS (c : Clb) (l : List J) (s : List Nat) : Int := s.foldl (fun F d => if canB c F (hgt l d) then hgt l d else F) 0
def reachC (c : Clb) (l : List J) : Int := farS c l (sndL l l.length)
theorem farS_snoc (c : Clb) (l : List J) (s : List Nat) (d : Nat) : farS c l (s ++ [d]) = if canB c (farS c l s) (hgt l d) then hgt l d else farS c l s := by unfold farS; rw [List.foldl_append]; rfl
theorem farS_bd {c : Clb} {l : List J} (hh : ∀ k, k < l.length → 1 ≤ hgt l k ∧ hgt l k ≤ 200000) {s : List Nat} (hs : ∀ d ∈ s, d < l.length) : 0 ≤ farS c l s ∧ farS c l s ≤ 200000 := by
  have key : ∀ (s : List Nat) (F : Int), (∀ d ∈ s, d < l.length) → 0 ≤ F ∧ F ≤ 200000 → 0 ≤ s.foldl (fun F d => if canB c F (hgt l d) then hgt l d else F) F ∧ s.foldl (fun F d => if canB c F (hgt l d) then hgt l d else F) F ≤ 200000 := by
    intro s
    induction s with
    | nil => intro F _ h; exact h
    | cons d s ih =>
      intro F h1 h2
      refine ih _ (fun x hx => h1 x (by simp [hx])) ?_
      have h3 := hh d (h1 d (by simp))
      dsimp only
      split <;> omega
  exact key s 0 hs (by omega)
/-- R: what was reached; F: the greatest height of it. -/
def FarI (l : List J) (R : List Nat) (F : Int) : Prop := (R = [] ∧ F = 0) ∨ (∃ m, m ∈ R ∧ F = hgt l m ∧ 1 ≤ F ∧ ∀ b ∈ R, hgt l b ≤ F)
theorem FarI.can {c : Clb} {l : List J} {R : List Nat} {F : Int} {d : Nat} (h : FarI l R F) (hR : ∀ b ∈ R, b < d) : canB c F (hgt l d) = true ↔ (folB c l (-1) d = true ∨ ∃ b ∈ R, folB c l (b : Int) d = true) := by
  rw [folB_neg (by decide)]
  unfold canB
  rw [Bool.or_eq_true, Bool.and_eq_true, decide_eq_true_eq, decide_eq_true_eq, decide_eq_true_eq]
  constructor
  · rintro (h1 | ⟨h1, h2⟩)
    · exact .inl h1
    · rcases h with ⟨_, h3⟩ | ⟨m, h3, h4, _, _⟩
      · omega
      · refine .inr ⟨m, h3, ?_⟩
        rw [folB_nat, decide_eq_true (hR m h3), decide_eq_true (by omega)]; rfl
  · rintro (h1 | ⟨b, h1, h2⟩)
    · exact .inl h1
    · right
      rcases h with ⟨h3, _⟩ | ⟨m, h3, h4, h5, h6⟩
      · rw [h3] at h1; cases h1
      · have := h6 b h1
        rw [folB_nat, Bool.and_eq_true, decide_eq_true_eq, decide_eq_true_eq] at h2
        exact ⟨by omega, by omega⟩
theorem FarI.add {l : List J} {R : List Nat} {F : Int} {d : Nat} (h : FarI l R F) (hd : 1 ≤ hgt l d) (hlt : ∀ b ∈ R, hgt l b < hgt l d) : FarI l (R ++ [d]) (hgt l d) := by
  refine .inr ⟨d, by simp, rfl, hd, fun b hb => ?_⟩
  rcases List.mem_append.1 hb with hb | hb
  · have := hlt b hb; omega
  · have hbd : b = d := by simpa using hb
    rw [hbd]; omega

/-! ### P3.3 -/
def prvX (c : Clb) (l : List J) (height : Int) (d : Nat) : Bool := !(decide (height < hgt l d) && (decide (hgt l d ≤ c.fi) || (decide (0 < height) && decide (hgt l d ≤ height + c.ga))))
def prvB (c : Clb) (l : List J) (height : Int) : Bool := (vC c && vJ l) && (withinB height 0 200000 && (!(decide (0 < height) && decide (c.to ≤ height + c.ga)) && (sndL l l.length).all (prvX c l height)))
/-- A height that proves it: there is no way. -/
theorem prv_none {c : Clb} {l : List J} {height : Int} (h : prvB c l height = true) : ¬ ∃ ds, Path c l (-1) ds := by
  simp only [prvB, Bool.and_eq_true] at h
  obtain ⟨⟨h1, h2⟩, h3, h4, h5⟩ := h
  have hvj := vJ_spec h2
  have hh := withinB_iff.1 h3
  have hx := fun d (hd : d ∈ sndL l l.length) => List.all_eq_true.1 h5 d hd
  have key : ∀ (r : List Nat) (d : Nat) (a : Int), (a = -1 ∨ ∃ b : Nat, a = b ∧ hgt l b ≤ height ∧ 1 ≤ hgt l b) → ¬ Path c l a (d :: r) := by
    intro r
    induction r with
    | nil =>
      intro d a ha hp
      obtain ⟨p1, p2, p3, p4⟩ := hp
      have hle : hgt l d ≤ height := by
        have := hx d (mem_sndL.2 ⟨p1, p2⟩)
        unfold prvX at this
        rcases Int.lt_or_le height (hgt l d) with hlt | hle
        · exfalso
          rw [decide_eq_true hlt, Bool.true_and, Bool.not_eq_true', Bool.or_eq_false_iff, decide_eq_false_iff_not, Bool.and_eq_false_iff, decide_eq_false_iff_not, decide_eq_false_iff_not] at this
          rcases ha with rfl | ⟨b, rfl, hb, hb1⟩
          · rw [folB_neg (by decide), decide_eq_true_eq] at p3; exact this.1 p3
          · rw [folB_nat, Bool.and_eq_true, decide_eq_true_eq, decide_eq_true_eq] at p3
            rcases this.2 with h | h <;> omega
        · exact hle
      have hd1 := (hvj.2.1 d p1).1
      rw [Bool.not_eq_true', Bool.and_eq_false_iff, decide_eq_false_iff_not, decide_eq_false_iff_not] at h4
      rcases h4 with h | h <;> omega
    | cons e r ih =>
      intro d a ha hp
      obtain ⟨p1, p2, p3, p4⟩ := hp
      have hle : hgt l d ≤ height := by
        have := hx d (mem_sndL.2 ⟨p1, p2⟩)
        unfold prvX at this
        rcases Int.lt_or_le height (hgt l d) with hlt | hle
        · exfalso
          rw [decide_eq_true hlt, Bool.true_and, Bool.not_eq_true', Bool.or_eq_false_iff, decide_eq_false_iff_not, Bool.and_eq_false_iff, decide_eq_false_iff_not, decide_eq_false_iff_not] at this
          rcases ha with rfl | ⟨b, rfl, hb, hb1⟩
          · rw [folB_neg (by decide), decide_eq_true_eq] at p3; exact this.1 p3
          · rw [folB_nat, Bool.and_eq_true, decide_eq_true_eq, decide_eq_true_eq] at p3
            rcases this.2 with h | h <;> omega
        · exact hle
      exact ih e d (.inr ⟨d, rfl, hle, (hvj.2.1 d p1).1⟩) p4
  rintro ⟨ds, hp⟩
  cases ds with
  | nil => exact hp
  | cons d r => exact key r d (-1) (.inl rfl) hp
/-- Ways to each reached joint. -/
def Comes (c : Clb) (l : List J) (d : Nat) : Prop := ∀ s, (∀ a, folB c l a d = true → Path c l a (d :: s)) → ∃ ds, Path c l (-1) ds
theorem far_comes {c : Clb} {l : List J} (hvj : vJ l = true) : ∀ n, n ≤ (sndL l l.length).length → ∃ R : List Nat, FarI l R (farS c l ((sndL l l.length).take n)) ∧ (∀ b ∈ R, b ∈ (sndL l l.length).take n ∧ Comes c l b) ∧ ∀ d ∈ (sndL l l.length).take n, d ∉ R → folB c l (-1) d = false ∧ ∀ b ∈ R, b < d → folB c l (b : Int) d = false := by
  have hv := vJ_spec hvj
  intro n
  induction n with
  | zero => intro _; exact ⟨[], .inl ⟨rfl, rfl⟩, (fun b hb => by cases hb), (fun d hd => by simp at hd)⟩
  | succ n ih =>
    intro hn
    obtain ⟨R, i1, i2, i3⟩ := ih (by omega)
    have hlt : n < (sndL l l.length).length := by omega
    obtain ⟨d, hd⟩ : ∃ d, (sndL l l.length)[n]? = some d := ⟨_, List.getElem?_eq_getElem hlt⟩
    have hdm := mem_sndL.1 (List.mem_iff_getElem?.2 ⟨n, hd⟩)
    have htk : (sndL l l.length).take (n + 1) = (sndL l l.length).take n ++ [d] := by
      rw [List.take_succ_eq_append_getElem hlt, (List.getElem?_eq_some_iff.1 hd).2]
    have hRd : ∀ b ∈ R, b < d := fun b hb => sndL_lt hd (i2 b hb).1
    have hRh : ∀ b ∈ R, hgt l b < hgt l d := fun b hb => hv.2.2 b d (hRd b hb) hdm.1
    rw [htk, farS_snoc]
    have hcan := i1.can (c := c) hRd
    by_cases hc : canB c (farS c l ((sndL l l.length).take n)) (hgt l d) = true
    · rw [if_pos hc]
      refine ⟨R ++ [d], i1.add (hv.2.1 d hdm.1).1 hRh, fun b hb => ?_, fun e he hne => ?_⟩
      · rcases List.mem_append.1 hb with hb | hb
        · exact ⟨by simp [(i2 b hb).1], (i2 b hb).2⟩
        · have hbd : b = d := by simpa using hb
          rw [hbd]
          refine ⟨by simp, fun s hs => ?_⟩
          rcases hcan.1 hc with h | ⟨b, h1, h2⟩
          · exact ⟨_, hs (-1) h⟩
          · refine (i2 b h1).2 (d :: s) fun a ha => ?_
            have hbm := mem_sndL.1 (List.mem_of_mem_take (i2 b h1).1)
            exact ⟨hbm.1, hbm.2, ha, hs b h2⟩
      · have he' : e ∈ (sndL l l.length).take n := by
          rcases List.mem_append.1 he with h | h
          · exact h
          · have hed : e = d := by simpa using h
            exact absurd (by rw [hed]; simp) hne
        have hnR : e ∉ R := fun h => hne (by simp [h])
        refine ⟨(i3 e he' hnR).1, fun b hb hbe => ?_⟩
        rcases List.mem_append.1 hb with hb | hb
        · exact (i3 e he' hnR).2 b hb hbe
        · have hbd : b = d := by simpa using hb
          have := sndL_lt hd he'; omega
    · rw [if_neg hc]
      refine ⟨R, i1, fun b hb => ⟨by simp [(i2 b hb).1], (i2 b hb).2⟩, fun e he hne => ?_⟩
      rcases List.mem_append.1 he with h | h
      · exact i3 e h hne
      · have hed : e = d := by simpa using h
        rw [hed]
        have hno := mt hcan.2 hc
        refine ⟨?_, fun b hb _ => ?_⟩
        · cases hf : folB c l (-1) d
          · rfl
          · exact absurd (.inl hf) hno
        · cases hf : folB c l (b : Int) d
          · rfl
          · exact absurd (.inr ⟨b, hb, hf⟩) hno
/-- Where there are no right dogs the height to which one comes proves it. -/
theorem stuck_proves {c : Clb} {l : List J} (h : (vC c && vJ l) = true) (hn : (few c l).isSome = false) : prvB c l (reachC c l) = true := by
  have hvv := Bool.and_eq_true .. ▸ h
  have hv := vJ_spec hvv.2
  obtain ⟨R, i1, i2, i3⟩ := far_comes (c := c) hvv.2 (sndL l l.length).length (Nat.le_refl _)
  rw [List.take_length] at i1 i2 i3
  have hb := farS_bd (c := c) hv.2.1 (s := sndL l l.length) (fun d hd => (mem_sndL.1 hd).1)
  have hnp : ¬ ∃ ds, Path c l (-1) ds := fun hp => by rw [few_iff.2 hp] at hn; cases hn
  have hR : reachC c l = farS c l (sndL l l.length) := rfl
  rw [← hR] at i1 hb
  simp only [prvB, Bool.and_eq_true]
  refine ⟨hvv, withinB_iff.2 hb, ?_, ?_⟩
  · rw [Bool.not_eq_true', Bool.and_eq_false_iff, decide_eq_false_iff_not, decide_eq_false_iff_not]
    rcases i1 with ⟨_, h1⟩ | ⟨m, h1, h2, h3, h4⟩
    · left; omega
    · right
      intro hle
      have hmm := mem_sndL.1 (i2 m h1).1
      exact hnp ((i2 m h1).2 [] fun a ha => ⟨hmm.1, hmm.2, ha, by omega⟩)
  · rw [List.all_eq_true]
    intro d hd
    have hdm := mem_sndL.1 hd
    unfold prvX
    rw [Bool.not_eq_true', Bool.and_eq_false_iff, decide_eq_false_iff_not]
    by_cases hdR : d ∈ R
    · left
      rcases i1 with ⟨h1, _⟩ | ⟨m, h1, h2, h3, h4⟩
      · rw [h1] at hdR; cases hdR
      · have := h4 d hdR; omega
    · by_cases hle : reachC c l < hgt l d
      · right
        obtain ⟨j1, j2⟩ := i3 d hd hdR
        rw [folB_neg (by decide), decide_eq_false_iff_not] at j1
        rw [Bool.or_eq_false_iff, decide_eq_false_iff_not, Bool.and_eq_false_iff, decide_eq_false_iff_not, decide_eq_false_iff_not]
        refine ⟨j1, ?_⟩
        rcases i1 with ⟨_, h2⟩ | ⟨m, h1, h2, h3, h4⟩
        · left; omega
        · right
          have hmm := mem_sndL.1 (i2 m h1).1
          have hmd : m < d := by
            rcases Nat.lt_trichotomy m d with h | h | h
            · exact h
            · subst h; exact absurd h1 hdR
            · have := hv.2.2 d m h hmm.1; omega
          have := j2 m h1 hmd
          rw [folB_nat, decide_eq_true hmd, Bool.true_and, decide_eq_false_iff_not] at this
          omega
      · left; omega
end Go.Proofs.Ytecocbohaggokaa
