/- RopeTexts: lines of uses, plain. -/
import Derived.Test.YtolamhjbpdjgeaaDoorTxtW
import Derived.Test.YtolamhjbpdjgeaaDoorUses
set_option linter.unusedSimpArgs false
set_option linter.unusedVariables false
namespace Go.Proofs.YtolamhjbpdjgeaaDoor
open Go.RowKit

def fmtU1 (x : Int × Int) : List UInt8 := Lib.itoa x.1 ++ 32 :: Lib.itoa x.2
def fmtUs (us : List (Int × Int)) : List UInt8 := us.flatMap fun x => fmtU1 x ++ [10]
def fmtU (us : List (Int × Int)) : List UInt8 := if goodU us then fmtUs us else []
def smallN (n : Int) : Prop := -1000000000000000000 < n ∧ n < 1000000000000000000
def lineU (y : List UInt8) : Option (Int × Int) := if (numsR (words 32 y)).2 && decide ((numsR (words 32 y)).1.length = 2) then some ((numsR (words 32 y)).1[0]?.getD 0, (numsR (words 32 y)).1[1]?.getD 0) else none
theorem fmtU1_no32 (x : Int × Int) : (32 : UInt8) ∉ Lib.itoa x.1 ∧ (32 : UInt8) ∉ Lib.itoa x.2 := ⟨itoa_no _ (by decide) (by decide), itoa_no _ (by decide) (by decide)⟩
theorem fmtU1_no10 (x : Int × Int) : (10 : UInt8) ∉ fmtU1 x := by
  intro h
  unfold fmtU1 at h
  rcases List.mem_append.1 h with h | h
  · exact itoa_no _ (by decide) (by decide) h
  · rcases List.mem_cons.1 h with h | h
    · exact absurd h (by decide)
    · exact itoa_no _ (by decide) (by decide) h
theorem words_fmtU1 (x : Int × Int) : words 32 (fmtU1 x) = [Lib.itoa x.1, Lib.itoa x.2] := by
  unfold fmtU1
  rw [words_app _ (fmtU1_no32 x).1, words_no (fmtU1_no32 x).2]
theorem cut_fmtU1 (x : Int × Int) : cutM 32 (fmtU1 x) = (Lib.itoa x.1, Lib.itoa x.2, true) := cutM_app _ (fmtU1_no32 x).1
theorem lineU_fmt {x : Int × Int} (h1 : smallN x.1) (h2 : smallN x.2) : lineU (fmtU1 x) = some x := by
  unfold lineU
  rw [words_fmtU1]
  have e : numsR [Lib.itoa x.1, Lib.itoa x.2] = ([x.1, x.2], true) := by
    unfold numsR
    simp only [List.all_cons, List.all_nil, List.map_cons, List.map_nil, numR_itoa h1.1 h1.2, numR_itoa h2.1 h2.2]
    rfl
  rw [e]
  rfl
theorem lineU_of {y : List UInt8} {x : Int × Int} (h : lineU y = some x) : y = fmtU1 x ∧ smallN x.1 ∧ smallN x.2 := by
  unfold lineU at h
  have hj := join_words 32 y
  generalize words 32 y = ws at *
  split at h
  · rename_i hc
    rw [Bool.and_eq_true, decide_eq_true_eq] at hc
    obtain ⟨hc1, hc2⟩ := hc
    unfold numsR at *
    by_cases ha : ws.all (fun y => (numR y).2) = true
    · rw [if_pos ha] at hc2 h
      rw [List.length_map] at hc2
      match ws, hc2 with
      | [a, c], _ =>
        simp only [List.all_cons, List.all_nil, Bool.and_true, Bool.and_eq_true] at ha
        obtain ⟨h1, h2, h3⟩ := numR_yes ha.1
        obtain ⟨g1, g2, g3⟩ := numR_yes ha.2
        have hx : x = ((numR a).1, (numR c).1) := by
          have := Option.some.inj h
          rw [← this]; rfl
        subst hx
        refine ⟨?_, ⟨h2, h3⟩, g2, g3⟩
        rw [← hj, Lib.join_cons, joinTail_cons]
        unfold fmtU1
        show a ++ ([32] ++ c ++ Lib.joinTail [32] []) = Lib.itoa (numR a).1 ++ 32 :: Lib.itoa (numR c).1
        rw [← h1, ← g1]
        simp [Lib.joinTail]
    · rw [if_neg ha] at hc1
      exact absurd hc1 (by simp)
  · exact absurd h (by simp)
/-! ### one line more -/
def stepU (us : List (Int × Int)) (y : List UInt8) : Option (List (Int × Int)) := match lineU y with | none => none | some x => if goodU (us ++ [x]) then some (us ++ [x]) else none
def progU (y : List UInt8) : Int × Int := (atoiV (cutM 32 y).1, atoiV (cutM 32 y).2.1)
def okP (us : List (Int × Int)) (y : List UInt8) : Bool := atoiOk (cutM 32 y).1 && (atoiOk (cutM 32 y).2.1 && (decide (fmtU1 (progU y) = y) && goodU (us ++ [progU y])))
theorem goodU_last {us : List (Int × Int)} {x : Int × Int} (h : goodU (us ++ [x]) = true) : (0 ≤ x.1 ∧ x.1 ≤ 100000) ∧ 0 ≤ x.2 ∧ x.2 ≤ 1000000 := by
  have := (goodU_spec h).2.1 us.length (by simp)
  rw [List.getElem?_append_right (Nat.le_refl _)] at this
  simpa using this
theorem okP_yes {us : List (Int × Int)} {y : List UInt8} (h : okP us y = true) : stepU us y = some (us ++ [progU y]) := by
  unfold okP at h
  simp only [Bool.and_eq_true, decide_eq_true_eq] at h
  obtain ⟨-, -, h3, h4⟩ := h
  have hb := goodU_last h4
  have hl : lineU y = some (progU y) := by
    conv => lhs; rw [← h3]
    exact lineU_fmt ⟨by omega, by omega⟩ ⟨by omega, by omega⟩
  unfold stepU
  rw [hl]
  show (if goodU (us ++ [progU y]) then _ else _) = _
  rw [if_pos h4]
theorem okP_no {us : List (Int × Int)} {y : List UInt8} (h : okP us y = false) : stepU us y = none := by
  unfold stepU
  cases hl : lineU y with
  | none => rfl
  | some x =>
    show (if goodU (us ++ [x]) then _ else _) = _
    by_cases hg : goodU (us ++ [x]) = true
    · exfalso
      obtain ⟨hy, h1, h2⟩ := lineU_of hl
      have hp : progU y = x := by
        unfold progU
        rw [hy, cut_fmtU1, (atoiV_itoa h1.1 h1.2).1, (atoiV_itoa h2.1 h2.2).1]
      have : okP us y = true := by
        unfold okP
        rw [hp, hg, hy, cut_fmtU1, (atoiV_itoa h1.1 h1.2).2, (atoiV_itoa h2.1 h2.2).2]
        simp
      rw [this] at h
      exact absurd h (by simp)
    · rw [if_neg hg]
/-! ### all lines -/
def runU : List (List UInt8) → List (Int × Int) → Nat → List (Int × Int) × Nat × Int
  | [], us, _ => (us, 0, 0)
  | [y], us, k => if y = [] then (us, 0, 0) else ([], k, 2)
  | y :: z :: r, us, k => match stepU us y with | none => ([], k, 2) | some us' => runU (z :: r) us' (k + 1)
def rpU (b : List UInt8) : List (Int × Int) × Nat × Int := if 65536 < b.length then ([], 0, 3) else runU (words 10 b) [] 0
theorem runU_nil (us : List (Int × Int)) (k : Nat) : runU (words 10 []) us k = (us, 0, 0) := rfl
theorem runU_end {b : List UInt8} (us : List (Int × Int)) (k : Nat) (h : (10 : UInt8) ∉ b) (h0 : b ≠ []) : runU (words 10 b) us k = ([], k, 2) := by
  rw [words_no h]
  show (if b = [] then _ else _) = _
  rw [if_neg h0]
theorem runU_no {b : List UInt8} {us : List (Int × Int)} {k : Nat} (h : (10 : UInt8) ∈ b) (hs : okP us (cutM 10 b).1 = false) : runU (words 10 b) us k = ([], k, 2) := by
  rw [words_cut h]
  obtain ⟨z, r, hz⟩ := List.exists_cons_of_ne_nil (words_ne 10 (cutM 10 b).2.1)
  rw [hz, runU, okP_no hs]
theorem runU_yes {b : List UInt8} {us : List (Int × Int)} {k : Nat} (h : (10 : UInt8) ∈ b) (hs : okP us (cutM 10 b).1 = true) : runU (words 10 b) us k = runU (words 10 (cutM 10 b).2.1) (us ++ [progU (cutM 10 b).1]) (k + 1) := by
  rw [words_cut h]
  obtain ⟨z, r, hz⟩ := List.exists_cons_of_ne_nil (words_ne 10 (cutM 10 b).2.1)
  rw [hz, runU, okP_yes hs]
theorem fmtUs_snoc (us : List (Int × Int)) (x : Int × Int) : fmtUs (us ++ [x]) = fmtUs us ++ (fmtU1 x ++ [10]) := by simp [fmtUs]
theorem stepU_of {us us' : List (Int × Int)} {y : List UInt8} (h : stepU us y = some us') : ∃ x, us' = us ++ [x] ∧ y = fmtU1 x ∧ goodU us' = true := by
  unfold stepU at h
  cases hl : lineU y with
  | none => rw [hl] at h; exact absurd h (by simp)
  | some x =>
    rw [hl] at h
    replace h : (if goodU (us ++ [x]) then some (us ++ [x]) else none) = some us' := h
    by_cases hg : goodU (us ++ [x]) = true
    · rw [if_pos hg] at h
      have := Option.some.inj h
      subst this
      exact ⟨x, rfl, (lineU_of hl).1, hg⟩
    · rw [if_neg hg] at h; exact absurd h (by simp)
theorem runU_back : ∀ (ws : List (List UInt8)) (us : List (Int × Int)) (k : Nat), goodU us = true → ws ≠ [] → (runU ws us k).2.2 = 0 → goodU (runU ws us k).1 = true ∧ fmtUs (runU ws us k).1 = fmtUs us ++ Lib.join ws [10] := by
  intro ws
  induction ws with
  | nil => intro us k _ h; exact absurd rfl h
  | cons y r ih =>
    intro us k hg _ he
    cases r with
    | nil =>
      unfold runU at *
      by_cases hy : y = []
      · rw [if_pos hy] at *
        exact ⟨hg, by rw [hy, Lib.join_one]; simp⟩
      · rw [if_neg hy] at he; have h2 : (2 : Int) = 0 := he; omega
    | cons z r =>
      rw [runU] at *
      cases hs : stepU us y with
      | none => rw [hs] at he; have h2 : (2 : Int) = 0 := he; omega
      | some us' =>
        rw [hs] at he
        obtain ⟨x, rfl, hy, hg'⟩ := stepU_of hs
        have := ih (us ++ [x]) (k + 1) hg' (by simp) he
        refine ⟨this.1, ?_⟩
        show fmtUs (runU (z :: r) (us ++ [x]) (k + 1)).1 = _
        rw [this.2, fmtUs_snoc, hy, Lib.join_cons, Lib.join_cons, joinTail_cons]
        simp
theorem runU_code : ∀ (ws : List (List UInt8)) (us : List (Int × Int)) (k : Nat), (runU ws us k).2.1 ≤ k + ws.length ∧ ((runU ws us k).2.2 = 0 ∨ (runU ws us k).2.2 = 2) := by
  intro ws
  induction ws with
  | nil => intro us k; exact ⟨Nat.zero_le _, .inl rfl⟩
  | cons y r ih =>
    intro us k
    cases r with
    | nil =>
      unfold runU
      by_cases hy : y = []
      · rw [if_pos hy]; exact ⟨Nat.zero_le _, .inl rfl⟩
      · rw [if_neg hy]; exact ⟨by simp, .inr rfl⟩
    | cons z r =>
      rw [runU]
      cases hs : stepU us y with
      | none => exact ⟨by simp, .inr rfl⟩
      | some us' =>
        have := ih us' (k + 1)
        refine ⟨?_, this.2⟩
        have h1 := this.1
        simp only [List.length_cons] at *
        show (runU (z :: r) us' (k + 1)).2.1 ≤ _
        omega
theorem runU_last {ws : List (List UInt8)} {us : List (Int × Int)} {k : Nat} (h : k + 1 = ws.length) : runU (ws.drop k) us k = if ws[k]?.getD [] = [] then (us, 0, 0) else ([], k, 2) := by
  have hk : k < ws.length := by omega
  rw [List.drop_eq_getElem_cons hk, List.drop_eq_nil_of_le (by omega), List.getElem?_eq_getElem hk]
  rfl
theorem runU_step {ws : List (List UInt8)} {us : List (Int × Int)} {k : Nat} (h : k + 1 < ws.length) : runU (ws.drop k) us k = match stepU us (ws[k]?.getD []) with | none => ([], k, 2) | some us' => runU (ws.drop (k + 1)) us' (k + 1) := by
  have hk : k < ws.length := by omega
  rw [List.drop_eq_getElem_cons hk, List.drop_eq_getElem_cons h, List.getElem?_eq_getElem hk, runU]
  rfl
theorem stepU_bad {us : List (Int × Int)} {y : List UInt8} (h : (numsR (words 32 y)).2 = false ∨ (numsR (words 32 y)).1.length ≠ 2) : stepU us y = none := by
  have : lineU y = none := by
    unfold lineU
    rw [if_neg]
    rw [Bool.and_eq_true, decide_eq_true_eq]
    rintro ⟨h1, h2⟩
    rcases h with h | h
    · rw [h] at h1; exact absurd h1 (by simp)
    · exact h h2
  unfold stepU
  rw [this]
theorem stepU_two {us : List (Int × Int)} {y : List UInt8} {p q : Int} (h : numsR (words 32 y) = ([p, q], true)) : stepU us y = if goodU (us ++ [(p, q)]) then some (us ++ [(p, q)]) else none := by
  have : lineU y = some (p, q) := by
    unfold lineU
    rw [h]
    rfl
  unfold stepU
  rw [this]
theorem rp_back {b : List UInt8} (h : (rpU b).2.2 = 0) : fmtU (rpU b).1 = b := by
  unfold rpU at *
  by_cases hb : 65536 < b.length
  · rw [if_pos hb] at h; exact absurd h (by decide)
  · rw [if_neg hb] at *
    have := runU_back (words 10 b) [] 0 (by rfl) (words_ne _ _) h
    unfold fmtU
    rw [if_pos this.1, this.2, join_words]
    rfl
theorem useX_pre {us vs : List (Int × Int)} {k : Nat} (hk : k < us.length) : useX (us ++ vs) k = useX us k := by
  unfold useX
  rw [List.getElem?_append_left hk, List.getElem?_append_left (by omega)]
theorem goodU_pre {us vs : List (Int × Int)} (h : goodU (us ++ vs) = true) : goodU us = true := by
  unfold goodU at *
  rw [Bool.and_eq_true, List.all_eq_true, decide_eq_true_eq, List.length_append] at *
  refine ⟨fun k hk => ?_, by omega⟩
  have hk' := List.mem_range.1 hk
  rw [← useX_pre (vs := vs) hk']
  exact h.1 k (List.mem_range.2 (by omega))
theorem words_line (x : Int × Int) (r : List UInt8) : words 10 ((fmtU1 x ++ [10]) ++ r) = fmtU1 x :: words 10 r := by
  rw [List.append_assoc]
  exact words_app r (fmtU1_no10 x)
theorem runU_all : ∀ (vs us : List (Int × Int)) (k : Nat), goodU (us ++ vs) = true → runU (words 10 (fmtUs vs)) us k = (us ++ vs, 0, 0) := by
  intro vs
  induction vs with
  | nil => intro us k _; rw [List.append_nil]; rfl
  | cons x r ih =>
    intro us k h
    have h' : goodU ((us ++ [x]) ++ r) = true := by rw [List.append_assoc]; exact h
    have hx := goodU_pre h'
    have hb := goodU_last hx
    show runU (words 10 ((fmtU1 x ++ [10]) ++ fmtUs r)) us k = _
    rw [words_line]
    obtain ⟨z, t, hz⟩ := List.exists_cons_of_ne_nil (words_ne 10 (fmtUs r))
    have hs : stepU us (fmtU1 x) = some (us ++ [x]) := by
      unfold stepU
      rw [lineU_fmt ⟨by omega, by omega⟩ ⟨by omega, by omega⟩]
      show (if goodU (us ++ [x]) then _ else _) = _
      rw [if_pos hx]
    have := ih (us ++ [x]) (k + 1) h'
    rw [hz] at *
    rw [runU, hs]
    show runU (z :: t) (us ++ [x]) (k + 1) = _
    rw [this]
    simp
theorem itoa_len7 {n : Int} (h0 : 0 ≤ n) (h1 : n ≤ 1000000) : (Lib.itoa n).length ≤ 7 := by
  obtain ⟨m, rfl⟩ : ∃ m : Nat, n = (m : Int) := ⟨n.toNat, by omega⟩
  rw [itoa_nat]
  exact (dec_facts 6 m (by omega)).2.2.1
theorem fmtU1_len {x : Int × Int} (h1 : 0 ≤ x.1 ∧ x.1 ≤ 100000) (h2 : 0 ≤ x.2 ∧ x.2 ≤ 1000000) : (fmtU1 x).length ≤ 15 := by
  unfold fmtU1
  have := itoa_len7 h1.1 (by omega)
  have := itoa_len7 h2.1 h2.2
  simp; omega
theorem fmtUs_len : ∀ (us : List (Int × Int)), (∀ x ∈ us, (0 ≤ x.1 ∧ x.1 ≤ 100000) ∧ 0 ≤ x.2 ∧ x.2 ≤ 1000000) → (fmtUs us).length ≤ 16 * us.length := by
  intro us
  induction us with
  | nil => intro _; simp [fmtUs]
  | cons x r ih =>
    intro h
    have h1 := ih (fun y hy => h y (List.mem_cons_of_mem _ hy))
    have h2 := fmtU1_len (h x (List.mem_cons_self ..)).1 (h x (List.mem_cons_self ..)).2
    have : fmtUs (x :: r) = (fmtU1 x ++ [10]) ++ fmtUs r := rfl
    rw [this]
    simp; omega
theorem goodU_mem {us : List (Int × Int)} (h : goodU us = true) {x : Int × Int} (hx : x ∈ us) : (0 ≤ x.1 ∧ x.1 ≤ 100000) ∧ 0 ≤ x.2 ∧ x.2 ≤ 1000000 := by
  obtain ⟨k, hk, rfl⟩ := List.mem_iff_getElem.1 hx
  have := (goodU_spec h).2.1 k hk
  rw [List.getElem?_eq_getElem hk] at this
  simpa using this
theorem rp_fmt {us : List (Int × Int)} (h : goodU us = true) : rpU (fmtU us) = (us, 0, 0) := by
  have hl := fmtUs_len us (fun x hx => goodU_mem h hx)
  have h5 := (goodU_spec h).1
  unfold fmtU rpU
  rw [if_pos h, if_neg (by omega)]
  have := runU_all us [] 0 (by simpa using h)
  simpa using this
theorem fmtU_len {us : List (Int × Int)} : (fmtU us).length ≤ 65536 := by
  unfold fmtU
  by_cases h : goodU us = true
  · have hl := fmtUs_len us (fun x hx => goodU_mem h hx)
    have h5 := (goodU_spec h).1
    rw [if_pos h]; omega
  · rw [if_neg h]; simp
end Go.Proofs.YtolamhjbpdjgeaaDoor
