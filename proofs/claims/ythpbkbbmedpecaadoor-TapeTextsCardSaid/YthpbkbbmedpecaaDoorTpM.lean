/- TapeTexts: lines of a net, plain. -/
import Derived.Test.YthpbkbbmedpecaaDoorTxtW
import Derived.Test.YthpbkbbmedpecaaDoorTape1
set_option linter.unusedSimpArgs false
set_option linter.unusedVariables false
namespace Go.Proofs.YthpbkbbmedpecaaDoor
open Go.RowKit

def nodesW : List UInt8 := [110, 111, 100, 101, 115]
def tapeW : List UInt8 := [116, 97, 112, 101]
def smallI (n : Int) : Prop := -1000000000000000000 < n ∧ n < 1000000000000000000
/-- A word and numbers. -/
def wordsT (w : List UInt8) (xs : List Int) : List UInt8 := w ++ listL xs
theorem listL_tail (xs : List Int) : listL xs = Lib.joinTail [32] (xs.map Lib.itoa) := by
  induction xs with
  | nil => rfl
  | cons x r ih =>
    rw [List.map_cons, joinTail_cons, ← ih]
    rfl
theorem wordsT_join (w : List UInt8) (xs : List Int) : wordsT w xs = Lib.join (w :: xs.map Lib.itoa) [32] := by
  rw [Lib.join_cons, ← listL_tail]; rfl
theorem itoa_no32 (n : Int) : (32 : UInt8) ∉ Lib.itoa n := itoa_no _ (by decide) (by decide)
theorem itoa_no10 (n : Int) : (10 : UInt8) ∉ Lib.itoa n := itoa_no _ (by decide) (by decide)
theorem wordsT_words {w : List UInt8} (xs : List Int) (h : (32 : UInt8) ∉ w) : words 32 (wordsT w xs) = w :: xs.map Lib.itoa := by
  rw [wordsT_join]
  refine words_join (by simp) ?_
  intro y hy
  rcases List.mem_cons.1 hy with rfl | hy
  · exact h
  · obtain ⟨x, _, rfl⟩ := List.mem_map.1 hy
    exact itoa_no32 x
theorem listL_no10 (xs : List Int) : (10 : UInt8) ∉ listL xs := by
  intro h
  obtain ⟨x, _, hx⟩ := List.mem_flatMap.1 h
  rcases List.mem_cons.1 hx with h | h
  · exact absurd h (by decide)
  · exact itoa_no10 x h
theorem wordsT_no10 {w : List UInt8} (xs : List Int) (h : (10 : UInt8) ∉ w) : (10 : UInt8) ∉ wordsT w xs := by
  intro hm
  rcases List.mem_append.1 hm with hm | hm
  · exact h hm
  · exact listL_no10 xs hm
theorem numsR_itoa {xs : List Int} (h : ∀ x ∈ xs, smallI x) : numsR (xs.map Lib.itoa) = (xs, true) := by
  have h1 : (xs.map Lib.itoa).all (fun y => (numR y).2) = true := by
    rw [List.all_eq_true]
    intro y hy
    obtain ⟨x, hx, rfl⟩ := List.mem_map.1 hy
    rw [numR_itoa (h x hx).1 (h x hx).2]
  unfold numsR
  rw [if_pos h1, List.map_map]
  congr 1
  conv => rhs; rw [← List.map_id xs]
  apply List.map_congr_left
  intro x hx
  show (numR (Lib.itoa x)).1 = x
  rw [numR_itoa (h x hx).1 (h x hx).2]
theorem numsR_of {ws : List (List UInt8)} {xs : List Int} (h : numsR ws = (xs, true)) : ws = xs.map Lib.itoa ∧ ∀ x ∈ xs, smallI x := by
  unfold numsR at h
  by_cases ha : ws.all (fun y => (numR y).2) = true
  · rw [if_pos ha] at h
    have hx : ws.map (fun y => (numR y).1) = xs := congrArg Prod.fst h
    subst hx
    rw [List.all_eq_true] at ha
    refine ⟨?_, ?_⟩
    · rw [List.map_map]
      conv => lhs; rw [← List.map_id ws]
      apply List.map_congr_left
      intro y hy
      exact (numR_yes (ha y hy)).1
    · intro x hx
      obtain ⟨y, hy, rfl⟩ := List.mem_map.1 hx
      exact (numR_yes (ha y hy)).2
  · rw [if_neg ha] at h
    exact absurd (congrArg Prod.snd h) (by simp)
/-! ### a line -/
def hdW (y : List UInt8) : List UInt8 := (words 32 y).head?.getD []
def tlW (y : List UInt8) : List (List UInt8) := (words 32 y).tail
theorem hd_tl (y : List UInt8) : words 32 y = hdW y :: tlW y := by
  unfold hdW tlW
  cases h : words 32 y with
  | nil => exact absurd h (words_ne 32 y)
  | cons a r => rfl
theorem line_of {y : List UInt8} {xs : List Int} (h : numsR (tlW y) = (xs, true)) : y = wordsT (hdW y) xs ∧ ∀ x ∈ xs, smallI x := by
  obtain ⟨h1, h2⟩ := numsR_of h
  refine ⟨?_, h2⟩
  conv => lhs; rw [← join_words 32 y, hd_tl y, h1]
  rw [wordsT_join]
theorem line_mk {w : List UInt8} {xs : List Int} (h : (32 : UInt8) ∉ w) (hs : ∀ x ∈ xs, smallI x) : hdW (wordsT w xs) = w ∧ numsR (tlW (wordsT w xs)) = (xs, true) ∧ tlW (wordsT w xs) = xs.map Lib.itoa := by
  unfold hdW tlW
  rw [wordsT_words xs h]
  exact ⟨rfl, numsR_itoa hs, rfl⟩
abbrev St := Int × List Tp
def addT (st : St) (xs : List Int) : St := (st.1, st.2 ++ [(xs[0]?.getD 0, xs[1]?.getD 0, xs[2]?.getD 0)])
/-- What a line makes of a net: the reference's. -/
def nextT (k : Nat) (st : St) (w : List UInt8) (xs : List Int) : Option St :=
  if k = 0 then (if w = nodesW ∧ xs.length = 1 then some (xs[0]?.getD 0, st.2) else none) else (if w = tapeW ∧ xs.length = 3 then some (addT st xs) else none)
def okS (o : Option St) : Option St := match o with | none => none | some s => if vNet s.1 s.2 then some s else none
def stepT (k : Nat) (st : St) (y : List UInt8) : Option St := if (numsR (tlW y)).2 then okS (nextT k st (hdW y) (numsR (tlW y)).1) else none
/-- .. and the program's. -/
def atoisV (y : List UInt8) : List Int := (tlW y).map atoiV
def progT (k : Nat) (st : St) (y : List UInt8) : Option St := if wordsT (hdW y) (atoisV y) = y then okS (nextT k st (hdW y) (atoisV y)) else none
theorem vNet_bd {n : Int} {l : List Tp} (h : vNet n l = true) : (1 ≤ n ∧ n ≤ 6) ∧ l.length ≤ 10 ∧ ∀ t ∈ l, (0 ≤ t.1 ∧ t.1 ≤ 60) ∧ (0 ≤ t.2.1 ∧ t.2.1 ≤ 60) ∧ 0 ≤ t.2.2 ∧ t.2.2 ≤ 60 := by
  unfold vNet at h
  simp only [Bool.and_eq_true, decide_eq_true_eq, List.all_eq_true] at h
  obtain ⟨h1, h2, h3⟩ := h
  have h4 := withinB_iff.1 h1
  refine ⟨h4, h2, fun t ht => ?_⟩
  have := h3 t ht
  unfold vT at this
  simp only [Bool.and_eq_true, decide_eq_true_eq] at this
  have h5 := withinB_iff.1 this.2.2.2
  omega
theorem next_some {k : Nat} {st s : St} {w : List UInt8} {xs : List Int} (h : okS (nextT k st w xs) = some s) : (32 : UInt8) ∉ w ∧ (10 : UInt8) ∉ w ∧ (∀ x ∈ xs, smallI x) ∧ vNet s.1 s.2 = true ∧ ((k = 0 ∧ w = nodesW ∧ ∃ n, xs = [n] ∧ s = (n, st.2)) ∨ (k ≠ 0 ∧ w = tapeW ∧ ∃ a b c, xs = [a, b, c] ∧ s = (st.1, st.2 ++ [(a, b, c)]))) := by
  have key : ∃ s', nextT k st w xs = some s' ∧ vNet s'.1 s'.2 = true ∧ s' = s := by
    unfold okS at h
    cases hn : nextT k st w xs with
    | none => rw [hn] at h; exact absurd h (by simp)
    | some s' =>
      rw [hn] at h
      replace h : (if vNet s'.1 s'.2 then some s' else none) = some s := h
      by_cases hv : vNet s'.1 s'.2 = true
      · rw [if_pos hv] at h
        exact ⟨s', rfl, hv, Option.some.inj h⟩
      · rw [if_neg hv] at h; exact absurd h (by simp)
  obtain ⟨s', hn, hv, rfl⟩ := key
  unfold nextT at hn
  by_cases hk : k = 0
  · rw [if_pos hk] at hn
    by_cases hc : w = nodesW ∧ xs.length = 1
    · rw [if_pos hc] at hn
      obtain ⟨hw, hl⟩ := hc
      match xs, hl with
      | [n], _ =>
        have hs : s' = (n, st.2) := (Option.some.inj hn).symm
        subst hs
        have hb := vNet_bd hv
        refine ⟨by rw [hw]; decide, by rw [hw]; decide, ?_, hv, .inl ⟨hk, hw, n, rfl, rfl⟩⟩
        intro x hx
        rw [List.mem_singleton.1 hx]
        have := hb.1
        unfold smallI
        dsimp only at this
        omega
    · rw [if_neg hc] at hn; exact absurd hn (by simp)
  · rw [if_neg hk] at hn
    by_cases hc : w = tapeW ∧ xs.length = 3
    · rw [if_pos hc] at hn
      obtain ⟨hw, hl⟩ := hc
      match xs, hl with
      | [a, b, c], _ =>
        have hs : s' = (st.1, st.2 ++ [(a, b, c)]) := (Option.some.inj hn).symm
        subst hs
        have hb := (vNet_bd hv).2.2 (a, b, c) (by simp)
        dsimp only at hb
        refine ⟨by rw [hw]; decide, by rw [hw]; decide, ?_, hv, .inr ⟨hk, hw, a, b, c, rfl, rfl⟩⟩
        intro x hx
        simp only [List.mem_cons, List.not_mem_nil, or_false] at hx
        unfold smallI
        rcases hx with rfl | rfl | rfl <;> omega
    · rw [if_neg hc] at hn; exact absurd hn (by simp)
theorem step_eq (k : Nat) (st : St) (y : List UInt8) : progT k st y = stepT k st y := by
  have h1 : ∀ s, progT k st y = some s → stepT k st y = some s := by
    intro s h
    unfold progT at h
    by_cases hw : wordsT (hdW y) (atoisV y) = y
    · rw [if_pos hw] at h
      obtain ⟨g1, -, g2, -⟩ := next_some h
      obtain ⟨e1, e2, e3⟩ := line_mk g1 g2
      rw [hw] at e1 e2 e3
      unfold stepT
      rw [e2, if_pos rfl]
      exact h
    · rw [if_neg hw] at h; exact absurd h (by simp)
  have h2 : ∀ s, stepT k st y = some s → progT k st y = some s := by
    intro s h
    unfold stepT at h
    cases hM : numsR (tlW y) with
    | mk xs ok =>
      rw [hM] at h
      dsimp only at h
      cases ok
      · rw [if_neg (by simp)] at h; exact absurd h (by simp)
      · rw [if_pos rfl] at h
        obtain ⟨e1, e2⟩ := line_of hM
        have e3 : tlW y = xs.map Lib.itoa := (numsR_of hM).1
        have e4 : atoisV y = xs := by
          unfold atoisV
          rw [e3, List.map_map]
          conv => rhs; rw [← List.map_id xs]
          apply List.map_congr_left
          intro x hx
          exact (atoiV_itoa (e2 x hx).1 (e2 x hx).2).1
        unfold progT
        rw [e4, if_pos e1.symm]
        exact h
  cases hp : progT k st y with
  | none =>
    cases hs : stepT k st y with
    | none => rfl
    | some s => rw [h2 s hs] at hp; exact absurd hp (by simp)
  | some s => exact (h1 s hp).symm
/-! ### all lines -/
def runT : List (List UInt8) → St → Nat → Int × List Tp × Nat × Int
  | [], st, _ => (st.1, st.2, 0, 0)
  | [y], st, k => if y = [] ∧ k ≠ 0 then (st.1, st.2, 0, 0) else (0, [], k, 2)
  | y :: z :: r, st, k => match stepT k st y with | none => (0, [], k, 2) | some st' => runT (z :: r) st' (k + 1)
def rpT (b : List UInt8) : Int × List Tp × Nat × Int := if 65536 < b.length then (0, [], 0, 3) else runT (words 10 b) (0, []) 0
theorem runT_nil (st : St) {k : Nat} (h : k ≠ 0) : runT (words 10 []) st k = (st.1, st.2, 0, 0) := by
  show (if ([] : List UInt8) = [] ∧ k ≠ 0 then _ else _) = _
  rw [if_pos ⟨rfl, h⟩]
theorem runT_end {b : List UInt8} (st : St) (k : Nat) (h : (10 : UInt8) ∉ b) (h0 : k = 0 ∨ b ≠ []) : runT (words 10 b) st k = (0, [], k, 2) := by
  rw [words_no h]
  show (if b = [] ∧ k ≠ 0 then _ else _) = _
  rw [if_neg (fun hh => by rcases h0 with h0 | h0; exact hh.2 h0; exact h0 hh.1)]
theorem runT_cut {b : List UInt8} {st : St} {k : Nat} (h : (10 : UInt8) ∈ b) : runT (words 10 b) st k = match progT k st (cutM 10 b).1 with | none => (0, [], k, 2) | some st' => runT (words 10 (cutM 10 b).2.1) st' (k + 1) := by
  rw [words_cut h]
  obtain ⟨z, r, hz⟩ := List.exists_cons_of_ne_nil (words_ne 10 (cutM 10 b).2.1)
  rw [hz, runT, step_eq]
theorem runT_last {ws : List (List UInt8)} {st : St} {k : Nat} (h : k + 1 = ws.length) : runT (ws.drop k) st k = if ws[k]?.getD [] = [] ∧ k ≠ 0 then (st.1, st.2, 0, 0) else (0, [], k, 2) := by
  have hk : k < ws.length := by omega
  rw [List.drop_eq_getElem_cons hk, List.drop_eq_nil_of_le (by omega), List.getElem?_eq_getElem hk]
  rfl
theorem runT_step {ws : List (List UInt8)} {st : St} {k : Nat} (h : k + 1 < ws.length) : runT (ws.drop k) st k = match stepT k st (ws[k]?.getD []) with | none => (0, [], k, 2) | some st' => runT (ws.drop (k + 1)) st' (k + 1) := by
  have hk : k < ws.length := by omega
  rw [List.drop_eq_getElem_cons hk, List.drop_eq_getElem_cons h, List.getElem?_eq_getElem hk, runT]
  rfl
def lineT (t : Tp) : List UInt8 := wordsT tapeW [t.1, t.2.1, t.2.2] ++ [10]
def fmtTs (l : List Tp) : List UInt8 := l.flatMap lineT
def headT (n : Int) : List UInt8 := wordsT nodesW [n] ++ [10]
def fmtNet (n : Int) (l : List Tp) : List UInt8 := if vNet n l then headT n ++ fmtTs l else []
theorem stepT_of {k : Nat} {st s : St} {y : List UInt8} (h : stepT k st y = some s) : vNet s.1 s.2 = true ∧ ((k = 0 ∧ ∃ n, y = wordsT nodesW [n] ∧ s = (n, st.2)) ∨ (k ≠ 0 ∧ ∃ t, y = wordsT tapeW [t.1, t.2.1, t.2.2] ∧ s = (st.1, st.2 ++ [t]))) := by
  unfold stepT at h
  cases hM : numsR (tlW y) with
  | mk xs ok =>
    rw [hM] at h
    dsimp only at h
    cases ok
    · rw [if_neg (by simp)] at h; exact absurd h (by simp)
    · rw [if_pos rfl] at h
      obtain ⟨-, -, -, hv, hc⟩ := next_some h
      obtain ⟨e1, -⟩ := line_of hM
      refine ⟨hv, ?_⟩
      rcases hc with ⟨hk, hw, n, rfl, hs⟩ | ⟨hk, hw, a, b, c, rfl, hs⟩
      · exact .inl ⟨hk, n, by rw [← hw]; exact e1, hs⟩
      · exact .inr ⟨hk, (a, b, c), by rw [← hw]; exact e1, hs⟩
theorem runT_back : ∀ (ws : List (List UInt8)) (st : St) (k : Nat), k ≠ 0 → vNet st.1 st.2 = true → ws ≠ [] → (runT ws st k).2.2.2 = 0 → vNet (runT ws st k).1 (runT ws st k).2.1 = true ∧ (runT ws st k).1 = st.1 ∧ fmtTs (runT ws st k).2.1 = fmtTs st.2 ++ Lib.join ws [10] := by
  intro ws
  induction ws with
  | nil => intro st k _ _ h; exact absurd rfl h
  | cons y r ih =>
    intro st k hk hg _ he
    cases r with
    | nil =>
      unfold runT at *
      by_cases hy : y = [] ∧ k ≠ 0
      · rw [if_pos hy] at *
        exact ⟨hg, rfl, by rw [hy.1, Lib.join_one]; simp⟩
      · rw [if_neg hy] at he; have h2 : (2 : Int) = 0 := he; omega
    | cons z r =>
      rw [runT] at *
      cases hs : stepT k st y with
      | none => rw [hs] at he; have h2 : (2 : Int) = 0 := he; omega
      | some st' =>
        rw [hs] at he
        obtain ⟨hv, ⟨h0, -⟩ | ⟨-, t, hy, rfl⟩⟩ := stepT_of hs
        · exact absurd h0 hk
        · have := ih (st.1, st.2 ++ [t]) (k + 1) (by omega) hv (by simp) he
          refine ⟨this.1, this.2.1, ?_⟩
          show fmtTs (runT (z :: r) (st.1, st.2 ++ [t]) (k + 1)).2.1 = _
          rw [this.2.2, hy, Lib.join_cons, Lib.join_cons, joinTail_cons]
          simp [fmtTs, lineT]
theorem rpT_back {b : List UInt8} (h : (rpT b).2.2.2 = 0) : fmtNet (rpT b).1 (rpT b).2.1 = b := by
  unfold rpT at *
  by_cases hb : 65536 < b.length
  · rw [if_pos hb] at h; have h2 : (3 : Int) = 0 := h; omega
  · rw [if_neg hb] at *
    have hj := join_words 10 b
    cases hw : words 10 b with
    | nil => exact absurd hw (words_ne 10 b)
    | cons y r =>
      rw [hw] at h hj
      cases r with
      | nil =>
        unfold runT at h
        rw [if_neg (fun hh => hh.2 rfl)] at h
        have h2 : (2 : Int) = 0 := h; omega
      | cons z r =>
        rw [runT] at *
        cases hs : stepT 0 (0, []) y with
        | none => rw [hs] at h; have h2 : (2 : Int) = 0 := h; omega
        | some st' =>
          rw [hs] at h
          obtain ⟨hv, ⟨-, n, hy, rfl⟩ | ⟨h0, -⟩⟩ := stepT_of hs
          · have := runT_back (z :: r) (n, []) (0 + 1) (by omega) hv (by simp) h
            show fmtNet (runT (z :: r) (n, []) (0 + 1)).1 (runT (z :: r) (n, []) (0 + 1)).2.1 = b
            unfold fmtNet
            rw [if_pos this.1, this.2.2, this.2.1, ← hj, hy, Lib.join_cons, Lib.join_cons, joinTail_cons]
            simp [headT, fmtTs]
          · exact absurd rfl h0
theorem runT_code : ∀ (ws : List (List UInt8)) (st : St) (k : Nat), (runT ws st k).2.2.1 ≤ k + ws.length := by
  intro ws
  induction ws with
  | nil => intro st k; exact Nat.zero_le _
  | cons y r ih =>
    intro st k
    cases r with
    | nil =>
      unfold runT
      by_cases hy : y = [] ∧ k ≠ 0
      · rw [if_pos hy]; exact Nat.zero_le _
      · rw [if_neg hy]; simp
    | cons z r =>
      rw [runT]
      cases hs : stepT k st y with
      | none => simp
      | some st' =>
        have h1 := ih st' (k + 1)
        simp only [List.length_cons] at *
        show (runT (z :: r) st' (k + 1)).2.2.1 ≤ _
        omega
theorem vNet_pre {n : Int} {l r : List Tp} (h : vNet n (l ++ r) = true) : vNet n l = true := by
  unfold vNet at *
  simp only [Bool.and_eq_true, decide_eq_true_eq, List.all_append, List.length_append] at *
  exact ⟨h.1, by omega, h.2.2.1⟩
theorem stepT_tape {k : Nat} {st : St} {t : Tp} (hk : k ≠ 0) (h : vNet st.1 (st.2 ++ [t]) = true) : stepT k st (wordsT tapeW [t.1, t.2.1, t.2.2]) = some (st.1, st.2 ++ [t]) := by
  have hb := (vNet_bd h).2.2 t (by simp)
  obtain ⟨e1, e2, -⟩ := line_mk (w := tapeW) (xs := [t.1, t.2.1, t.2.2]) (by decide) (by
    intro x hx
    simp only [List.mem_cons, List.not_mem_nil, or_false] at hx
    unfold smallI
    rcases hx with rfl | rfl | rfl <;> omega)
  unfold stepT
  rw [e2, e1, if_pos rfl]
  show okS (if k = 0 then _ else (if tapeW = tapeW ∧ 3 = 3 then some (addT st [t.1, t.2.1, t.2.2]) else none)) = _
  rw [if_neg hk, if_pos ⟨rfl, rfl⟩]
  show (if vNet st.1 (st.2 ++ [t]) then _ else _) = _
  rw [if_pos h]
  rfl
theorem stepT_node {n : Int} (h : vNet n [] = true) : stepT 0 (0, []) (wordsT nodesW [n]) = some (n, []) := by
  have hb := (vNet_bd h).1
  obtain ⟨e1, e2, -⟩ := line_mk (w := nodesW) (xs := [n]) (by decide) (by
    intro x hx
    rw [List.mem_singleton.1 hx]
    unfold smallI
    omega)
  unfold stepT
  rw [e2, e1, if_pos rfl]
  show okS (if 0 = 0 then (if nodesW = nodesW ∧ 1 = 1 then some (n, []) else none) else _) = _
  rw [if_pos rfl, if_pos ⟨rfl, rfl⟩]
  show (if vNet n [] then _ else _) = _
  rw [if_pos h]
theorem runT_all : ∀ (r : List Tp) (st : St) (k : Nat), k ≠ 0 → vNet st.1 (st.2 ++ r) = true → runT (words 10 (fmtTs r)) st k = (st.1, st.2 ++ r, 0, 0) := by
  intro r
  induction r with
  | nil => intro st k hk _; rw [List.append_nil]; exact runT_nil st hk
  | cons t r ih =>
    intro st k hk h
    have h' : vNet st.1 ((st.2 ++ [t]) ++ r) = true := by rw [List.append_assoc]; exact h
    have ht := vNet_pre h'
    have e : fmtTs (t :: r) = wordsT tapeW [t.1, t.2.1, t.2.2] ++ 10 :: fmtTs r := by simp [fmtTs, lineT]
    rw [e, words_app _ (wordsT_no10 _ (by decide))]
    obtain ⟨z, q, hz⟩ := List.exists_cons_of_ne_nil (words_ne 10 (fmtTs r))
    have := ih (st.1, st.2 ++ [t]) (k + 1) (by omega) h'
    rw [hz] at *
    rw [runT, stepT_tape hk ht]
    show runT (z :: q) (st.1, st.2 ++ [t]) (k + 1) = _
    rw [this]
    simp
theorem listL_len5 {xs : List Int} (h : ∀ x ∈ xs, 0 ≤ x ∧ x ≤ 60) : (listL xs).length ≤ 20 * xs.length := listL_len xs (fun x hx => by have := h x hx; omega)
theorem lineT_len {t : Tp} (h : (0 ≤ t.1 ∧ t.1 ≤ 60) ∧ (0 ≤ t.2.1 ∧ t.2.1 ≤ 60) ∧ 0 ≤ t.2.2 ∧ t.2.2 ≤ 60) : (lineT t).length ≤ 70 := by
  have := listL_len5 (xs := [t.1, t.2.1, t.2.2]) (by
    intro x hx
    simp only [List.mem_cons, List.not_mem_nil, or_false] at hx
    rcases hx with rfl | rfl | rfl <;> omega)
  simp only [List.length_cons, List.length_nil] at this
  unfold lineT wordsT tapeW
  simp only [List.length_append, List.length_cons, List.length_nil]
  omega
theorem fmtTs_len : ∀ (l : List Tp), (∀ t ∈ l, (0 ≤ t.1 ∧ t.1 ≤ 60) ∧ (0 ≤ t.2.1 ∧ t.2.1 ≤ 60) ∧ 0 ≤ t.2.2 ∧ t.2.2 ≤ 60) → (fmtTs l).length ≤ 70 * l.length := by
  intro l
  induction l with
  | nil => intro _; simp [fmtTs]
  | cons t r ih =>
    intro h
    have h1 := ih (fun y hy => h y (List.mem_cons_of_mem _ hy))
    have h2 := lineT_len (h t (List.mem_cons_self ..))
    have : fmtTs (t :: r) = lineT t ++ fmtTs r := rfl
    rw [this]
    simp; omega
theorem headT_len {n : Int} (h : 0 ≤ n ∧ n ≤ 60) : (headT n).length ≤ 30 := by
  have := listL_len5 (xs := [n]) (by intro x hx; rw [List.mem_singleton.1 hx]; exact h)
  simp only [List.length_cons, List.length_nil] at this
  unfold headT wordsT nodesW
  simp only [List.length_append, List.length_cons, List.length_nil]
  omega
theorem fmtNet_len (n : Int) (l : List Tp) : (fmtNet n l).length ≤ 1000 := by
  unfold fmtNet
  by_cases h : vNet n l = true
  · have hb := vNet_bd h
    have h1 := fmtTs_len l hb.2.2
    have h2 := headT_len (n := n) (by omega)
    rw [if_pos h, List.length_append]; omega
  · rw [if_neg h]; simp
theorem fmtNet_ne {n : Int} {l : List Tp} : fmtNet n l = [] ↔ vNet n l = false := by
  unfold fmtNet
  by_cases h : vNet n l = true
  · rw [if_pos h]
    simp [h, headT]
  · rw [if_neg h]
    simpa using h
theorem rpT_fmt {n : Int} {l : List Tp} (h : vNet n l = true) : rpT (fmtNet n l) = (n, l, 0, 0) := by
  have hl := fmtNet_len n l
  unfold rpT
  rw [if_neg (by omega)]
  unfold fmtNet
  have e : headT n ++ fmtTs l = wordsT nodesW [n] ++ 10 :: fmtTs l := by simp [headT]
  rw [if_pos h, e, words_app _ (wordsT_no10 _ (by decide))]
  obtain ⟨z, q, hz⟩ := List.exists_cons_of_ne_nil (words_ne 10 (fmtTs l))
  have h0 : vNet n [] = true := vNet_pre (l := []) (r := l) (by simpa using h)
  have := runT_all l (n, []) (0 + 1) (by omega) (by simpa using h)
  rw [hz] at *
  rw [runT, stepT_node h0]
  show runT (z :: q) (n, []) (0 + 1) = _
  rw [this]
  simp
end Go.Proofs.YthpbkbbmedpecaaDoor
