/- Plans: where the check stops. No program is named. -/
import Derived.Test.YtgijekhlbkfanaaJobV
set_option linter.unusedSimpArgs false
set_option linter.unusedVariables false
namespace Go.Proofs.Ytgijekhlbkfanaa

/-- What is small enough to be walked. -/
structure Sml (l : List Tk) : Prop where
  len : l.length ≤ 1000
  nm : ∀ i, i < l.length → (tkA l i).nm.size ≤ 9223372036854775807
  af : ∀ i, i < l.length → (tkA l i).af.length ≤ 1000
  an : ∀ i, i < l.length → ∀ s ∈ (tkA l i).af, s.size ≤ 9223372036854775807
theorem check_first {l : List Tk} {k : Nat} (h0 : l.length ≠ 0) (h20 : ¬ 20 < l.length) (hk : k < l.length) (hf : frst ((List.range k).map (tkE l)) = 0) (hne : tkE l k ≠ 0) : tkE l k = checkE l := by
  have h1 : aloneE l = tkE l k := frst_stop hk hf hne
  unfold checkE
  rw [if_neg h0, if_neg h20, if_pos (by rw [h1]; exact hne), h1]
theorem check_second {l : List Tk} {i k : Nat} (h0 : l.length ≠ 0) (h20 : ¬ 20 < l.length) (ha : aloneE l = 0) (hi : i < l.length) (hr : frst ((List.range i).map (rowE l)) = 0) (hk : k < (tkA l i).af.length) (hf : frst ((List.range k).map (afE l i)) = 0) (hne : afE l i k ≠ 0) : afE l i k = checkE l := by
  have h1 : rowE l i = afE l i k := frst_stop hk hf hne
  have h2 : namesE l = rowE l i := frst_stop hi hr (by rw [h1]; exact hne)
  unfold checkE
  rw [if_neg h0, if_neg h20, if_neg (by rw [ha]; decide), if_pos (by rw [h2, h1]; exact hne), h2, h1]
theorem check_alone {l : List Tk} (h0 : l.length ≠ 0) (h20 : ¬ 20 < l.length) (ha : aloneE l ≠ 0) : aloneE l = checkE l := by
  unfold checkE
  rw [if_neg h0, if_neg h20, if_pos ha]
theorem check_last {l : List Tk} (h0 : l.length ≠ 0) (h20 : ¬ 20 < l.length) (ha : aloneE l = 0) (hn : namesE l = 0) : checkE l = if (ord l).length < l.length then 10 else 0 := by
  unfold checkE
  rw [if_neg h0, if_neg h20, if_neg (by rw [ha]; decide), if_neg (by rw [hn]; decide)]
theorem tk_cases (l : List Tk) (k : Nat) : (isNm (tkA l k).nm = false ∧ tkE l k = 1) ∨ ((isNm (tkA l k).nm = true ∧ wi (tkA l k).dy 1 1000 = false) ∧ tkE l k = 1) ∨ ((isNm (tkA l k).nm = true ∧ wi (tkA l k).dy 1 1000 = true ∧ wi (tkA l k).mn 1 16 = false) ∧ tkE l k = 1) ∨
    ((isNm (tkA l k).nm = true ∧ wi (tkA l k).dy 1 1000 = true ∧ wi (tkA l k).mn 1 16 = true) ∧ ((fnd l (tkA l k).nm < k ∧ tkE l k = 6) ∨ (¬ fnd l (tkA l k).nm < k ∧ 10 < (tkA l k).af.length ∧ tkE l k = 4) ∨ (¬ fnd l (tkA l k).nm < k ∧ ¬ 10 < (tkA l k).af.length ∧ tkE l k = 0))) := by
  unfold tkE okTk
  cases isNm (tkA l k).nm
  · exact .inl ⟨rfl, by simp⟩
  · cases wi (tkA l k).dy 1 1000
    · exact .inr (.inl ⟨⟨rfl, rfl⟩, by simp⟩)
    · cases wi (tkA l k).mn 1 16
      · exact .inr (.inr (.inl ⟨⟨rfl, rfl, rfl⟩, by simp⟩))
      · refine .inr (.inr (.inr ⟨⟨rfl, rfl, rfl⟩, ?_⟩))
        by_cases h1 : fnd l (tkA l k).nm < k
        · exact .inl ⟨h1, by simp [h1]⟩
        · by_cases h2 : 10 < (tkA l k).af.length
          · exact .inr (.inl ⟨h1, h2, by simp [h1, h2]⟩)
          · exact .inr (.inr ⟨h1, h2, by simp [h1, h2]⟩)
theorem af_cases (l : List Tk) (i k : Nat) : (¬ fnd l (afA l i k) < l.length ∧ afE l i k = 5) ∨ (fnd l (afA l i k) < l.length ∧ isIn ((tkA l i).af.take k) (afA l i k) = true ∧ afE l i k = 6) ∨ (fnd l (afA l i k) < l.length ∧ isIn ((tkA l i).af.take k) (afA l i k) = false ∧ afE l i k = 0) := by
  unfold afE
  by_cases h1 : fnd l (afA l i k) < l.length
  · cases h2 : isIn ((tkA l i).af.take k) (afA l i k)
    · exact .inr (.inr ⟨h1, rfl, by simp [h1]⟩)
    · exact .inr (.inl ⟨h1, rfl, by simp [h1]⟩)
  · exact .inl ⟨h1, by simp [h1]⟩
theorem okN_mk {l : List Tk} (ha : aloneE l = 0) (hn : namesE l = 0) : okN l := ⟨(alone_spec ha).2.1, (names_spec hn).1⟩
theorem checkE_alone {l : List Tk} (h : checkE l = 0) : aloneE l = 0 ∧ namesE l = 0 := by
  unfold checkE at h
  split at h
  · cases h
  · split at h
    · cases h
    · split at h
      · rename_i h1; exact absurd h h1
      · split at h
        · rename_i h1; exact absurd h h1
        · rename_i h1 h2; exact ⟨Classical.not_not.1 h1, Classical.not_not.1 h2⟩
/-- The first places known by their names so far. -/
def fndM (l : List Tk) (k : Nat) : ByteArray → Option Int := fun s => if fnd l s < k then some (fnd l s : Int) else none
def seenM (l : List Tk) (k : Nat) : ByteArray → Option Bool := fun s => if fnd l s < k then some true else none
theorem fndM_zero (l : List Tk) : fndM l 0 = fun _ => none := by funext s; simp [fndM]
theorem seenM_zero (l : List Tk) : seenM l 0 = fun _ => none := by funext s; simp [seenM]
theorem fnd_of {l : List Tk} {k : Nat} (hk : k < l.length) : fnd l (tkA l k).nm ≤ k := fnd_min hk rfl
theorem fndM_stay {l : List Tk} {k : Nat} (hk : k < l.length) (h : fnd l (tkA l k).nm < k) : fndM l (k + 1) = fndM l k := by
  funext s
  unfold fndM
  by_cases h1 : fnd l s < k
  · rw [if_pos h1, if_pos (by omega)]
  · rw [if_neg h1, if_neg]
    intro h2
    have h3 : fnd l s = k := by omega
    have h4 := fnd_at (l := l) (s := s) (by omega)
    rw [h3] at h4
    rw [h4, h3] at h
    omega
theorem fndM_next {l : List Tk} {k : Nat} (hk : k < l.length) (h : ¬ fnd l (tkA l k).nm < k) : fndM l (k + 1) = fun x => if x = (tkA l k).nm then some (k : Int) else fndM l k x := by
  funext s
  have h0 := fnd_of hk
  unfold fndM
  by_cases h1 : s = (tkA l k).nm
  · rw [if_pos h1, h1, if_pos (by omega)]; congr 2; omega
  · rw [if_neg h1]
    have h2 : fnd l s ≠ k := fun e => h1 (by
      have h4 := fnd_at (l := l) (s := s) (by omega)
      rw [e] at h4; exact h4.symm)
    by_cases h3 : fnd l s < k
    · rw [if_pos h3, if_pos (by omega)]
    · rw [if_neg h3, if_neg (by omega)]
theorem seenM_next {l : List Tk} {k : Nat} (hk : k < l.length) (h : ¬ fnd l (tkA l k).nm < k) : seenM l (k + 1) = fun x => if x = (tkA l k).nm then some true else seenM l k x := by
  funext s
  have h0 := fnd_of hk
  unfold seenM
  by_cases h1 : s = (tkA l k).nm
  · rw [if_pos h1, h1, if_pos (by omega)]
  · rw [if_neg h1]
    have h2 : fnd l s ≠ k := fun e => h1 (by
      have h4 := fnd_at (l := l) (s := s) (by omega)
      rw [e] at h4; exact h4.symm)
    by_cases h3 : fnd l s < k
    · rw [if_pos h3, if_pos (by omega)]
    · rw [if_neg h3, if_neg (by omega)]
theorem seenM_at {l : List Tk} {k : Nat} {s : ByteArray} : (seenM l k s).getD false = decide (fnd l s < k) := by
  unfold seenM; split <;> simp_all
theorem fndM_is {l : List Tk} {k : Nat} {s : ByteArray} : (fndM l k s).isSome = decide (fnd l s < k) := by
  unfold fndM; split <;> simp_all
theorem fndM_at {l : List Tk} {k : Nat} {s : ByteArray} (h : fnd l s < k) : fndM l k s = some (fnd l s : Int) := if_pos h
/-- Texts seen so far in a row. -/
def inM (ss : List ByteArray) (k : Nat) : ByteArray → Option Bool := fun s => if isIn (ss.take k) s = true then some true else none
theorem inM_zero (ss : List ByteArray) : inM ss 0 = fun _ => none := by funext s; simp [inM, isIn]
theorem inM_at {ss : List ByteArray} {k : Nat} {s : ByteArray} : (inM ss k s).getD false = isIn (ss.take k) s := by
  unfold inM; cases isIn (ss.take k) s <;> simp
theorem inM_next {ss : List ByteArray} {k : Nat} (hk : k < ss.length) : inM ss (k + 1) = fun x => if x = ss[k]?.getD ByteArray.empty then some true else inM ss k x := by
  funext s
  unfold inM
  have e : isIn (ss.take (k + 1)) s = (isIn (ss.take k) s || decide (ss[k] = s)) := by
    unfold isIn
    rw [List.take_succ_eq_append_getElem hk, List.any_append]; simp
  rw [e, List.getElem?_eq_getElem hk]
  show _ = if s = ss[k] then some true else _
  by_cases h1 : s = ss[k]
  · rw [if_pos h1]; simp [h1]
  · rw [if_neg h1]
    have : decide (ss[k] = s) = false := decide_eq_false fun e => h1 e.symm
    rw [this, Bool.or_false]
end Go.Proofs.Ytgijekhlbkfanaa
