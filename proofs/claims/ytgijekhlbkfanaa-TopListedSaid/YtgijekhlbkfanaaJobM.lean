/- Plans: tasks, names, the first error, the order. No program is named. -/
import Derived.WalkKit
set_option linter.unusedSimpArgs false
set_option linter.unusedVariables false
namespace Go.Proofs.Ytgijekhlbkfanaa

/-- A task: its name, days, men, and the names of those before it. -/
structure Tk where
  nm : ByteArray
  dy : Int
  mn : Int
  af : List ByteArray
def t0 : Tk := ⟨ByteArray.empty, 0, 0, []⟩
def tkA (l : List Tk) (i : Nat) : Tk := l[i]?.getD t0
theorem tkA_get {l : List Tk} {i : Nat} (h : i < l.length) : tkA l i = l[i] := by unfold tkA; rw [List.getElem?_eq_getElem h]; rfl
theorem tkA_mem {l : List Tk} {i : Nat} (h : i < l.length) : tkA l i ∈ l := by rw [tkA_get h]; exact List.getElem_mem h
theorem mem_tkA {l : List Tk} {t : Tk} (h : t ∈ l) : ∃ i, i < l.length ∧ tkA l i = t := by
  obtain ⟨i, hi, rfl⟩ := List.getElem_of_mem h
  exact ⟨i, hi, tkA_get hi⟩

/-- The place of the first task with a name; the length if there is none. -/
def fnd (l : List Tk) (s : ByteArray) : Nat := l.findIdx fun t => decide (t.nm = s)
theorem fnd_le (l : List Tk) (s : ByteArray) : fnd l s ≤ l.length := List.findIdx_le_length
theorem fnd_at {l : List Tk} {s : ByteArray} (h : fnd l s < l.length) : (tkA l (fnd l s)).nm = s := by
  have := List.findIdx_getElem (p := fun t : Tk => decide (t.nm = s)) (xs := l) (w := h)
  rw [tkA_get h]; exact of_decide_eq_true this
theorem fnd_no {l : List Tk} {s : ByteArray} {i : Nat} (h : i < fnd l s) : (tkA l i).nm ≠ s := by
  have hl := fnd_le l s
  have := List.not_of_lt_findIdx (p := fun t : Tk => decide (t.nm = s)) (xs := l) h
  rw [tkA_get (by omega)]
  simpa using this
theorem fnd_min {l : List Tk} {s : ByteArray} {i : Nat} (h : i < l.length) (hs : (tkA l i).nm = s) : fnd l s ≤ i := by
  rcases Nat.lt_or_ge i (fnd l s) with h1 | h1
  · exact absurd hs (fnd_no h1)
  · exact h1
theorem fnd_eq {l : List Tk} {s : ByteArray} {i : Nat} (h : i < l.length) (hs : (tkA l i).nm = s) (hb : ∀ j, j < i → (tkA l j).nm ≠ s) : fnd l s = i := by
  have h1 := fnd_min h hs
  rcases Nat.lt_or_ge (fnd l s) i with h2 | h2
  · exact absurd (fnd_at (by omega)) (hb _ h2)
  · omega
theorem fnd_none {l : List Tk} {s : ByteArray} (hb : ∀ j, j < l.length → (tkA l j).nm ≠ s) : fnd l s = l.length := by
  have h1 := fnd_le l s
  rcases Nat.lt_or_ge (fnd l s) l.length with h2 | h2
  · exact absurd (fnd_at h2) (hb _ h2)
  · omega
/-- The names are apart. -/
def apN (l : List Tk) : Prop := ∀ i, i < l.length → fnd l (tkA l i).nm = i
theorem apN_inj {l : List Tk} (h : apN l) {i j : Nat} (hi : i < l.length) (hj : j < l.length) (e : (tkA l i).nm = (tkA l j).nm) : i = j := by
  rw [← h i hi, ← h j hj, e]

/-- The first that is not 0. -/
def frst : List Int → Int
  | [] => 0
  | x :: xs => if x = 0 then frst xs else x
theorem frst_all : ∀ {xs : List Int}, (∀ x ∈ xs, x = 0) → frst xs = 0
  | [], _ => rfl
  | x :: xs, h => by
    rw [frst, if_pos (h x (List.mem_cons_self ..))]
    exact frst_all fun y hy => h y (List.mem_cons_of_mem _ hy)
theorem frst_zero : ∀ {xs : List Int}, frst xs = 0 → ∀ x ∈ xs, x = 0
  | x :: xs, h, y, hy => by
    rw [frst] at h
    split at h
    · rcases List.mem_cons.1 hy with rfl | hy
      · assumption
      · exact frst_zero h y hy
    · exact absurd h (by assumption)
theorem frst_app : ∀ (xs ys : List Int), frst (xs ++ ys) = if frst xs = 0 then frst ys else frst xs
  | [], ys => by simp [frst]
  | x :: xs, ys => by
    rw [List.cons_append, frst, frst_app xs ys, frst]
    by_cases h : x = 0
    · rw [if_pos h, if_pos h]
    · rw [if_neg h, if_neg h, if_neg h]
theorem frst_next {f : Nat → Int} {k : Nat} (h : frst ((List.range k).map f) = 0) (hf : f k = 0) : frst ((List.range (k + 1)).map f) = 0 := by
  rw [List.range_succ, List.map_append, frst_app, if_pos h]; simp [frst, hf]
theorem frst_stop {f : Nat → Int} {k n : Nat} (hk : k < n) (h : frst ((List.range k).map f) = 0) (hf : f k ≠ 0) : frst ((List.range n).map f) = f k := by
  obtain ⟨m, rfl⟩ : ∃ m, n = (k + 1) + m := ⟨n - (k + 1), by omega⟩
  rw [List.range_add, List.map_append, frst_app]
  have : frst ((List.range (k + 1)).map f) = f k := by
    rw [List.range_succ, List.map_append, frst_app, if_pos h]; simp [frst, hf]
  rw [this, if_neg hf]
theorem frst_at {f : Nat → Int} {n : Nat} (h : frst ((List.range n).map f) = 0) {k : Nat} (hk : k < n) : f k = 0 :=
  frst_zero h _ (List.mem_map.2 ⟨k, List.mem_range.2 hk, rfl⟩)

/-- Whether a text is a name. -/
def chV (i : Nat) (b : Int) : Bool := (decide (97 ≤ b) && decide (b ≤ 122)) || (decide (i ≠ 0) && (decide (b = 95) || (decide (48 ≤ b) && decide (b ≤ 57))))
/-- A byte of a text. -/
def byA (s : ByteArray) (i : Nat) : Int := ((s.data.toList[i]?.getD 0).toNat : Int)
def isNm (s : ByteArray) : Bool := ((List.range s.size).all fun i => chV i (byA s i)) && (decide ((1 : Int) ≤ s.size ∧ (s.size : Int) ≤ 16))

def wi (n lo hi : Int) : Bool := decide (lo ≤ n ∧ n ≤ hi)
theorem wi_iff {n lo hi : Int} : wi n lo hi = true ↔ lo ≤ n ∧ n ≤ hi := by simp [wi]
/-- The error of a task by itself. -/
def okTk (t : Tk) : Bool := isNm t.nm && wi t.dy 1 1000 && wi t.mn 1 16
def tkE (l : List Tk) (i : Nat) : Int := if okTk (tkA l i) = false then 1 else if fnd l (tkA l i).nm < i then 6 else if 10 < (tkA l i).af.length then 4 else 0
def aloneE (l : List Tk) : Int := frst ((List.range l.length).map (tkE l))
/-- Whether a text is among others. -/
def isIn (xs : List ByteArray) (s : ByteArray) : Bool := xs.any fun x => decide (x = s)
theorem isIn_iff {xs : List ByteArray} {s : ByteArray} : isIn xs s = true ↔ s ∈ xs := by
  unfold isIn
  rw [List.any_eq_true]
  exact ⟨fun ⟨x, h, e⟩ => by rw [← of_decide_eq_true e]; exact h, fun h => ⟨s, h, by simp⟩⟩
def afA (l : List Tk) (i k : Nat) : ByteArray := (tkA l i).af[k]?.getD ByteArray.empty
def afE (l : List Tk) (i k : Nat) : Int := if fnd l (afA l i k) < l.length then (if isIn ((tkA l i).af.take k) (afA l i k) = true then 6 else 0) else 5
def rowE (l : List Tk) (i : Nat) : Int := frst ((List.range (tkA l i).af.length).map (afE l i))
def namesE (l : List Tk) : Int := frst ((List.range l.length).map (rowE l))

/-- The places of those before a task. -/
def afs (l : List Tk) (i : Nat) : List Nat := (tkA l i).af.map (fnd l)
def rdy (l : List Tk) (out : List Nat) (i : Nat) : Bool := !(out.contains i) && (afs l i).all out.contains
def nxt (l : List Tk) (out : List Nat) : Option Nat := (List.range l.length).find? (rdy l out)
def ordK (l : List Tk) : Nat → List Nat
  | 0 => []
  | k + 1 => match nxt l (ordK l k) with
    | some i => ordK l k ++ [i]
    | none => ordK l k
def ord (l : List Tk) : List Nat := ordK l l.length
def checkE (l : List Tk) : Int :=
  if l.length = 0 then 8 else if 20 < l.length then 4 else if aloneE l ≠ 0 then aloneE l else if namesE l ≠ 0 then namesE l else if (ord l).length < l.length then 10 else 0

theorem nxt_some {l : List Tk} {out : List Nat} {i : Nat} (h : nxt l out = some i) : i < l.length ∧ rdy l out i = true := by
  unfold nxt at h
  exact ⟨List.mem_range.1 (List.mem_of_find?_eq_some h), List.find?_some h⟩
theorem nxt_first {l : List Tk} {out : List Nat} {i : Nat} (h : nxt l out = some i) {j : Nat} (hj : j < i) : rdy l out j = false := by
  unfold nxt at h
  have := List.find?_range_eq_some.1 h
  simpa using this.2.2 j hj
theorem nxt_none {l : List Tk} {out : List Nat} (h : nxt l out = none) {j : Nat} (hj : j < l.length) : rdy l out j = false := by
  unfold nxt at h
  have := List.find?_eq_none.1 h j (List.mem_range.2 hj)
  simpa using this
theorem nxt_is {l : List Tk} {out : List Nat} {i : Nat} (hi : i < l.length) (h : rdy l out i = true) (hb : ∀ j, j < i → rdy l out j = false) : nxt l out = some i := by
  unfold nxt
  exact List.find?_range_eq_some.2 ⟨h, List.mem_range.2 hi, fun j hj => by rw [hb j hj]; rfl⟩
theorem nxt_isNone {l : List Tk} {out : List Nat} (hb : ∀ j, j < l.length → rdy l out j = false) : nxt l out = none := by
  unfold nxt
  exact List.find?_eq_none.2 fun j hj => by rw [hb j (List.mem_range.1 hj)]; decide
theorem ordK_next {l : List Tk} {k i : Nat} (h : nxt l (ordK l k) = some i) : ordK l (k + 1) = ordK l k ++ [i] := by show (match nxt l (ordK l k) with | some i => _ | none => _) = _; rw [h]
theorem ordK_stay {l : List Tk} {k : Nat} (h : nxt l (ordK l k) = none) : ordK l (k + 1) = ordK l k := by show (match nxt l (ordK l k) with | some i => _ | none => _) = _; rw [h]
theorem ordK_stuck {l : List Tk} {k : Nat} (h : nxt l (ordK l k) = none) : ∀ m, ordK l (k + m) = ordK l k
  | 0 => rfl
  | m + 1 => by
    have := ordK_stuck h m
    rw [← this] at h ⊢
    exact ordK_stay h
theorem ordK_lt {l : List Tk} : ∀ {k i : Nat}, i ∈ ordK l k → i < l.length
  | 0, i, h => by simp [ordK] at h
  | k + 1, i, h => by
    cases hn : nxt l (ordK l k) with
    | none => rw [ordK_stay hn] at h; exact ordK_lt h
    | some j =>
      rw [ordK_next hn] at h
      rcases List.mem_append.1 h with h | h
      · exact ordK_lt h
      · rw [List.mem_singleton.1 h]; exact (nxt_some hn).1
theorem rdy_iff {l : List Tk} {out : List Nat} {i : Nat} : rdy l out i = true ↔ i ∉ out ∧ ∀ a ∈ afs l i, a ∈ out := by
  simp [rdy, List.all_eq_true]
theorem ordK_nodup (l : List Tk) : ∀ k, (ordK l k).Nodup
  | 0 => List.nodup_nil
  | k + 1 => by
    cases hn : nxt l (ordK l k) with
    | none => rw [ordK_stay hn]; exact ordK_nodup l k
    | some j =>
      rw [ordK_next hn]
      have h1 := (rdy_iff.1 (nxt_some hn).2).1
      rw [List.nodup_append]
      exact ⟨ordK_nodup l k, by simp, fun a ha b hb => by rw [List.mem_singleton.1 hb]; intro e; rw [e] at ha; exact h1 ha⟩
theorem nodup_len {n : Nat} {xs : List Nat} (h : xs.Nodup) (hb : ∀ x ∈ xs, x < n) : xs.length ≤ n := by
  induction n generalizing xs with
  | zero =>
    cases xs with
    | nil => simp
    | cons x xs => exact absurd (hb x (List.mem_cons_self ..)) (by omega)
  | succ n ih =>
    have h1 := ih (xs := xs.erase n) (h.erase n) fun x hx => by
      have hx' := (List.Nodup.mem_erase_iff h).1 hx
      have := hb x hx'.2
      have := hx'.1
      omega
    have h2 := List.length_erase (a := n) (l := xs)
    split at h2 <;> omega
theorem ordK_le (l : List Tk) (k : Nat) : (ordK l k).length ≤ l.length := nodup_len (ordK_nodup l k) fun _ h => ordK_lt h
theorem ordK_len_le (l : List Tk) : ∀ k, (ordK l k).length ≤ k
  | 0 => Nat.le_refl _
  | k + 1 => by
    have := ordK_len_le l k
    cases hn : nxt l (ordK l k) with
    | none => rw [ordK_stay hn]; omega
    | some j => rw [ordK_next hn, List.length_append]; simpa using this
/-- After as many rounds as there are tasks none is ready. -/
theorem ordK_full {l : List Tk} {k : Nat} (h : l.length ≤ k) : nxt l (ordK l k) = none := by
  cases hn : nxt l (ordK l k) with
  | none => rfl
  | some i =>
    exfalso
    have key : ∀ m, m ≤ k → (ordK l m).length = m := by
      intro m
      induction m with
      | zero => intro _; rfl
      | succ m ih =>
        intro hm
        have h1 := ih (by omega)
        cases hn' : nxt l (ordK l m) with
        | none =>
          have := ordK_stuck hn' (k - m)
          rw [show m + (k - m) = k by omega] at this
          rw [this] at hn
          rw [hn] at hn'; cases hn'
        | some j => rw [ordK_next hn', List.length_append, h1]; rfl
    have h2 := key k (Nat.le_refl _)
    have h3 : ordK l (k + 1) = ordK l k ++ [i] := ordK_next hn
    have h4 := ordK_le l (k + 1)
    rw [h3, List.length_append, h2] at h4
    simp at h4; omega
theorem ord_none (l : List Tk) : nxt l (ord l) = none := ordK_full (Nat.le_refl _)
theorem ordK_ord {l : List Tk} {k : Nat} (h : nxt l (ordK l k) = none) : ordK l k = ord l := by
  rcases Nat.lt_or_ge k l.length with h1 | h1
  · have := ordK_stuck h (l.length - k)
    rw [show k + (l.length - k) = l.length by omega] at this
    exact this.symm
  · have := ordK_stuck (ord_none l) (k - l.length)
    rw [show l.length + (k - l.length) = k by omega] at this
    exact this
/-- As long as a task is ready each round takes one. -/
theorem ordK_len {l : List Tk} {k : Nat} : ∀ {m : Nat}, m ≤ k → (∀ j, j < k → nxt l (ordK l j) ≠ none) → (ordK l m).length = m
  | 0, _, _ => rfl
  | m + 1, hm, h => by
    cases hn : nxt l (ordK l m) with
    | none => exact absurd hn (h m (by omega))
    | some i => rw [ordK_next hn, List.length_append, ordK_len (by omega) h]; rfl
end Go.Proofs.Ytgijekhlbkfanaa
