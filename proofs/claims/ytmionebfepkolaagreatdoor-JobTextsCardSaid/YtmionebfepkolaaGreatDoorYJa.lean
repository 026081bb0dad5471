/- Joined by merge.py from: JobM JobV JobK JobE JobL JobC JobD. -/
import Derived.WalkKit
set_option linter.unusedSimpArgs false
set_option linter.unusedVariables false
namespace Go.Proofs.YtmionebfepkolaaGreatDoor

/-- A task: its name, days, men, and the names of those before it. -/
structure Tk where
  nm : ByteArray
  dy : Int
  mn : Int
  af : List ByteArray
def t0 : Tk := ⟨ByteArray.empty, 0, 0, []⟩
def tkA (l : List Tk) (i : Nat) : Tk := l[i]?.getD t0
theorem tkA_get {l : List Tk} {i : Nat} (h : i < l.length) : tkA l i = l[i] := by unfold tkA; rw [List.getElem?_eq_getElem h]; rfl
theorem tkA_mem {l : List Tk} {i : Nat} (h : i < l.length) : tkA l i ∈ l := by rw [tkA_get h]; exact List.getElem_mem h
theorem mem_tkA {l : List Tk} {t : Tk} (h : t ∈ l) : ∃ i, i < l.length ∧ tkA l i = t := by
  obtain ⟨i, hi, rfl⟩ := List.getElem_of_mem h
  exact ⟨i, hi, tkA_get hi⟩

/-- The place of the first task with a name; the length if there is none. -/
def fnd (l : List Tk) (s : ByteArray) : Nat := l.findIdx fun t => decide (t.nm = s)
theorem fnd_le (l : List Tk) (s : ByteArray) : fnd l s ≤ l.length := List.findIdx_le_length
theorem fnd_at {l : List Tk} {s : ByteArray} (h : fnd l s < l.length) : (tkA l (fnd l s)).nm = s := by
  have := List.findIdx_getElem (p := fun t : Tk => decide (t.nm = s)) (xs := l) (w := h)
  rw [tkA_get h]; exact of_decide_eq_true this
theorem fnd_no {l : List Tk} {s : ByteArray} {i : Nat} (h : i < fnd l s) : (tkA l i).nm ≠ s := by
  have hl := fnd_le l s
  have := List.not_of_lt_findIdx (p := fun t : Tk => decide (t.nm = s)) (xs := l) h
  rw [tkA_get (by omega)]
  simpa using this
theorem fnd_min {l : List Tk} {s : ByteArray} {i : Nat} (h : i < l.length) (hs : (tkA l i).nm = s) : fnd l s ≤ i := by
  rcases Nat.lt_or_ge i (fnd l s) with h1 | h1
  · exact absurd hs (fnd_no h1)
  · exact h1
theorem fnd_eq {l : List Tk} {s : ByteArray} {i : Nat} (h : i < l.length) (hs : (tkA l i).nm = s) (hb : ∀ j, j < i → (tkA l j).nm ≠ s) : fnd l s = i := by
  have h1 := fnd_min h hs
  rcases Nat.lt_or_ge (fnd l s) i with h2 | h2
  · exact absurd (fnd_at (by omega)) (hb _ h2)
  · omega
theorem fnd_none {l : List Tk} {s : ByteArray} (hb : ∀ j, j < l.length → (tkA l j).nm ≠ s) : fnd l s = l.length := by
  have h1 := fnd_le l s
  rcases Nat.lt_or_ge (fnd l s) l.length with h2 | h2
  · exact absurd (fnd_at h2) (hb _ h2)
  · omega
/-- The names are apart. -/
def apN (l : List Tk) : Prop := ∀ i, i < l.length → fnd l (tkA l i).nm = i
theorem apN_inj {l : List Tk} (h : apN l) {i j : Nat} (hi : i < l.length) (hj : j < l.length) (e : (tkA l i).nm = (tkA l j).nm) : i = j := by
  rw [← h i hi, ← h j hj, e]

/-- The first that is not 0. -/
def frst : List Int → Int
  | [] => 0
  | x :: xs => if x = 0 then frst xs else x
theorem frst_all : ∀ {xs : List Int}, (∀ x ∈ xs, x = 0) → frst xs = 0
  | [], _ => rfl
  | x :: xs, h => by
    rw [frst, if_pos (h x (List.mem_cons_self ..))]
    exact frst_all fun y hy => h y (List.mem_cons_of_mem _ hy)
theorem frst_zero : ∀ {xs : List Int}, frst xs = 0 → ∀ x ∈ xs, x = 0
  | x :: xs, h, y, hy => by
    rw [frst] at h
    split at h
    · rcases List.mem_cons.1 hy with rfl | hy
      · assumption
      · exact frst_zero h y hy
    · exact absurd h (by assumption)
theorem frst_app : ∀ (xs ys : List Int), frst (xs ++ ys) = if frst xs = 0 then frst ys else frst xs
  | [], ys => by simp [frst]
  | x :: xs, ys => by
    rw [List.cons_append, frst, frst_app xs ys, frst]
    by_cases h : x = 0
    · rw [if_pos h, if_pos h]
    · rw [if_neg h, if_neg h, if_neg h]
theorem frst_next {f : Nat → Int} {k : Nat} (h : frst ((List.range k).map f) = 0) (hf : f k = 0) : frst ((List.range (k + 1)).map f) = 0 := by
  rw [List.range_succ, List.map_append, frst_app, if_pos h]; simp [frst, hf]
theorem frst_stop {f : Nat → Int} {k n : Nat} (hk : k < n) (h : frst ((List.range k).map f) = 0) (hf : f k ≠ 0) : frst ((List.range n).map f) = f k := by
  obtain ⟨m, rfl⟩ : ∃ m, n = (k + 1) + m := ⟨n - (k + 1), by omega⟩
  rw [List.range_add, List.map_append, frst_app]
  have : frst ((List.range (k + 1)).map f) = f k := by
    rw [List.range_succ, List.map_append, frst_app, if_pos h]; simp [frst, hf]
  rw [this, if_neg hf]
theorem frst_at {f : Nat → Int} {n : Nat} (h : frst ((List.range n).map f) = 0) {k : Nat} (hk : k < n) : f k = 0 :=
  frst_zero h _ (List.mem_map.2 ⟨k, List.mem_range.2 hk, rfl⟩)

/-- Whether a text is a name. -/
def chV (i : Nat) (b : Int) : Bool := (decide (97 ≤ b) && decide (b ≤ 122)) || (decide (i ≠ 0) && (decide (b = 95) || (decide (48 ≤ b) && decide (b ≤ 57))))
/-- A byte of a text. -/
def byA (s : ByteArray) (i : Nat) : Int := ((s.data.toList[i]?.getD 0).toNat : Int)
def isNm (s : ByteArray) : Bool := ((List.range s.size).all fun i => chV i (byA s i)) && (decide ((1 : Int) ≤ s.size ∧ (s.size : Int) ≤ 16))

def wi (n lo hi : Int) : Bool := decide (lo ≤ n ∧ n ≤ hi)
theorem wi_iff {n lo hi : Int} : wi n lo hi = true ↔ lo ≤ n ∧ n ≤ hi := by simp [wi]
/-- The error of a task by itself. -/
def okTk (t : Tk) : Bool := isNm t.nm && wi t.dy 1 1000 && wi t.mn 1 16
def tkE (l : List Tk) (i : Nat) : Int := if okTk (tkA l i) = false then 1 else if fnd l (tkA l i).nm < i then 6 else if 10 < (tkA l i).af.length then 4 else 0
def aloneE (l : List Tk) : Int := frst ((List.range l.length).map (tkE l))
/-- Whether a text is among others. -/
def isIn (xs : List ByteArray) (s : ByteArray) : Bool := xs.any fun x => decide (x = s)
theorem isIn_iff {xs : List ByteArray} {s : ByteArray} : isIn xs s = true ↔ s ∈ xs := by
  unfold isIn
  rw [List.any_eq_true]
  exact ⟨fun ⟨x, h, e⟩ => by rw [← of_decide_eq_true e]; exact h, fun h => ⟨s, h, by simp⟩⟩
def afA (l : List Tk) (i k : Nat) : ByteArray := (tkA l i).af[k]?.getD ByteArray.empty
def afE (l : List Tk) (i k : Nat) : Int := if fnd l (afA l i k) < l.length then (if isIn ((tkA l i).af.take k) (afA l i k) = true then 6 else 0) else 5
def rowE (l : List Tk) (i : Nat) : Int := frst ((List.range (tkA l i).af.length).map (afE l i))
def namesE (l : List Tk) : Int := frst ((List.range l.length).map (rowE l))

/-- The places of those before a task. -/
def afs (l : List Tk) (i : Nat) : List Nat := (tkA l i).af.map (fnd l)
def rdy (l : List Tk) (out : List Nat) (i : Nat) : Bool := !(out.contains i) && (afs l i).all out.contains
def nxt (l : List Tk) (out : List Nat) : Option Nat := (List.range l.length).find? (rdy l out)
def ordK (l : List Tk) : Nat → List Nat
  | 0 => []
  | k + 1 => match nxt l (ordK l k) with
    | some i => ordK l k ++ [i]
    | none => ordK l k
def ord (l : List Tk) : List Nat := ordK l l.length
def checkE (l : List Tk) : Int :=
  if l.length = 0 then 8 else if 20 < l.length then 4 else if aloneE l ≠ 0 then aloneE l else if namesE l ≠ 0 then namesE l else if (ord l).length < l.length then 10 else 0

theorem nxt_some {l : List Tk} {out : List Nat} {i : Nat} (h : nxt l out = some i) : i < l.length ∧ rdy l out i = true := by
  unfold nxt at h
  exact ⟨List.mem_range.1 (List.mem_of_find?_eq_some h), List.find?_some h⟩
theorem nxt_first {l : List Tk} {out : List Nat} {i : Nat} (h : nxt l out = some i) {j : Nat} (hj : j < i) : rdy l out j = false := by
  unfold nxt at h
  have := List.find?_range_eq_some.1 h
  simpa using this.2.2 j hj
theorem nxt_none {l : List Tk} {out : List Nat} (h : nxt l out = none) {j : Nat} (hj : j < l.length) : rdy l out j = false := by
  unfold nxt at h
  have := List.find?_eq_none.1 h j (List.mem_range.2 hj)
  simpa using this
theorem nxt_is {l : List Tk} {out : List Nat} {i : Nat} (hi : i < l.length) (h : rdy l out i = true) (hb : ∀ j, j < i → rdy l out j = false) : nxt l out = some i := by
  unfold nxt
  exact List.find?_range_eq_some.2 ⟨h, List.mem_range.2 hi, fun j hj => by rw [hb j hj]; rfl⟩
theorem nxt_isNone {l : List Tk} {out : List Nat} (hb : ∀ j, j < l.length → rdy l out j = false) : nxt l out = none := by
  unfold nxt
  exact List.find?_eq_none.2 fun j hj => by rw [hb j (List.mem_range.1 hj)]; decide
theorem ordK_next {l : List Tk} {k i : Nat} (h : nxt l (ordK l k) = some i) : ordK l (k + 1) = ordK l k ++ [i] := by show (match nxt l (ordK l k) with | some i => _ | none => _) = _; rw [h]
theorem ordK_stay {l : List Tk} {k : Nat} (h : nxt l (ordK l k) = none) : ordK l (k + 1) = ordK l k := by show (match nxt l (ordK l k) with | some i => _ | none => _) = _; rw [h]
theorem ordK_stuck {l : List Tk} {k : Nat} (h : nxt l (ordK l k) = none) : ∀ m, ordK l (k + m) = ordK l k
  | 0 => rfl
  | m + 1 => by
    have := ordK_stuck h m
    rw [← this] at h ⊢
    exact ordK_stay h
theorem ordK_lt {l : List Tk} : ∀ {k i : Nat}, i ∈ ordK l k → i < l.length
  | 0, i, h => by simp [ordK] at h
  | k + 1, i, h => by
    cases hn : nxt l (ordK l k) with
    | none => rw [ordK_stay hn] at h; exact ordK_lt h
    | some j =>
      rw [ordK_next hn] at h
      rcases List.mem_append.1 h with h | h
      · exact ordK_lt h
      · rw [List.mem_singleton.1 h]; exact (nxt_some hn).1
theorem rdy_iff {l : List Tk} {out : List Nat} {i : Nat} : rdy l out i = true ↔ i ∉ out ∧ ∀ a ∈ afs l i, a ∈ out := by
  simp [rdy, List.all_eq_true]
theorem ordK_nodup (l : List Tk) : ∀ k, (ordK l k).Nodup
  | 0 => List.nodup_nil
  | k + 1 => by
    cases hn : nxt l (ordK l k) with
    | none => rw [ordK_stay hn]; exact ordK_nodup l k
    | some j =>
      rw [ordK_next hn]
      have h1 := (rdy_iff.1 (nxt_some hn).2).1
      rw [List.nodup_append]
      exact ⟨ordK_nodup l k, by simp, fun a ha b hb => by rw [List.mem_singleton.1 hb]; intro e; rw [e] at ha; exact h1 ha⟩
theorem nodup_len {n : Nat} {xs : List Nat} (h : xs.Nodup) (hb : ∀ x ∈ xs, x < n) : xs.length ≤ n := by
  induction n generalizing xs with
  | zero =>
    cases xs with
    | nil => simp
    | cons x xs => exact absurd (hb x (List.mem_cons_self ..)) (by omega)
  | succ n ih =>
    have h1 := ih (xs := xs.erase n) (h.erase n) fun x hx => by
      have hx' := (List.Nodup.mem_erase_iff h).1 hx
      have := hb x hx'.2
      have := hx'.1
      omega
    have h2 := List.length_erase (a := n) (l := xs)
    split at h2 <;> omega
theorem ordK_le (l : List Tk) (k : Nat) : (ordK l k).length ≤ l.length := nodup_len (ordK_nodup l k) fun _ h => ordK_lt h
theorem ordK_len_le (l : List Tk) : ∀ k, (ordK l k).length ≤ k
  | 0 => Nat.le_refl _
  | k + 1 => by
    have := ordK_len_le l k
    cases hn : nxt l (ordK l k) with
    | none => rw [ordK_stay hn]; omega
    | some j => rw [ordK_next hn, List.length_append]; simpa using this
/-- After as many rounds as there are tasks none is ready. -/
theorem ordK_full {l : List Tk} {k : Nat} (h : l.length ≤ k) : nxt l (ordK l k) = none := by
  cases hn : nxt l (ordK l k) with
  | none => rfl
  | some i =>
    exfalso
    have key : ∀ m, m ≤ k → (ordK l m).length = m := by
      intro m
      induction m with
      | zero => intro _; rfl
      | succ m ih =>
        intro hm
        have h1 := ih (by omega)
        cases hn' : nxt l (ordK l m) with
        | none =>
          have := ordK_stuck hn' (k - m)
          rw [show m + (k - m) = k by omega] at this
          rw [this] at hn
          rw [hn] at hn'; cases hn'
        | some j => rw [ordK_next hn', List.length_append, h1]; rfl
    have h2 := key k (Nat.le_refl _)
    have h3 : ordK l (k + 1) = ordK l k ++ [i] := ordK_next hn
    have h4 := ordK_le l (k + 1)
    rw [h3, List.length_append, h2] at h4
    simp at h4; omega
theorem ord_none (l : List Tk) : nxt l (ord l) = none := ordK_full (Nat.le_refl _)
theorem ordK_ord {l : List Tk} {k : Nat} (h : nxt l (ordK l k) = none) : ordK l k = ord l := by
  rcases Nat.lt_or_ge k l.length with h1 | h1
  · have := ordK_stuck h (l.length - k)
    rw [show k + (l.length - k) = l.length by omega] at this
    exact this.symm
  · have := ordK_stuck (ord_none l) (k - l.length)
    rw [show l.length + (k - l.length) = k by omega] at this
    exact this
/-- As long as a task is ready each round takes one. -/
theorem ordK_len {l : List Tk} {k : Nat} : ∀ {m : Nat}, m ≤ k → (∀ j, j < k → nxt l (ordK l j) ≠ none) → (ordK l m).length = m
  | 0, _, _ => rfl
  | m + 1, hm, h => by
    cases hn : nxt l (ordK l m) with
    | none => exact absurd hn (h m (by omega))
    | some i => rw [ordK_next hn, List.length_append, ordK_len (by omega) h]; rfl
end Go.Proofs.YtmionebfepkolaaGreatDoor

namespace Go.Proofs.YtmionebfepkolaaGreatDoor

/-- The names are apart and those before a task are there. -/
def okN (l : List Tk) : Prop := apN l ∧ ∀ i, i < l.length → ∀ s ∈ (tkA l i).af, fnd l s < l.length
structure okP (l : List Tk) : Prop where
  pos : 0 < l.length
  len : l.length ≤ 20
  each : ∀ i, i < l.length → okTk (tkA l i) = true
  apart : apN l
  few : ∀ i, i < l.length → (tkA l i).af.length ≤ 10
  known : ∀ i, i < l.length → ∀ s ∈ (tkA l i).af, fnd l s < l.length
  once : ∀ i, i < l.length → ∀ k, k < (tkA l i).af.length → afA l i k ∉ (tkA l i).af.take k
  all : (ord l).length = l.length
theorem okP.names {l : List Tk} (h : okP l) : okN l := ⟨h.apart, h.known⟩
theorem tkE_zero {l : List Tk} {i : Nat} (h : tkE l i = 0) : okTk (tkA l i) = true ∧ ¬ fnd l (tkA l i).nm < i ∧ (tkA l i).af.length ≤ 10 := by
  unfold tkE at h
  split at h
  · cases h
  · rename_i h1
    split at h
    · cases h
    · split at h
      · cases h
      · exact ⟨by simpa using h1, by assumption, by omega⟩
theorem afA_get {l : List Tk} {i k : Nat} (h : k < (tkA l i).af.length) : afA l i k = (tkA l i).af[k] := by unfold afA; rw [List.getElem?_eq_getElem h]; rfl
theorem afA_mem {l : List Tk} {i k : Nat} (h : k < (tkA l i).af.length) : afA l i k ∈ (tkA l i).af := by rw [afA_get h]; exact List.getElem_mem h
theorem mem_afA {l : List Tk} {i : Nat} {s : ByteArray} (h : s ∈ (tkA l i).af) : ∃ k, k < (tkA l i).af.length ∧ afA l i k = s := by
  obtain ⟨k, hk, rfl⟩ := List.getElem_of_mem h
  exact ⟨k, hk, afA_get hk⟩
theorem afE_zero {l : List Tk} {i k : Nat} (h : afE l i k = 0) : fnd l (afA l i k) < l.length ∧ afA l i k ∉ (tkA l i).af.take k := by
  unfold afE at h
  split at h
  · rename_i h1
    split at h
    · cases h
    · rename_i h2; exact ⟨h1, fun hh => h2 (isIn_iff.2 hh)⟩
  · cases h
theorem alone_spec {l : List Tk} (h : aloneE l = 0) : (∀ i, i < l.length → okTk (tkA l i) = true) ∧ apN l ∧ ∀ i, i < l.length → (tkA l i).af.length ≤ 10 := by
  have h1 := fun i (hi : i < l.length) => tkE_zero (frst_at h hi)
  exact ⟨fun i hi => (h1 i hi).1, fun i hi => by have := (h1 i hi).2.1; have := fnd_min hi rfl; omega, fun i hi => (h1 i hi).2.2⟩
theorem names_spec {l : List Tk} (h : namesE l = 0) : (∀ i, i < l.length → ∀ s ∈ (tkA l i).af, fnd l s < l.length) ∧ ∀ i, i < l.length → ∀ k, k < (tkA l i).af.length → afA l i k ∉ (tkA l i).af.take k := by
  have h1 := fun i (hi : i < l.length) k (hk : k < (tkA l i).af.length) => afE_zero (frst_at (frst_at h hi) hk)
  exact ⟨fun i hi s hs => by obtain ⟨k, hk, rfl⟩ := mem_afA hs; exact (h1 i hi k hk).1, fun i hi k hk => (h1 i hi k hk).2⟩
theorem check_spec {l : List Tk} (h : checkE l = 0) : okP l := by
  unfold checkE at h
  split at h
  · cases h
  · split at h
    · cases h
    · split at h
      · rename_i h1; exact absurd h h1
      · split at h
        · rename_i h1; exact absurd h h1
        · rename_i h1 h2
          split at h
          · cases h
          · obtain ⟨a1, a2, a3⟩ := alone_spec (Classical.not_not.1 h1)
            obtain ⟨b1, b2⟩ := names_spec (Classical.not_not.1 h2)
            have := ordK_le l l.length
            exact ⟨by omega, by omega, a1, a2, a3, b1, b2, by unfold ord at *; omega⟩
theorem okTk_spec {t : Tk} (h : okTk t = true) : isNm t.nm = true ∧ (1 ≤ t.dy ∧ t.dy ≤ 1000) ∧ (1 ≤ t.mn ∧ t.mn ≤ 16) := by
  unfold okTk at h
  simp only [Bool.and_eq_true] at h
  exact ⟨h.1.1, wi_iff.1 h.1.2, wi_iff.1 h.2⟩

/-- The names of some tasks. -/
def nmsOf (l : List Tk) (out : List Nat) : ByteArray → Option Bool := fun s => if out.any (fun i => decide ((tkA l i).nm = s)) then some true else none
/-- A task is ready where the map has not its name, but those before it. -/
def rdyM (l : List Tk) (M : ByteArray → Option Bool) (i : Nat) : Bool := !((M (tkA l i).nm).getD false) && (tkA l i).af.all fun s => (M s).getD false
theorem nms_name {l : List Tk} (h : apN l) {out : List Nat} (ho : ∀ i ∈ out, i < l.length) {i : Nat} (hi : i < l.length) : (nmsOf l out (tkA l i).nm).getD false = out.contains i := by
  unfold nmsOf
  rw [Bool.eq_iff_iff, List.contains_iff_mem]
  split
  · rename_i h1
    rw [List.any_eq_true] at h1
    obtain ⟨j, hj, e⟩ := h1
    have := apN_inj h (ho j hj) hi (of_decide_eq_true e)
    subst this
    exact ⟨fun _ => hj, fun _ => rfl⟩
  · rename_i h1
    refine ⟨fun h => (by cases h), fun hh => absurd ?_ h1⟩
    rw [List.any_eq_true]; exact ⟨i, hh, by simp⟩
theorem rdyM_rdy {l : List Tk} (h : okN l) {out : List Nat} (ho : ∀ i ∈ out, i < l.length) {i : Nat} (hi : i < l.length) : rdyM l (nmsOf l out) i = rdy l out i := by
  unfold rdyM rdy
  rw [nms_name h.1 ho hi]
  congr 1
  unfold afs
  rw [List.all_map, Bool.eq_iff_iff, List.all_eq_true, List.all_eq_true]
  have key : ∀ s ∈ (tkA l i).af, (nmsOf l out s).getD false = out.contains (fnd l s) := fun s hs => by
    have h1 := h.2 i hi s hs
    have h2 := nms_name h.1 ho h1
    rw [fnd_at h1] at h2
    exact h2
  exact ⟨fun hh s hs => by have := hh s hs; rw [key s hs] at this; exact this, fun hh s hs => by rw [key s hs]; exact hh s hs⟩
theorem nms_upd {l : List Tk} {out : List Nat} {i : Nat} : (fun x => if x = (tkA l i).nm then some true else nmsOf l out x) = nmsOf l (out ++ [i]) := by
  funext x
  unfold nmsOf
  rw [List.any_append]
  by_cases h : x = (tkA l i).nm
  · rw [if_pos h]; subst h; simp
  · rw [if_neg h]
    have : decide ((tkA l i).nm = x) = false := decide_eq_false fun e => h e.symm
    simp [this]
theorem nms_nil (l : List Tk) : nmsOf l [] = fun _ => none := rfl
end Go.Proofs.YtmionebfepkolaaGreatDoor

namespace Go.Proofs.YtmionebfepkolaaGreatDoor

/-- What is small enough to be walked. -/
structure Sml (l : List Tk) : Prop where
  len : l.length ≤ 1000
  nm : ∀ i, i < l.length → (tkA l i).nm.size ≤ 9223372036854775807
  af : ∀ i, i < l.length → (tkA l i).af.length ≤ 1000
  an : ∀ i, i < l.length → ∀ s ∈ (tkA l i).af, s.size ≤ 9223372036854775807
theorem check_first {l : List Tk} {k : Nat} (h0 : l.length ≠ 0) (h20 : ¬ 20 < l.length) (hk : k < l.length) (hf : frst ((List.range k).map (tkE l)) = 0) (hne : tkE l k ≠ 0) : tkE l k = checkE l := by
  have h1 : aloneE l = tkE l k := frst_stop hk hf hne
  unfold checkE
  rw [if_neg h0, if_neg h20, if_pos (by rw [h1]; exact hne), h1]
theorem check_second {l : List Tk} {i k : Nat} (h0 : l.length ≠ 0) (h20 : ¬ 20 < l.length) (ha : aloneE l = 0) (hi : i < l.length) (hr : frst ((List.range i).map (rowE l)) = 0) (hk : k < (tkA l i).af.length) (hf : frst ((List.range k).map (afE l i)) = 0) (hne : afE l i k ≠ 0) : afE l i k = checkE l := by
  have h1 : rowE l i = afE l i k := frst_stop hk hf hne
  have h2 : namesE l = rowE l i := frst_stop hi hr (by rw [h1]; exact hne)
  unfold checkE
  rw [if_neg h0, if_neg h20, if_neg (by rw [ha]; decide), if_pos (by rw [h2, h1]; exact hne), h2, h1]
theorem check_alone {l : List Tk} (h0 : l.length ≠ 0) (h20 : ¬ 20 < l.length) (ha : aloneE l ≠ 0) : aloneE l = checkE l := by
  unfold checkE
  rw [if_neg h0, if_neg h20, if_pos ha]
theorem check_last {l : List Tk} (h0 : l.length ≠ 0) (h20 : ¬ 20 < l.length) (ha : aloneE l = 0) (hn : namesE l = 0) : checkE l = if (ord l).length < l.length then 10 else 0 := by
  unfold checkE
  rw [if_neg h0, if_neg h20, if_neg (by rw [ha]; decide), if_neg (by rw [hn]; decide)]
theorem tk_cases (l : List Tk) (k : Nat) : (isNm (tkA l k).nm = false ∧ tkE l k = 1) ∨ ((isNm (tkA l k).nm = true ∧ wi (tkA l k).dy 1 1000 = false) ∧ tkE l k = 1) ∨ ((isNm (tkA l k).nm = true ∧ wi (tkA l k).dy 1 1000 = true ∧ wi (tkA l k).mn 1 16 = false) ∧ tkE l k = 1) ∨
    ((isNm (tkA l k).nm = true ∧ wi (tkA l k).dy 1 1000 = true ∧ wi (tkA l k).mn 1 16 = true) ∧ ((fnd l (tkA l k).nm < k ∧ tkE l k = 6) ∨ (¬ fnd l (tkA l k).nm < k ∧ 10 < (tkA l k).af.length ∧ tkE l k = 4) ∨ (¬ fnd l (tkA l k).nm < k ∧ ¬ 10 < (tkA l k).af.length ∧ tkE l k = 0))) := by
  unfold tkE okTk
  cases isNm (tkA l k).nm
  · exact .inl ⟨rfl, by simp⟩
  · cases wi (tkA l k).dy 1 1000
    · exact .inr (.inl ⟨⟨rfl, rfl⟩, by simp⟩)
    · cases wi (tkA l k).mn 1 16
      · exact .inr (.inr (.inl ⟨⟨rfl, rfl, rfl⟩, by simp⟩))
      · refine .inr (.inr (.inr ⟨⟨rfl, rfl, rfl⟩, ?_⟩))
        by_cases h1 : fnd l (tkA l k).nm < k
        · exact .inl ⟨h1, by simp [h1]⟩
        · by_cases h2 : 10 < (tkA l k).af.length
          · exact .inr (.inl ⟨h1, h2, by simp [h1, h2]⟩)
          · exact .inr (.inr ⟨h1, h2, by simp [h1, h2]⟩)
theorem af_cases (l : List Tk) (i k : Nat) : (¬ fnd l (afA l i k) < l.length ∧ afE l i k = 5) ∨ (fnd l (afA l i k) < l.length ∧ isIn ((tkA l i).af.take k) (afA l i k) = true ∧ afE l i k = 6) ∨ (fnd l (afA l i k) < l.length ∧ isIn ((tkA l i).af.take k) (afA l i k) = false ∧ afE l i k = 0) := by
  unfold afE
  by_cases h1 : fnd l (afA l i k) < l.length
  · cases h2 : isIn ((tkA l i).af.take k) (afA l i k)
    · exact .inr (.inr ⟨h1, rfl, by simp [h1]⟩)
    · exact .inr (.inl ⟨h1, rfl, by simp [h1]⟩)
  · exact .inl ⟨h1, by simp [h1]⟩
theorem okN_mk {l : List Tk} (ha : aloneE l = 0) (hn : namesE l = 0) : okN l := ⟨(alone_spec ha).2.1, (names_spec hn).1⟩
theorem checkE_alone {l : List Tk} (h : checkE l = 0) : aloneE l = 0 ∧ namesE l = 0 := by
  unfold checkE at h
  split at h
  · cases h
  · split at h
    · cases h
    · split at h
      · rename_i h1; exact absurd h h1
      · split at h
        · rename_i h1; exact absurd h h1
        · rename_i h1 h2; exact ⟨Classical.not_not.1 h1, Classical.not_not.1 h2⟩
/-- The first places known by their names so far. -/
def fndM (l : List Tk) (k : Nat) : ByteArray → Option Int := fun s => if fnd l s < k then some (fnd l s : Int) else none
def seenM (l : List Tk) (k : Nat) : ByteArray → Option Bool := fun s => if fnd l s < k then some true else none
theorem fndM_zero (l : List Tk) : fndM l 0 = fun _ => none := by funext s; simp [fndM]
theorem seenM_zero (l : List Tk) : seenM l 0 = fun _ => none := by funext s; simp [seenM]
theorem fnd_of {l : List Tk} {k : Nat} (hk : k < l.length) : fnd l (tkA l k).nm ≤ k := fnd_min hk rfl
theorem fndM_stay {l : List Tk} {k : Nat} (hk : k < l.length) (h : fnd l (tkA l k).nm < k) : fndM l (k + 1) = fndM l k := by
  funext s
  unfold fndM
  by_cases h1 : fnd l s < k
  · rw [if_pos h1, if_pos (by omega)]
  · rw [if_neg h1, if_neg]
    intro h2
    have h3 : fnd l s = k := by omega
    have h4 := fnd_at (l := l) (s := s) (by omega)
    rw [h3] at h4
    rw [h4, h3] at h
    omega
theorem fndM_next {l : List Tk} {k : Nat} (hk : k < l.length) (h : ¬ fnd l (tkA l k).nm < k) : fndM l (k + 1) = fun x => if x = (tkA l k).nm then some (k : Int) else fndM l k x := by
  funext s
  have h0 := fnd_of hk
  unfold fndM
  by_cases h1 : s = (tkA l k).nm
  · rw [if_pos h1, h1, if_pos (by omega)]; congr 2; omega
  · rw [if_neg h1]
    have h2 : fnd l s ≠ k := fun e => h1 (by
      have h4 := fnd_at (l := l) (s := s) (by omega)
      rw [e] at h4; exact h4.symm)
    by_cases h3 : fnd l s < k
    · rw [if_pos h3, if_pos (by omega)]
    · rw [if_neg h3, if_neg (by omega)]
theorem seenM_next {l : List Tk} {k : Nat} (hk : k < l.length) (h : ¬ fnd l (tkA l k).nm < k) : seenM l (k + 1) = fun x => if x = (tkA l k).nm then some true else seenM l k x := by
  funext s
  have h0 := fnd_of hk
  unfold seenM
  by_cases h1 : s = (tkA l k).nm
  · rw [if_pos h1, h1, if_pos (by omega)]
  · rw [if_neg h1]
    have h2 : fnd l s ≠ k := fun e => h1 (by
      have h4 := fnd_at (l := l) (s := s) (by omega)
      rw [e] at h4; exact h4.symm)
    by_cases h3 : fnd l s < k
    · rw [if_pos h3, if_pos (by omega)]
    · rw [if_neg h3, if_neg (by omega)]
theorem seenM_at {l : List Tk} {k : Nat} {s : ByteArray} : (seenM l k s).getD false = decide (fnd l s < k) := by
  unfold seenM; split <;> simp_all
theorem fndM_is {l : List Tk} {k : Nat} {s : ByteArray} : (fndM l k s).isSome = decide (fnd l s < k) := by
  unfold fndM; split <;> simp_all
theorem fndM_at {l : List Tk} {k : Nat} {s : ByteArray} (h : fnd l s < k) : fndM l k s = some (fnd l s : Int) := if_pos h
/-- Texts seen so far in a row. -/
def inM (ss : List ByteArray) (k : Nat) : ByteArray → Option Bool := fun s => if isIn (ss.take k) s = true then some true else none
theorem inM_zero (ss : List ByteArray) : inM ss 0 = fun _ => none := by funext s; simp [inM, isIn]
theorem inM_at {ss : List ByteArray} {k : Nat} {s : ByteArray} : (inM ss k s).getD false = isIn (ss.take k) s := by
  unfold inM; cases isIn (ss.take k) s <;> simp
theorem inM_next {ss : List ByteArray} {k : Nat} (hk : k < ss.length) : inM ss (k + 1) = fun x => if x = ss[k]?.getD ByteArray.empty then some true else inM ss k x := by
  funext s
  unfold inM
  have e : isIn (ss.take (k + 1)) s = (isIn (ss.take k) s || decide (ss[k] = s)) := by
    unfold isIn
    rw [List.take_succ_eq_append_getElem hk, List.any_append]; simp
  rw [e, List.getElem?_eq_getElem hk]
  show _ = if s = ss[k] then some true else _
  by_cases h1 : s = ss[k]
  · rw [if_pos h1]; simp [h1]
  · rw [if_neg h1]
    have : decide (ss[k] = s) = false := decide_eq_false fun e => h1 e.symm
    rw [this, Bool.or_false]
end Go.Proofs.YtmionebfepkolaaGreatDoor

namespace Go.Proofs.YtmionebfepkolaaGreatDoor

def gI (xs : List Int) (i : Nat) : Int := xs[i]?.getD 0
theorem gI_set_same {xs : List Int} {i : Nat} {v : Int} (h : i < xs.length) : gI (xs.set i v) i = v := by unfold gI; rw [List.getElem?_set_self h]; rfl
theorem gI_set_other {xs : List Int} {i j : Nat} {v : Int} (h : i ≠ j) : gI (xs.set i v) j = gI xs j := by unfold gI; rw [List.getElem?_set_ne h]
theorem gI_replicate (n i : Nat) : gI (List.replicate n 0) i = 0 := by
  unfold gI; rw [List.getElem?_replicate]; split <;> rfl
theorem gI_map {n : Nat} {f : Nat → Int} {i : Nat} (h : i < n) : gI ((List.range n).map f) i = f i := by unfold gI; simp [h]
theorem gI_ext {xs ys : List Int} (hl : xs.length = ys.length) (h : ∀ i, i < xs.length → gI xs i = gI ys i) : xs = ys := by
  apply List.ext_getElem hl
  intro i h1 h2
  have := h i h1
  unfold gI at this
  rw [List.getElem?_eq_getElem h1, List.getElem?_eq_getElem h2] at this
  exact this
def dyA (l : List Tk) (i : Nat) : Int := (tkA l i).dy

/-- Each stands behind those before it. -/
def topo (l : List Tk) (o : List Nat) : Prop := ∀ pre i post, o = pre ++ i :: post → i ∉ pre ∧ ∀ a ∈ afs l i, a ∈ pre
theorem topo_ordK (l : List Tk) : ∀ k, topo l (ordK l k)
  | 0 => fun pre i post h => by simp [ordK] at h
  | k + 1 => fun pre i post h => by
    cases hn : nxt l (ordK l k) with
    | none => rw [ordK_stay hn] at h; exact topo_ordK l k pre i post h
    | some j =>
      rw [ordK_next hn] at h
      have hr := rdy_iff.1 (nxt_some hn).2
      rcases List.eq_nil_or_concat post with rfl | ⟨post', x, rfl⟩
      · have := List.append_inj_left' h rfl
        have h2 := List.append_inj_right' h rfl
        cases h2
        rw [← this]
        exact hr
      · rw [List.concat_eq_append, show pre ++ i :: (post' ++ [x]) = (pre ++ i :: post') ++ [x] by simp] at h
        exact topo_ordK l k pre i post' (List.append_inj_left' h rfl)
theorem topo_ord (l : List Tk) : topo l (ord l) := topo_ordK l _
theorem ord_lt {l : List Tk} {i : Nat} (h : i ∈ ord l) : i < l.length := ordK_lt h
theorem ord_all {l : List Tk} (h : okP l) {i : Nat} (hi : i < l.length) : i ∈ ord l := by
  rcases Classical.em (i ∈ ord l) with h1 | h1
  · exact h1
  · exfalso
    have h2 : (i :: ord l).Nodup := List.nodup_cons.2 ⟨h1, ordK_nodup l _⟩
    have := nodup_len h2 (n := l.length) fun x hx => by
      rcases List.mem_cons.1 hx with rfl | hx
      · exact hi
      · exact ord_lt hx
    rw [List.length_cons, h.all] at this; omega
theorem afs_lt {l : List Tk} (h : okP l) {i a : Nat} (hi : i < l.length) (ha : a ∈ afs l i) : a < l.length := by
  unfold afs at ha
  obtain ⟨s, hs, rfl⟩ := List.mem_map.1 ha
  exact h.known i hi s hs
theorem afs_self {l : List Tk} (h : okP l) {i : Nat} (hi : i < l.length) : i ∉ afs l i := by
  obtain ⟨pre, post, e⟩ := List.append_of_mem (ord_all h hi)
  have := topo_ord l pre i post e
  exact fun ha => this.1 (this.2 i ha)
/-- What is taken holds what stands before it. -/
theorem topo_closed {l : List Tk} {pre post : List Nat} (h : topo l (pre ++ post)) {i : Nat} (hi : i ∈ pre) {a : Nat} (ha : a ∈ afs l i) : a ∈ pre := by
  obtain ⟨p1, p2, rfl⟩ := List.append_of_mem hi
  have := (h p1 i (p2 ++ post) (by simp)).2 a ha
  exact List.mem_append_left _ this
theorem topo_up {l : List Tk} {pre post : List Nat} (h : topo l (pre ++ post)) {j i : Nat} (hj : j ∈ pre ++ post) (hi : i ∈ post) (ha : i ∈ afs l j) : j ∈ post := by
  rcases List.mem_append.1 hj with h1 | h1
  · have h2 := topo_closed h h1 ha
    obtain ⟨p1, p2, rfl⟩ := List.append_of_mem hi
    have := (h (pre ++ p1) i p2 (by simp)).1
    exact absurd (List.mem_append_left _ h2) this
  · exact h1

/-! ### earliest days -/
def imax (a b : Int) : Int := if a < b then b else a
def imin (a b : Int) : Int := if b < a then b else a
theorem imax_le (a b : Int) : a ≤ imax a b ∧ b ≤ imax a b := by unfold imax; split <;> omega
theorem imin_le (a b : Int) : imin a b ≤ a ∧ imin a b ≤ b := by unfold imin; split <;> omega
def earS (l : List Tk) (i : Nat) (out : List Int) (a : Nat) : List Int := out.set i (imax (gI out i) (gI out a + dyA l a))
def earJ (l : List Tk) (i : Nat) (out : List Int) (j : Nat) : List Int := ((afs l i).take j).foldl (earS l i) out
def earI (l : List Tk) (out : List Int) (i : Nat) : List Int := (afs l i).foldl (earS l i) out
def earK (l : List Tk) (k : Nat) : List Int := ((ord l).take k).foldl (earI l) (List.replicate l.length 0)
def ear (l : List Tk) : List Int := (ord l).foldl (earI l) (List.replicate l.length 0)
theorem earJ_zero (l : List Tk) (i : Nat) (out : List Int) : earJ l i out 0 = out := rfl
theorem earJ_next {l : List Tk} {i : Nat} {out : List Int} {j : Nat} (h : j < (afs l i).length) : earJ l i out (j + 1) = earS l i (earJ l i out j) (afs l i)[j] := by
  unfold earJ; rw [List.take_succ_eq_append_getElem h, List.foldl_append]; rfl
theorem earJ_end {l : List Tk} {i : Nat} {out : List Int} {j : Nat} (h : (afs l i).length ≤ j) : earJ l i out j = earI l out i := by
  unfold earJ earI; rw [List.take_of_length_le h]
theorem earK_zero (l : List Tk) : earK l 0 = List.replicate l.length 0 := rfl
theorem earK_next {l : List Tk} {k : Nat} (h : k < (ord l).length) : earK l (k + 1) = earI l (earK l k) (ord l)[k] := by
  unfold earK; rw [List.take_succ_eq_append_getElem h, List.foldl_append]; rfl
theorem earK_end {l : List Tk} {k : Nat} (h : (ord l).length ≤ k) : earK l k = ear l := by
  unfold earK ear; rw [List.take_of_length_le h]
theorem earS_len (l : List Tk) (i : Nat) (out : List Int) (a : Nat) : (earS l i out a).length = out.length := by unfold earS; rw [List.length_set]
theorem foldl_len {f : List Int → Nat → List Int} (hf : ∀ o a, (f o a).length = o.length) : ∀ (xs : List Nat) (o : List Int), (xs.foldl f o).length = o.length
  | [], o => rfl
  | x :: xs, o => by rw [List.foldl_cons, foldl_len hf xs, hf]
theorem earJ_len (l : List Tk) (i : Nat) (out : List Int) (j : Nat) : (earJ l i out j).length = out.length := foldl_len (earS_len l i) _ _
theorem earI_len (l : List Tk) (out : List Int) (i : Nat) : (earI l out i).length = out.length := foldl_len (earS_len l i) _ _
theorem earK_len (l : List Tk) (k : Nat) : (earK l k).length = l.length := by unfold earK; rw [foldl_len (earI_len l), List.length_replicate]
theorem ear_len (l : List Tk) : (ear l).length = l.length := by unfold ear; rw [foldl_len (earI_len l), List.length_replicate]

/-- The greatest end of some tasks. -/
def mxs (l : List Tk) (out : List Int) (m : Int) (as : List Nat) : Int := as.foldl (fun m a => imax m (gI out a + dyA l a)) m
theorem mxs_congr {l : List Tk} {o o' : List Int} : ∀ {as : List Nat} {m : Int}, (∀ a ∈ as, gI o a = gI o' a) → mxs l o m as = mxs l o' m as
  | [], m, _ => rfl
  | a :: as, m, h => by
    show mxs l o (imax m (gI o a + dyA l a)) as = mxs l o' (imax m (gI o' a + dyA l a)) as
    rw [h a (List.mem_cons_self ..)]
    exact mxs_congr fun b hb => h b (List.mem_cons_of_mem _ hb)
theorem mxs_spec {l : List Tk} {o : List Int} : ∀ {as : List Nat} {m : Int}, m ≤ mxs l o m as ∧ (∀ a ∈ as, gI o a + dyA l a ≤ mxs l o m as) ∧ (mxs l o m as = m ∨ ∃ a ∈ as, mxs l o m as = gI o a + dyA l a)
  | [], m => ⟨Int.le_refl _, fun a h => (by cases h), .inl rfl⟩
  | a :: as, m => by
    obtain ⟨h1, h2, h3⟩ := mxs_spec (l := l) (o := o) (as := as) (m := imax m (gI o a + dyA l a))
    have h4 := imax_le m (gI o a + dyA l a)
    refine ⟨Int.le_trans h4.1 h1, fun b hb => ?_, ?_⟩
    · rcases List.mem_cons.1 hb with rfl | hb
      · exact Int.le_trans h4.2 h1
      · exact h2 b hb
    · rcases h3 with h3 | ⟨b, hb, h3⟩
      · show mxs l o (imax m (gI o a + dyA l a)) as = m ∨ _
        rw [h3]
        by_cases hm : m < gI o a + dyA l a
        · exact .inr ⟨a, List.mem_cons_self .., by show mxs l o (imax m (gI o a + dyA l a)) as = _; rw [h3]; unfold imax; rw [if_pos hm]⟩
        · left; unfold imax; rw [if_neg hm]
      · exact .inr ⟨b, List.mem_cons_of_mem _ hb, h3⟩
theorem earI_set {l : List Tk} {i : Nat} : ∀ {as : List Nat} {out : List Int}, i < out.length → i ∉ as → as.foldl (earS l i) out = out.set i (mxs l out (gI out i) as)
  | [], out, hi, _ => by
    show out = out.set i (gI out i)
    unfold gI; rw [List.getElem?_eq_getElem hi]; simp
  | a :: as, out, hi, h => by
    have ha : i ≠ a := fun e => h (e ▸ List.mem_cons_self ..)
    rw [List.foldl_cons, earI_set (by rw [earS_len]; exact hi) fun hh => h (List.mem_cons_of_mem _ hh)]
    unfold earS
    rw [List.set_set, gI_set_same hi]
    show _ = out.set i (mxs l out (imax (gI out i) (gI out a + dyA l a)) as)
    congr 1
    exact mxs_congr fun b hb => gI_set_other fun e => h (e ▸ List.mem_cons_of_mem _ hb)
/-- Days that are the least ones. -/
structure isEar (l : List Tk) (out : List Int) : Prop where
  len : out.length = l.length
  at_ : ∀ i, i < l.length → gI out i = mxs l out 0 (afs l i)
theorem ear_is {l : List Tk} (h : okP l) : isEar l (ear l) := by
  have key : ∀ (pre post : List Nat), ord l = pre ++ post → (∀ i, i ∉ pre → gI (pre.foldl (earI l) (List.replicate l.length 0)) i = 0) ∧ ∀ i ∈ pre, gI (pre.foldl (earI l) (List.replicate l.length 0)) i = mxs l (pre.foldl (earI l) (List.replicate l.length 0)) 0 (afs l i) := by
    intro pre
    induction hn : pre.length generalizing pre with
    | zero =>
      intro post _
      have : pre = [] := List.eq_nil_of_length_eq_zero hn
      subst this
      exact ⟨fun i _ => gI_replicate _ _, fun i hi => (by cases hi)⟩
    | succ n ih =>
      intro post e
      rcases List.eq_nil_or_concat pre with rfl | ⟨pre, i, rfl⟩
      · simp at hn
      · rw [List.concat_eq_append] at e hn ⊢
        have hn' : pre.length = n := by simpa using hn
        have e' : ord l = pre ++ i :: post := by rw [e]; simp
        obtain ⟨h1, h2⟩ := ih pre hn' (i :: post) e'
        have ht := topo_ord l pre i post e'
        have hil : i < l.length := ord_lt (by rw [e']; simp)
        rw [List.foldl_append, List.foldl_cons, List.foldl_nil]
        generalize hO : pre.foldl (earI l) (List.replicate l.length 0) = O at *
        have hOl : O.length = l.length := by rw [← hO, foldl_len (earI_len l), List.length_replicate]
        have hni := afs_self h hil
        have hE : earI l O i = O.set i (mxs l O (gI O i) (afs l i)) := earI_set (by omega) hni
        rw [hE, h1 i ht.1]
        refine ⟨fun j hj => ?_, fun j hj => ?_⟩
        · rw [gI_set_other (fun e => hj (by rw [e]; simp))]
          exact h1 j fun hh => hj (List.mem_append_left _ hh)
        · rcases List.mem_append.1 hj with hj | hj
          · rw [gI_set_other (i := i) (j := j) (fun e => ht.1 (by rw [e]; exact hj)), h2 j hj]
            have hc : topo l (pre ++ i :: post) := e' ▸ topo_ord l
            exact mxs_congr fun a ha => (gI_set_other (fun e : i = a => ht.1 (by rw [e]; exact topo_closed hc hj ha))).symm
          · rw [List.mem_singleton.1 hj, gI_set_same (by omega)]
            exact mxs_congr fun a ha => (gI_set_other (i := i) (j := a) (fun e => hni (by rw [← e] at ha; exact ha))).symm
  obtain ⟨_, h2⟩ := key (ord l) [] (by simp)
  exact ⟨ear_len l, fun i hi => h2 i (ord_all h hi)⟩

/-! ### bounds -/
def bdE (m : Int) (out : List Int) : Prop := ∀ i, 0 ≤ gI out i ∧ gI out i ≤ m
theorem bdE_mono {m m' : Int} {out : List Int} (h : bdE m out) (hm : m ≤ m') : bdE m' out := fun i => ⟨(h i).1, Int.le_trans (h i).2 hm⟩
theorem bdE_set {m : Int} {out : List Int} (h : bdE m out) {i : Nat} {v : Int} (h0 : 0 ≤ v) (h1 : v ≤ m) : bdE m (out.set i v) := fun j => by
  by_cases e : i = j
  · subst e
    by_cases hi : i < out.length
    · rw [gI_set_same hi]; exact ⟨h0, h1⟩
    · have := h i
      unfold gI at this ⊢
      rw [List.getElem?_eq_none (by rw [List.length_set]; omega)]
      rw [List.getElem?_eq_none (by omega)] at this
      exact this
  · rw [gI_set_other e]; exact h j
theorem dy_bd {l : List Tk} (h : okP l) {i : Nat} (hi : i < l.length) : 1 ≤ dyA l i ∧ dyA l i ≤ 1000 := (okTk_spec (h.each i hi)).2.1
theorem mn_bd {l : List Tk} (h : okP l) {i : Nat} (hi : i < l.length) : 1 ≤ (tkA l i).mn ∧ (tkA l i).mn ≤ 16 := (okTk_spec (h.each i hi)).2.2
theorem earS_bd {l : List Tk} (h : okP l) {m : Int} {out : List Int} (hb : bdE m out) {i a : Nat} (ha : a < l.length) : bdE (m + 1000) (earS l i out a) := by
  have h1 := dy_bd h ha
  have h2 := hb i
  have h3 := hb a
  refine bdE_set (bdE_mono hb (by omega)) ?_ ?_ <;> (unfold imax; split <;> omega)
theorem afs_len (l : List Tk) (i : Nat) : (afs l i).length = (tkA l i).af.length := List.length_map ..
theorem earJ_bd {l : List Tk} (h : okP l) {m : Int} {out : List Int} (hb : bdE m out) {i : Nat} (hi : i < l.length) : ∀ j : Nat, bdE (m + 1000 * j) (earJ l i out j)
  | 0 => by rw [earJ_zero]; simpa using hb
  | j + 1 => by
    have h1 := earJ_bd h hb hi j
    by_cases hj : j < (afs l i).length
    · rw [earJ_next hj]
      have := earS_bd h h1 (i := i) (afs_lt h hi (List.getElem_mem hj))
      exact bdE_mono this (by push_cast; omega)
    · rw [earJ_end (by omega)]
      rw [earJ_end (by omega)] at h1
      exact bdE_mono h1 (by push_cast; omega)
theorem earK_bd {l : List Tk} (h : okP l) : ∀ k : Nat, bdE (10000 * k) (earK l k)
  | 0 => fun i => by rw [earK_zero, gI_replicate]; simp
  | k + 1 => by
    have h1 := earK_bd h k
    by_cases hk : k < (ord l).length
    · have hi := ord_lt (List.getElem_mem hk)
      rw [earK_next hk]
      have := earJ_bd h h1 hi (afs l (ord l)[k]).length
      rw [earJ_end (Nat.le_refl _)] at this
      have h2 := h.few _ hi
      rw [← afs_len] at h2
      exact bdE_mono this (by push_cast; omega)
    · rw [earK_end (by omega)]
      rw [earK_end (by omega)] at h1
      exact bdE_mono h1 (by push_cast; omega)
theorem earKJ_bd {l : List Tk} (h : okP l) {k j : Nat} (hk : k < (ord l).length) (hj : j ≤ 10) : bdE 300000 (earJ l (ord l)[k] (earK l k) j) := by
  have h1 := earJ_bd h (earK_bd h k) (ord_lt (List.getElem_mem hk)) j
  have := h.all; have := h.len
  exact bdE_mono h1 (by omega)
end Go.Proofs.YtmionebfepkolaaGreatDoor

namespace Go.Proofs.YtmionebfepkolaaGreatDoor

/-- The day after the last one. -/
def endsV (l : List Tk) (days : List Int) : Int := mxs l days 0 (List.range l.length)
theorem mxs_next (l : List Tk) (days : List Int) (k : Nat) : mxs l days 0 (List.range (k + 1)) = imax (mxs l days 0 (List.range k)) (gI days k + dyA l k) := by
  unfold mxs; rw [List.range_succ, List.foldl_append]; rfl
def lenV (l : List Tk) : Int := endsV l (ear l)
theorem ends_spec (l : List Tk) (days : List Int) : 0 ≤ endsV l days ∧ (∀ i, i < l.length → gI days i + dyA l i ≤ endsV l days) ∧ (endsV l days = 0 ∨ ∃ i, i < l.length ∧ endsV l days = gI days i + dyA l i) := by
  obtain ⟨h1, h2, h3⟩ := mxs_spec (l := l) (o := days) (as := List.range l.length) (m := 0)
  refine ⟨h1, fun i hi => h2 i (List.mem_range.2 hi), ?_⟩
  rcases h3 with h3 | ⟨i, hi, h3⟩
  · exact .inl h3
  · exact .inr ⟨i, List.mem_range.1 hi, h3⟩
theorem ear_bd {l : List Tk} (h : okP l) : bdE 200000 (ear l) := by
  have h1 := earK_bd h (ord l).length
  rw [earK_end (Nat.le_refl _)] at h1
  have := h.all; have := h.len
  exact bdE_mono h1 (by omega)
theorem mxs_bd {l : List Tk} (h : okP l) {days : List Int} {m : Int} (hb : bdE m days) : ∀ k, k ≤ l.length → 0 ≤ mxs l days 0 (List.range k) ∧ mxs l days 0 (List.range k) ≤ m + 1000
  | 0, _ => by
    have := hb 0
    simp [mxs]; omega
  | k + 1, hk => by
    have h1 := mxs_bd h hb k (by omega)
    have h2 := hb k
    have h3 := dy_bd h (i := k) (by omega)
    rw [mxs_next]; unfold imax; split <;> omega
theorem lenV_bd {l : List Tk} (h : okP l) : 0 ≤ lenV l ∧ lenV l ≤ 201000 := mxs_bd h (ear_bd h) _ (Nat.le_refl _)

/-! ### the program's latest days -/
def latS (l : List Tk) (i : Nat) (out : List Int) (a : Nat) : List Int := out.set a (imin (gI out a) (gI out i - dyA l a))
def latJ (l : List Tk) (i : Nat) (out : List Int) (j : Nat) : List Int := ((afs l i).take j).foldl (latS l i) out
def latI (l : List Tk) (out : List Int) (i : Nat) : List Int := (afs l i).foldl (latS l i) out
def lat0 (l : List Tk) : List Int := (List.range l.length).map fun i => lenV l - dyA l i
def latK (l : List Tk) (k : Nat) : List Int := ((ord l).reverse.take k).foldl (latI l) (lat0 l)
def latP (l : List Tk) : List Int := (ord l).reverse.foldl (latI l) (lat0 l)
theorem latS_len (l : List Tk) (i : Nat) (out : List Int) (a : Nat) : (latS l i out a).length = out.length := by unfold latS; rw [List.length_set]
theorem latJ_len (l : List Tk) (i : Nat) (out : List Int) (j : Nat) : (latJ l i out j).length = out.length := foldl_len (latS_len l i) _ _
theorem latI_len (l : List Tk) (out : List Int) (i : Nat) : (latI l out i).length = out.length := foldl_len (latS_len l i) _ _
theorem lat0_len (l : List Tk) : (lat0 l).length = l.length := by unfold lat0; rw [List.length_map, List.length_range]
theorem latK_len (l : List Tk) (k : Nat) : (latK l k).length = l.length := by unfold latK; rw [foldl_len (latI_len l), lat0_len]
theorem latP_len (l : List Tk) : (latP l).length = l.length := by unfold latP; rw [foldl_len (latI_len l), lat0_len]
theorem latJ_next {l : List Tk} {i : Nat} {out : List Int} {j : Nat} (h : j < (afs l i).length) : latJ l i out (j + 1) = latS l i (latJ l i out j) (afs l i)[j] := by
  unfold latJ; rw [List.take_succ_eq_append_getElem h, List.foldl_append]; rfl
theorem latJ_end {l : List Tk} {i : Nat} {out : List Int} {j : Nat} (h : (afs l i).length ≤ j) : latJ l i out j = latI l out i := by
  unfold latJ latI; rw [List.take_of_length_le h]
theorem latK_next {l : List Tk} {k : Nat} (h : k < (ord l).reverse.length) : latK l (k + 1) = latI l (latK l k) (ord l).reverse[k] := by
  unfold latK; rw [List.take_succ_eq_append_getElem h, List.foldl_append]; rfl
theorem latK_end {l : List Tk} {k : Nat} (h : (ord l).length ≤ k) : latK l k = latP l := by
  unfold latK latP; rw [List.take_of_length_le (by rw [List.length_reverse]; exact h)]
theorem latI_get {l : List Tk} {i : Nat} {b : Nat} : ∀ {as : List Nat} {out : List Int}, i ∉ as → (∀ a ∈ as, a < out.length) → gI (as.foldl (latS l i) out) b = if b ∈ as then imin (gI out b) (gI out i - dyA l b) else gI out b
  | [], out, _, _ => by simp
  | a :: as, out, h, hl => by
    have ha : a ≠ i := fun e => h (e ▸ List.mem_cons_self ..)
    rw [List.foldl_cons, latI_get (fun hh => h (List.mem_cons_of_mem _ hh)) fun c hc => by rw [latS_len]; exact hl c (List.mem_cons_of_mem _ hc)]
    unfold latS
    rw [gI_set_other ha]
    have hal := hl a (List.mem_cons_self ..)
    by_cases e : a = b
    · subst e
      rw [gI_set_same hal, if_pos (List.mem_cons_self ..)]
      split
      · unfold imin; repeat' split
        all_goals omega
      · rfl
    · rw [gI_set_other e]
      by_cases hb : b ∈ as
      · rw [if_pos hb, if_pos (List.mem_cons_of_mem _ hb)]
      · rw [if_neg hb, if_neg (by
          intro hh
          rcases List.mem_cons.1 hh with rfl | hh
          · exact e rfl
          · exact hb hh)]
/-- Days that are the greatest ones. -/
structure isLat (l : List Tk) (out : List Int) : Prop where
  len : out.length = l.length
  le : ∀ i, i < l.length → gI out i + dyA l i ≤ lenV l
  lt : ∀ i, i < l.length → ∀ j, j < l.length → i ∈ afs l j → gI out i + dyA l i ≤ gI out j
  some : ∀ i, i < l.length → gI out i + dyA l i = lenV l ∨ ∃ j, j < l.length ∧ i ∈ afs l j ∧ gI out i + dyA l i = gI out j
theorem latP_is {l : List Tk} (h : okP l) : isLat l (latP l) := by
  have key : ∀ (post pre : List Nat), ord l = pre ++ post → (post.reverse.foldl (latI l) (lat0 l)).length = l.length ∧ ∀ a, a < l.length →
      gI (post.reverse.foldl (latI l) (lat0 l)) a + dyA l a ≤ lenV l ∧ (∀ j ∈ post, a ∈ afs l j → gI (post.reverse.foldl (latI l) (lat0 l)) a + dyA l a ≤ gI (post.reverse.foldl (latI l) (lat0 l)) j) ∧
      (gI (post.reverse.foldl (latI l) (lat0 l)) a + dyA l a = lenV l ∨ ∃ j ∈ post, a ∈ afs l j ∧ gI (post.reverse.foldl (latI l) (lat0 l)) a + dyA l a = gI (post.reverse.foldl (latI l) (lat0 l)) j) := by
    intro post
    induction post with
    | nil =>
      intro pre _
      refine ⟨lat0_len l, fun a ha => ?_⟩
      have : gI (lat0 l) a = lenV l - dyA l a := gI_map ha
      show gI (lat0 l) a + dyA l a ≤ _ ∧ _ ∧ (gI (lat0 l) a + dyA l a = _ ∨ _)
      rw [this]
      exact ⟨by omega, fun j hj => (by cases hj), .inl (by omega)⟩
    | cons i post ih =>
      intro pre e
      obtain ⟨hl, hk⟩ := ih (pre ++ [i]) (by rw [e]; simp)
      have ht := topo_ord l pre i post e
      have hil : i < l.length := ord_lt (by rw [e]; simp)
      have hni := afs_self h hil
      have hT : topo l (pre ++ i :: post) := e ▸ topo_ord l
      have hnd : (pre ++ i :: post).Nodup := e ▸ ordK_nodup l _
      have hpost : ∀ j ∈ post, j ∉ pre := fun j hj hp => by
        have := (List.nodup_append.1 hnd).2.2 j hp j (List.mem_cons_of_mem _ hj)
        exact this rfl
      have hip : i ∉ post := (List.nodup_cons.1 (List.nodup_append.1 hnd).2.1).1
      rw [List.reverse_cons, List.foldl_append, List.foldl_cons, List.foldl_nil]
      generalize post.reverse.foldl (latI l) (lat0 l) = O at *
      have hG : ∀ b, gI (latI l O i) b = if b ∈ afs l i then imin (gI O b) (gI O i - dyA l b) else gI O b := fun b => latI_get hni fun a ha => by rw [hl]; exact afs_lt h hil ha
      have hGi : gI (latI l O i) i = gI O i := by rw [hG, if_neg hni]
      have hGp : ∀ j ∈ post, gI (latI l O i) j = gI O j := fun j hj => by
        rw [hG, if_neg fun hh => hpost j hj (ht.2 j hh)]
      refine ⟨by rw [latI_len]; exact hl, fun a ha => ?_⟩
      obtain ⟨k1, k2, k3⟩ := hk a ha
      by_cases hai : a ∈ afs l i
      · have hGa : gI (latI l O i) a = imin (gI O a) (gI O i - dyA l a) := by rw [hG, if_pos hai]
        have hm := imin_le (gI O a) (gI O i - dyA l a)
        refine ⟨by rw [hGa]; omega, fun j hj haj => ?_, ?_⟩
        · rcases List.mem_cons.1 hj with rfl | hj
          · rw [hGi, hGa]; omega
          · rw [hGp j hj, hGa]
            have := k2 j hj haj
            omega
        · rw [hGa]
          by_cases hc : gI O i - dyA l a < gI O a
          · exact .inr ⟨i, List.mem_cons_self .., hai, by rw [hGi]; unfold imin; rw [if_pos hc]; omega⟩
          · unfold imin; rw [if_neg hc]
            rcases k3 with k3 | ⟨j, hj, hja, k3⟩
            · exact .inl k3
            · exact .inr ⟨j, List.mem_cons_of_mem _ hj, hja, by rw [hGp j hj]; exact k3⟩
      · have hGa : gI (latI l O i) a = gI O a := by rw [hG, if_neg hai]
        rw [hGa]
        refine ⟨k1, fun j hj haj => ?_, ?_⟩
        · rcases List.mem_cons.1 hj with rfl | hj
          · exact absurd haj hai
          · rw [hGp j hj]; exact k2 j hj haj
        · rcases k3 with k3 | ⟨j, hj, hja, k3⟩
          · exact .inl k3
          · exact .inr ⟨j, List.mem_cons_of_mem _ hj, hja, by rw [hGp j hj]; exact k3⟩
  obtain ⟨hl, hk⟩ := key (ord l) [] (by simp)
  refine ⟨hl, fun i hi => (hk i hi).1, fun i hi j hj hij => (hk i hi).2.1 j (ord_all h hj) hij, fun i hi => ?_⟩
  rcases (hk i hi).2.2 with h1 | ⟨j, hj, h1⟩
  · exact .inl h1
  · exact .inr ⟨j, ord_lt hj, h1⟩
/-- Bounds on both sides. -/
def bdL (m : Int) (out : List Int) : Prop := ∀ i, -m ≤ gI out i ∧ gI out i ≤ m
theorem bdL_mono {m m' : Int} {out : List Int} (h : bdL m out) (hm : m ≤ m') : bdL m' out := fun i => ⟨by have := (h i).1; omega, Int.le_trans (h i).2 hm⟩
theorem bdL_set {m : Int} {out : List Int} (h : bdL m out) {i : Nat} {v : Int} (h0 : -m ≤ v) (h1 : v ≤ m) : bdL m (out.set i v) := fun j => by
  by_cases e : i = j
  · subst e
    by_cases hi : i < out.length
    · rw [gI_set_same hi]; exact ⟨h0, h1⟩
    · have := h i
      unfold gI at this ⊢
      rw [List.getElem?_eq_none (by rw [List.length_set]; omega)]
      rw [List.getElem?_eq_none (by omega)] at this
      exact this
  · rw [gI_set_other e]; exact h j
theorem latS_bd {l : List Tk} (h : okP l) {m : Int} {out : List Int} (hb : bdL m out) {i a : Nat} (ha : a < l.length) : bdL (m + 1000) (latS l i out a) := by
  have h1 := dy_bd h ha
  have h2 := hb i
  have h3 := hb a
  refine bdL_set (bdL_mono hb (by omega)) ?_ ?_ <;> (unfold imin; split <;> omega)
theorem latJ_bd {l : List Tk} (h : okP l) {m : Int} {out : List Int} (hb : bdL m out) {i : Nat} (hi : i < l.length) : ∀ j : Nat, bdL (m + 1000 * j) (latJ l i out j)
  | 0 => by show bdL _ out; simpa using hb
  | j + 1 => by
    have h1 := latJ_bd h hb hi j
    by_cases hj : j < (afs l i).length
    · rw [latJ_next hj]
      have := latS_bd h h1 (i := i) (afs_lt h hi (List.getElem_mem hj))
      exact bdL_mono this (by push_cast; omega)
    · rw [latJ_end (by omega)]
      rw [latJ_end (by omega)] at h1
      exact bdL_mono h1 (by push_cast; omega)
theorem lat0_bd {l : List Tk} (h : okP l) : bdL 202000 (lat0 l) := fun i => by
  have h1 := lenV_bd h
  by_cases hi : i < l.length
  · have h2 := dy_bd h hi
    have : gI (lat0 l) i = lenV l - dyA l i := gI_map hi
    rw [this]; omega
  · have : gI (lat0 l) i = 0 := by unfold gI; rw [List.getElem?_eq_none (by rw [lat0_len]; omega)]; rfl
    rw [this]; omega
theorem latK_bd {l : List Tk} (h : okP l) : ∀ k : Nat, bdL (202000 + 10000 * k) (latK l k)
  | 0 => by show bdL _ (lat0 l); simpa using lat0_bd h
  | k + 1 => by
    have h1 := latK_bd h k
    by_cases hk : k < (ord l).reverse.length
    · have hi := ord_lt (l := l) (i := (ord l).reverse[k]) (List.mem_reverse.1 (List.getElem_mem hk))
      rw [latK_next hk]
      have := latJ_bd h h1 hi (afs l (ord l).reverse[k]).length
      rw [latJ_end (Nat.le_refl _)] at this
      have h2 := h.few _ hi
      rw [← afs_len] at h2
      exact bdL_mono this (by push_cast; omega)
    · rw [List.length_reverse] at hk
      rw [latK_end (by omega)]
      rw [latK_end (by omega)] at h1
      exact bdL_mono h1 (by push_cast; omega)
theorem latKJ_bd {l : List Tk} (h : okP l) {k j : Nat} (hk : k < (ord l).reverse.length) (hj : j ≤ 10) : bdL 500000 (latJ l (ord l).reverse[k] (latK l k) j) := by
  have h1 := latJ_bd h (latK_bd h k) (ord_lt (List.mem_reverse.1 (List.getElem_mem hk))) j
  have := h.all; have := h.len
  rw [List.length_reverse] at hk
  exact bdL_mono h1 (by omega)

/-! ### the reference's latest days -/
def endR (l : List Tk) (out : List Int) (i : Nat) (j : Nat) : Int := (List.range j).foldl (fun m j => if (afs l j).contains i && decide (gI out j < m) then gI out j else m) (lenV l)
theorem endR_next (l : List Tk) (out : List Int) (i j : Nat) : endR l out i (j + 1) = if (afs l j).contains i && decide (gI out j < endR l out i j) then gI out j else endR l out i j := by
  unfold endR; rw [List.range_succ, List.foldl_append]; rfl
def latRI (l : List Tk) (out : List Int) (i : Nat) : List Int := out.set i (endR l out i l.length - dyA l i)
def latRK (l : List Tk) (k : Nat) : List Int := ((ord l).reverse.take k).foldl (latRI l) (List.replicate l.length 0)
def latR (l : List Tk) : List Int := (ord l).reverse.foldl (latRI l) (List.replicate l.length 0)
theorem latRI_len (l : List Tk) (out : List Int) (i : Nat) : (latRI l out i).length = out.length := by unfold latRI; rw [List.length_set]
theorem latRK_len (l : List Tk) (k : Nat) : (latRK l k).length = l.length := by unfold latRK; rw [foldl_len (latRI_len l), List.length_replicate]
theorem latR_len (l : List Tk) : (latR l).length = l.length := by unfold latR; rw [foldl_len (latRI_len l), List.length_replicate]
theorem latRK_next {l : List Tk} {k : Nat} (h : k < (ord l).reverse.length) : latRK l (k + 1) = latRI l (latRK l k) (ord l).reverse[k] := by
  unfold latRK; rw [List.take_succ_eq_append_getElem h, List.foldl_append]; rfl
theorem latRK_end {l : List Tk} {k : Nat} (h : (ord l).length ≤ k) : latRK l k = latR l := by
  unfold latRK latR; rw [List.take_of_length_le (by rw [List.length_reverse]; exact h)]
theorem endR_spec (l : List Tk) (out : List Int) (i : Nat) : ∀ j, endR l out i j ≤ lenV l ∧ (∀ q, q < j → i ∈ afs l q → endR l out i j ≤ gI out q) ∧ (endR l out i j = lenV l ∨ ∃ q, q < j ∧ i ∈ afs l q ∧ endR l out i j = gI out q)
  | 0 => ⟨Int.le_refl _, fun q hq => by omega, .inl rfl⟩
  | j + 1 => by
    obtain ⟨h1, h2, h3⟩ := endR_spec l out i j
    rw [endR_next]
    split
    · rename_i hc
      simp only [Bool.and_eq_true, List.contains_iff_mem, decide_eq_true_eq] at hc
      refine ⟨by omega, fun q hq hi => ?_, .inr ⟨j, by omega, hc.1, rfl⟩⟩
      by_cases e : q = j
      · subst e; exact Int.le_refl _
      · have := h2 q (by omega) hi; omega
    · rename_i hc
      simp only [Bool.and_eq_true, List.contains_iff_mem, decide_eq_true_eq, not_and] at hc
      refine ⟨h1, fun q hq hi => ?_, ?_⟩
      · by_cases e : q = j
        · subst e; have := hc hi; omega
        · exact h2 q (by omega) hi
      · rcases h3 with h3 | ⟨q, hq, h3⟩
        · exact .inl h3
        · exact .inr ⟨q, by omega, h3⟩
theorem latR_is {l : List Tk} (h : okP l) : isLat l (latR l) := by
  have key : ∀ (post pre : List Nat), ord l = pre ++ post → (post.reverse.foldl (latRI l) (List.replicate l.length 0)).length = l.length ∧ ∀ a ∈ post,
      gI (post.reverse.foldl (latRI l) (List.replicate l.length 0)) a + dyA l a ≤ lenV l ∧ (∀ j, j < l.length → a ∈ afs l j → gI (post.reverse.foldl (latRI l) (List.replicate l.length 0)) a + dyA l a ≤ gI (post.reverse.foldl (latRI l) (List.replicate l.length 0)) j) ∧
      (gI (post.reverse.foldl (latRI l) (List.replicate l.length 0)) a + dyA l a = lenV l ∨ ∃ j, j < l.length ∧ a ∈ afs l j ∧ gI (post.reverse.foldl (latRI l) (List.replicate l.length 0)) a + dyA l a = gI (post.reverse.foldl (latRI l) (List.replicate l.length 0)) j) := by
    intro post
    induction post with
    | nil => intro pre _; exact ⟨by simp, fun a ha => (by cases ha)⟩
    | cons i post ih =>
      intro pre e
      obtain ⟨hl, hk⟩ := ih (pre ++ [i]) (by rw [e]; simp)
      have hil : i < l.length := ord_lt (by rw [e]; simp)
      have hni := afs_self h hil
      have hT : topo l ((pre ++ [i]) ++ post) := by rw [show (pre ++ [i]) ++ post = pre ++ i :: post by simp]; exact e ▸ topo_ord l
      have hT' : topo l (pre ++ (i :: post)) := e ▸ topo_ord l
      have hnd : (pre ++ i :: post).Nodup := e ▸ ordK_nodup l _
      have hip : i ∉ post := (List.nodup_cons.1 (List.nodup_append.1 hnd).2.1).1
      have hall : ∀ j, j < l.length → j ∈ pre ++ i :: post := fun j hj => e ▸ ord_all h hj
      rw [List.reverse_cons, List.foldl_append, List.foldl_cons, List.foldl_nil]
      generalize post.reverse.foldl (latRI l) (List.replicate l.length 0) = O at *
      obtain ⟨s1, s2, s3⟩ := endR_spec l O i l.length
      have hGi : gI (latRI l O i) i = endR l O i l.length - dyA l i := gI_set_same (by omega)
      have hGo : ∀ j, j ≠ i → gI (latRI l O i) j = gI O j := fun j hj => gI_set_other (Ne.symm hj)
      refine ⟨by rw [latRI_len]; exact hl, fun a ha => ?_⟩
      have hsucc : ∀ j, j < l.length → a ∈ afs l j → j ≠ i := by
        intro j hj haj ej
        subst ej
        rcases List.mem_cons.1 ha with rfl | ha'
        · exact hni haj
        · have := topo_up hT (j := j) (i := a) (by simp) ha' haj
          exact hip this
      rcases List.mem_cons.1 ha with rfl | ha'
      · rw [hGi]
        refine ⟨by omega, fun j hj haj => ?_, ?_⟩
        · rw [hGo j (hsucc j hj haj)]; have := s2 j hj haj; omega
        · rcases s3 with s3 | ⟨j, hj, haj, s3⟩
          · exact .inl (by omega)
          · exact .inr ⟨j, hj, haj, by rw [hGo j (hsucc j hj haj)]; omega⟩
      · obtain ⟨k1, k2, k3⟩ := hk a ha'
        have hai : a ≠ i := fun e => hip (e ▸ ha')
        rw [hGo a hai]
        refine ⟨k1, fun j hj haj => by rw [hGo j (hsucc j hj haj)]; exact k2 j hj haj, ?_⟩
        rcases k3 with k3 | ⟨j, hj, haj, k3⟩
        · exact .inl k3
        · exact .inr ⟨j, hj, haj, by rw [hGo j (hsucc j hj haj)]; exact k3⟩
  obtain ⟨hl, hk⟩ := key (ord l) [] (by simp)
  exact ⟨hl, fun i hi => (hk i (ord_all h hi)).1, fun i hi => (hk i (ord_all h hi)).2.1, fun i hi => (hk i (ord_all h hi)).2.2⟩
/-- There is one such list. -/
theorem lat_one {l : List Tk} (h : okP l) {x y : List Int} (hx : isLat l x) (hy : isLat l y) : x = y := by
  have half : ∀ {x y : List Int}, isLat l x → isLat l y → ∀ (post pre : List Nat), ord l = pre ++ post → ∀ i ∈ post, gI x i ≤ gI y i := by
    intro x y hx hy post
    induction post with
    | nil => intro pre _ i hi; cases hi
    | cons i post ih =>
      intro pre e
      have hk := ih (pre ++ [i]) (by rw [e]; simp)
      have hil : i < l.length := ord_lt (by rw [e]; simp)
      have hT' : topo l (pre ++ (i :: post)) := e ▸ topo_ord l
      have hall : ∀ j, j < l.length → j ∈ pre ++ i :: post := fun j hj => e ▸ ord_all h hj
      intro j hj
      rcases List.mem_cons.1 hj with rfl | hj
      · rcases hy.some j hil with h1 | ⟨q, hq, hjq, h1⟩
        · have := hx.le j hil; omega
        · have h2 := hx.lt j hil q hq hjq
          have h3 : q ∈ j :: post := topo_up hT' (hall q hq) (List.mem_cons_self ..) hjq
          have h4 : q ∈ post := by
            rcases List.mem_cons.1 h3 with rfl | h3
            · exact absurd hjq (afs_self h hil)
            · exact h3
          have := hk q h4
          omega
      · exact hk j hj
  refine gI_ext (by rw [hx.len, hy.len]) fun i hi => ?_
  rw [hx.len] at hi
  have h1 := half hx hy (ord l) [] (by simp) i (ord_all h hi)
  have h2 := half hy hx (ord l) [] (by simp) i (ord_all h hi)
  omega
theorem lat_eq {l : List Tk} (h : okP l) : latP l = latR l := lat_one h (latP_is h) (latR_is h)
theorem endR_bd {l : List Tk} (h : okP l) {out : List Int} {m : Int} (hm : 201000 ≤ m) (hb : bdL m out) (i : Nat) : ∀ j, -m ≤ endR l out i j ∧ endR l out i j ≤ 201000
  | 0 => by have := lenV_bd h; show -m ≤ lenV l ∧ lenV l ≤ _; omega
  | j + 1 => by
    have h1 := endR_bd h hm hb i j
    have h2 := hb j
    rw [endR_next]; split
    · rename_i hc
      simp only [Bool.and_eq_true, decide_eq_true_eq] at hc
      omega
    · exact h1
theorem latRK_bd {l : List Tk} (h : okP l) : ∀ k : Nat, bdL (202000 + 1000 * k) (latRK l k)
  | 0 => fun i => by show _ ≤ gI (List.replicate l.length 0) i ∧ gI (List.replicate l.length 0) i ≤ _; rw [gI_replicate]; simp
  | k + 1 => by
    have h1 := latRK_bd h k
    by_cases hk : k < (ord l).reverse.length
    · have hi := ord_lt (l := l) (i := (ord l).reverse[k]) (List.mem_reverse.1 (List.getElem_mem hk))
      rw [latRK_next hk]
      have h2 := dy_bd h hi
      have h3 := endR_bd h (by omega) h1 (ord l).reverse[k] l.length
      refine bdL_set (bdL_mono h1 (by push_cast; omega)) ?_ ?_ <;> (push_cast; omega)
    · rw [List.length_reverse] at hk
      rw [latRK_end (by omega)]
      rw [latRK_end (by omega)] at h1
      exact bdL_mono h1 (by push_cast; omega)
end Go.Proofs.YtmionebfepkolaaGreatDoor

namespace Go.Proofs.YtmionebfepkolaaGreatDoor

theorem ord_ind {l : List Tk} (h : okP l) {P : Nat → Prop} (step : ∀ i, i < l.length → (∀ a ∈ afs l i, P a) → P i) : ∀ i, i < l.length → P i := by
  have key : ∀ (n : Nat) (pre post : List Nat), pre.length = n → ord l = pre ++ post → ∀ i ∈ pre, P i := by
    intro n
    induction n with
    | zero => intro pre post hn _ i hi; rw [List.eq_nil_of_length_eq_zero hn] at hi; cases hi
    | succ n ih =>
      intro pre post hn e
      rcases List.eq_nil_or_concat pre with rfl | ⟨pre, j, rfl⟩
      · simp at hn
      · rw [List.concat_eq_append] at e hn ⊢
        have e' : ord l = pre ++ j :: post := by rw [e]; simp
        have hp := ih pre (j :: post) (by simpa using hn) e'
        intro i hi
        rcases List.mem_append.1 hi with hi | hi
        · exact hp i hi
        · rw [List.mem_singleton.1 hi]
          exact step j (ord_lt (by rw [e']; simp)) fun a ha => hp a ((topo_ord l pre j post e').2 a ha)
  exact fun i hi => key _ (ord l) [] rfl (by simp) i (ord_all h hi)
theorem ord_ind_up {l : List Tk} (h : okP l) {P : Nat → Prop} (step : ∀ i, i < l.length → (∀ j, j < l.length → i ∈ afs l j → P j) → P i) : ∀ i, i < l.length → P i := by
  have key : ∀ (post pre : List Nat), ord l = pre ++ post → ∀ i ∈ post, P i := by
    intro post
    induction post with
    | nil => intro pre _ i hi; cases hi
    | cons i post ih =>
      intro pre e
      have hk := ih (pre ++ [i]) (by rw [e]; simp)
      have hil : i < l.length := ord_lt (by rw [e]; simp)
      have hT' : topo l (pre ++ (i :: post)) := e ▸ topo_ord l
      intro j hj
      rcases List.mem_cons.1 hj with rfl | hj
      · refine step j hil fun q hq hjq => ?_
        have h3 : q ∈ j :: post := topo_up hT' (e ▸ ord_all h hq) (List.mem_cons_self ..) hjq
        rcases List.mem_cons.1 h3 with rfl | h3
        · exact absurd hjq (afs_self h hil)
        · exact hk q h3
      · exact hk j hj
  exact fun i hi => key (ord l) [] (by simp) i (ord_all h hi)

/-! ### earliest and latest days beside each other -/
theorem ear_le {l : List Tk} (h : okP l) {i a : Nat} (hi : i < l.length) (ha : a ∈ afs l i) : gI (ear l) a + dyA l a ≤ gI (ear l) i := by
  rw [(ear_is h).at_ i hi]; exact (mxs_spec (l := l) (o := ear l) (as := afs l i) (m := 0)).2.1 a ha
theorem ear_some {l : List Tk} (h : okP l) {i : Nat} (hi : i < l.length) : gI (ear l) i = 0 ∨ ∃ a ∈ afs l i, gI (ear l) i = gI (ear l) a + dyA l a := by
  rw [(ear_is h).at_ i hi]; exact (mxs_spec (l := l) (o := ear l) (as := afs l i) (m := 0)).2.2
theorem ear_pos {l : List Tk} (h : okP l) (i : Nat) : 0 ≤ gI (ear l) i := (ear_bd h i).1
theorem ear_end {l : List Tk} {i : Nat} (hi : i < l.length) : gI (ear l) i + dyA l i ≤ lenV l := (ends_spec l (ear l)).2.1 i hi
theorem ear_lat {l : List Tk} (h : okP l) : ∀ i, i < l.length → gI (ear l) i ≤ gI (latP l) i :=
  ord_ind_up h fun i hi ih => by
    have hL := latP_is h
    rcases hL.some i hi with h1 | ⟨j, hj, hij, h1⟩
    · have := ear_end hi; omega
    · have h2 := ih j hj hij
      have h3 := ear_le h hj hij
      omega
/-- What comes from a task on. -/
def tlV (l : List Tk) (i : Nat) : Int := lenV l - gI (latP l) i
theorem tlV_pos {l : List Tk} (h : okP l) {i : Nat} (hi : i < l.length) : dyA l i ≤ tlV l i ∧ 1 ≤ tlV l i := by
  have h1 := (latP_is h).le i hi
  have h2 := dy_bd h hi
  unfold tlV; omega
/-- The first task of the plan that lies in no slack. -/
theorem lat_zero {l : List Tk} (h : okP l) : ∃ i, i < l.length ∧ gI (latP l) i = 0 := by
  have hL := latP_is h
  have key : ∀ i, i < l.length → gI (latP l) i = gI (ear l) i → ∃ i, i < l.length ∧ gI (latP l) i = 0 := by
    refine ord_ind h fun i hi ih he => ?_
    rcases ear_some h hi with h1 | ⟨a, ha, h1⟩
    · exact ⟨i, hi, by omega⟩
    · have hal := afs_lt h hi ha
      have h2 := hL.lt a hal i hi ha
      have h3 := ear_lat h a hal
      exact ih a ha (by omega)
  obtain ⟨_, _, h3⟩ := ends_spec l (ear l)
  rcases h3 with h3 | ⟨i, hi, h3⟩
  · exfalso
    have h4 := (dy_bd h h.pos).1
    have h5 := ear_end (l := l) h.pos
    have h6 := ear_pos h 0
    have : lenV l = 0 := h3
    omega
  · refine key i hi ?_
    have h4 := hL.le i hi
    have h5 := ear_lat h i hi
    have : lenV l = gI (ear l) i + dyA l i := h3
    omega

/-! ### the first of the greatest -/
def rbM (T : Nat → Int) : Option Nat → Int
  | none => 0
  | some j => T j
def rbN (T : Nat → Int) (p : Nat → Bool) : Nat → Option Nat
  | 0 => none
  | k + 1 => if p k && decide (rbM T (rbN T p k) < T k) then some k else rbN T p k
theorem rbN_spec (T : Nat → Int) (p : Nat → Bool) : ∀ k, (rbN T p k = none → ∀ j, j < k → p j = true → T j ≤ 0) ∧ ∀ q, rbN T p k = some q → (q < k ∧ p q = true ∧ 0 < T q) ∧ (∀ j, j < k → p j = true → T j ≤ T q) ∧ ∀ j, j < q → p j = true → T j < T q
  | 0 => ⟨fun _ j hj => by omega, fun q hq => (by cases hq)⟩
  | k + 1 => by
    obtain ⟨h1, h2⟩ := rbN_spec T p k
    rw [rbN]
    split
    · rename_i hc
      simp only [Bool.and_eq_true, decide_eq_true_eq] at hc
      have hp := hc.1
      have hl := hc.2
      clear hc
      refine ⟨fun h => (by cases h), fun q hq => ?_⟩
      injection hq with hq
      subst hq
      cases hr : rbN T p k with
      | none =>
        have h3 := h1 hr
        rw [hr] at hl
        have hl' : 0 < T k := hl
        refine ⟨⟨by omega, hp, hl'⟩, fun j hj hpj => ?_, fun j hj hpj => ?_⟩
        · by_cases e : j = k
          · subst e; omega
          · have := h3 j (by omega) hpj; omega
        · have := h3 j hj hpj; omega
      | some q =>
        obtain ⟨⟨g1, g2, g3⟩, g4, g5⟩ := h2 q hr
        rw [hr] at hl
        have hl' : T q < T k := hl
        refine ⟨⟨by omega, hp, by omega⟩, fun j hj hpj => ?_, fun j hj hpj => ?_⟩
        · by_cases e : j = k
          · subst e; omega
          · have := g4 j (by omega) hpj; omega
        · have := g4 j hj hpj; omega
    · rename_i hc
      simp only [Bool.and_eq_true, decide_eq_true_eq, not_and] at hc
      refine ⟨fun h j hj hpj => ?_, fun q hq => ?_⟩
      · by_cases e : j = k
        · subst e; have := hc hpj; rw [h] at this; exact Int.not_lt.1 this
        · exact h1 h j (by omega) hpj
      · obtain ⟨⟨g1, g2, g3⟩, g4, g5⟩ := h2 q hq
        refine ⟨⟨by omega, g2, g3⟩, fun j hj hpj => ?_, g5⟩
        by_cases e : j = k
        · subst e; have := hc hpj; rw [hq] at this; exact Int.not_lt.1 this
        · exact g4 j (by omega) hpj
theorem rbN_find {T : Nat → Int} {p : Nat → Bool} {n : Nat} {m : Int} (hm : ∀ j, j < n → p j = true → T j ≤ m) (hx : (∃ j, j < n ∧ p j = true ∧ T j = m) ∨ ∀ j, j < n → p j = false) (hpos : ∀ j, j < n → p j = true → 0 < T j) :
    rbN T p n = (List.range n).find? fun j => p j && decide (T j = m) := by
  obtain ⟨h1, h2⟩ := rbN_spec T p n
  cases hr : rbN T p n with
  | none =>
    symm
    rw [List.find?_eq_none]
    intro j hj
    have hj' := List.mem_range.1 hj
    cases hp : p j
    · simp
    · have := h1 hr j hj' hp
      have := hpos j hj' hp
      omega
  | some q =>
    obtain ⟨⟨g1, g2, g3⟩, g4, g5⟩ := h2 q hr
    symm
    have hq : T q = m := by
      rcases hx with ⟨j, hj, hp, e⟩ | hx
      · have := g4 j hj hp; have := hm q g1 g2; omega
      · rw [hx q g1] at g2; cases g2
    rw [List.find?_range_eq_some]
    refine ⟨by simp [g2, hq], List.mem_range.2 g1, fun j hj => ?_⟩
    cases hp : p j
    · simp
    · have := g5 j hj hp
      simp; omega

/-! ### the chain -/
def nxS (l : List Tk) (i : Nat) : Option Nat := (List.range l.length).find? fun j => (afs l j).contains i && decide (tlV l j = tlV l i - dyA l i)
def chn (l : List Tk) : Nat → Nat → List Nat
  | 0, i => [i]
  | n + 1, i => i :: match nxS l i with
    | none => []
    | some j => chn l n j
def chX (l : List Tk) (i : Nat) : List Nat := chn l (tlV l i).toNat i
def chO (l : List Tk) : Option Nat → List Nat
  | none => []
  | some j => chX l j
def chS (l : List Tk) : Option Nat := (List.range l.length).find? fun i => decide (tlV l i = lenV l)
def chnV (l : List Tk) : List Nat := chO l (chS l)
theorem nxS_some {l : List Tk} {i j : Nat} (h : nxS l i = some j) : j < l.length ∧ i ∈ afs l j ∧ tlV l j = tlV l i - dyA l i := by
  unfold nxS at h
  have h1 := List.find?_some h
  simp only [Bool.and_eq_true, List.contains_iff_mem, decide_eq_true_eq] at h1
  exact ⟨List.mem_range.1 (List.mem_of_find?_eq_some h), h1.1, h1.2⟩
theorem chn_enough {l : List Tk} (h : okP l) : ∀ i, i < l.length → ∀ n, (tlV l i).toNat ≤ n → chn l n i = chX l i :=
  ord_ind_up h fun i hi ih n hn => by
    have hp := (tlV_pos h hi).2
    have hd := (dy_bd h hi).1
    unfold chX
    obtain ⟨t, ht⟩ : ∃ t, (tlV l i).toNat = t + 1 := ⟨(tlV l i).toNat - 1, by omega⟩
    obtain ⟨m, rfl⟩ : ∃ m, n = m + 1 := ⟨n - 1, by omega⟩
    rw [ht]
    show (i :: match nxS l i with | none => [] | some j => chn l m j) = (i :: match nxS l i with | none => [] | some j => chn l t j)
    cases hs : nxS l i with
    | none => rfl
    | some j =>
      obtain ⟨h1, h2, h3⟩ := nxS_some hs
      show i :: chn l m j = i :: chn l t j
      rw [ih j h1 h2 m (by omega), ih j h1 h2 t (by omega)]
theorem chX_eq {l : List Tk} (h : okP l) {i : Nat} (hi : i < l.length) : chX l i = i :: chO l (nxS l i) := by
  have hp := (tlV_pos h hi).2
  have hd := (dy_bd h hi).1
  obtain ⟨t, ht⟩ : ∃ t, (tlV l i).toNat = t + 1 := ⟨(tlV l i).toNat - 1, by omega⟩
  have e : chX l i = i :: match nxS l i with | none => [] | some j => chn l t j := by unfold chX; rw [ht]; rfl
  rw [e]
  cases hs : nxS l i with
  | none => rfl
  | some j =>
    obtain ⟨h1, h2, h3⟩ := nxS_some hs
    show i :: chn l t j = i :: chX l j
    rw [chn_enough h j h1 t (by omega)]
/-- The reference's road: the first of the greatest that follow. -/
theorem rb_nxS {l : List Tk} (h : okP l) {i : Nat} (hi : i < l.length) : rbN (tlV l) (fun j => (afs l j).contains i) l.length = nxS l i := by
  have hL := latP_is h
  refine rbN_find (fun j hj hp => ?_) ?_ fun j hj _ => by have := (tlV_pos h hj).2; omega
  · have := hL.lt i hi j hj (List.contains_iff_mem.1 hp)
    unfold tlV; omega
  · rcases hL.some i hi with h1 | ⟨j, hj, hij, h1⟩
    · right
      intro j hj
      rw [Bool.eq_false_iff]
      intro hp
      have h2 := hL.lt i hi j hj (List.contains_iff_mem.1 hp)
      have h3 := hL.le j hj
      have h4 := (dy_bd h hj).1
      omega
    · exact .inl ⟨j, hj, List.contains_iff_mem.2 hij, by unfold tlV; omega⟩
theorem rb_chS {l : List Tk} (h : okP l) : rbN (tlV l) (fun _ => true) l.length = chS l := by
  have hL := latP_is h
  have := rbN_find (T := tlV l) (p := fun _ => true) (n := l.length) (m := lenV l) (fun j hj _ => by
    have h1 := ear_lat h j hj; have h2 := ear_pos h j; unfold tlV; omega) (.inl (by
    obtain ⟨i, hi, e⟩ := lat_zero h
    exact ⟨i, hi, rfl, by unfold tlV; omega⟩)) fun j hj _ => by have := (tlV_pos h hj).2; omega
  rw [this]
  unfold chS
  congr 1
theorem rbM_nxS {l : List Tk} (h : okP l) {i : Nat} (hi : i < l.length) : rbM (tlV l) (nxS l i) + dyA l i = tlV l i := by
  cases hs : nxS l i with
  | some j =>
    obtain ⟨h1, h2, h3⟩ := nxS_some hs
    show tlV l j + dyA l i = _
    omega
  | none =>
    show 0 + dyA l i = tlV l i
    rcases (latP_is h).some i hi with h1 | ⟨j, hj, hij, h1⟩
    · unfold tlV; omega
    · exfalso
      unfold nxS at hs
      have := List.find?_eq_none.1 hs j (List.mem_range.2 hj)
      apply this
      simp only [Bool.and_eq_true, List.contains_iff_mem, decide_eq_true_eq]
      exact ⟨hij, by unfold tlV; omega⟩
/-- The program's road: the first task without slack that begins on a day. -/
def pcN (l : List Tk) (c : Option Nat) (f : Int) : Option Nat := (List.range l.length).find? fun j => (match c with | none => true | some i => (afs l j).contains i) && (decide (gI (ear l) j = f) && decide (gI (latP l) j = f))
theorem find_congr {n : Nat} {p q : Nat → Bool} (h : ∀ j, j < n → p j = q j) : (List.range n).find? p = (List.range n).find? q := by
  induction n with
  | zero => rfl
  | succ n ih =>
    rw [List.range_succ, List.find?_append, List.find?_append, ih fun j hj => h j (by omega)]
    simp [List.find?, h n (by omega)]
theorem pc_nxS {l : List Tk} (h : okP l) {i : Nat} (hi : i < l.length) (hc : gI (ear l) i = gI (latP l) i) : pcN l (some i) (gI (ear l) i + dyA l i) = nxS l i := by
  unfold pcN nxS
  refine find_congr fun j hj => ?_
  rw [Bool.eq_iff_iff]
  simp only [Bool.and_eq_true, List.contains_iff_mem, decide_eq_true_eq]
  unfold tlV
  constructor
  · rintro ⟨h1, h2, h3⟩; exact ⟨h1, by omega⟩
  · rintro ⟨h1, h2⟩
    have h3 := ear_le h hj h1
    have h4 := ear_lat h j hj
    exact ⟨h1, by omega, by omega⟩
theorem pc_chS {l : List Tk} (h : okP l) : pcN l none 0 = chS l := by
  unfold pcN chS
  refine find_congr fun j hj => ?_
  rw [Bool.eq_iff_iff]
  simp only [Bool.and_eq_true, decide_eq_true_eq, true_and]
  unfold tlV
  have h4 := ear_lat h j hj
  have h5 := ear_pos h j
  constructor
  · intro h2; omega
  · intro h2; exact ⟨by omega, by omega⟩
theorem pc_crit {l : List Tk} {c : Option Nat} {f : Int} {j : Nat} (h : pcN l c f = some j) : j < l.length ∧ gI (ear l) j = f ∧ gI (latP l) j = f := by
  unfold pcN at h
  have h1 := List.find?_some h
  simp only [Bool.and_eq_true, decide_eq_true_eq] at h1
  exact ⟨List.mem_range.1 (List.mem_of_find?_eq_some h), h1.2.1, h1.2.2⟩

/-! ### chains -/
def sumD (l : List Tk) (c : List Nat) : Int := c.foldr (fun i s => dyA l i + s) 0
theorem sumD_cons (l : List Tk) (i : Nat) (c : List Nat) : sumD l (i :: c) = dyA l i + sumD l c := rfl
theorem sumD_app (l : List Tk) : ∀ (a b : List Nat), sumD l (a ++ b) = sumD l a + sumD l b
  | [], b => by simp [sumD]
  | i :: a, b => by rw [List.cons_append, sumD_cons, sumD_cons, sumD_app l a b]; omega
/-- Each follows the one ahead of it. -/
def lnk (l : List Tk) : List Nat → Prop
  | [] => True
  | [i] => i < l.length
  | i :: j :: r => i < l.length ∧ i ∈ afs l j ∧ lnk l (j :: r)
theorem lnk_lt {l : List Tk} : ∀ {c : List Nat}, lnk l c → ∀ i ∈ c, i < l.length
  | [], _, i, hi => by cases hi
  | [j], h, i, hi => by rw [List.mem_singleton.1 hi]; exact h
  | j :: k :: r, h, i, hi => by
    rcases List.mem_cons.1 hi with rfl | hi
    · exact h.1
    · exact lnk_lt h.2.2 i hi
theorem lnk_tail {l : List Tk} (h : okP l) : ∀ {c : List Nat} {i : Nat}, lnk l (i :: c) → sumD l (i :: c) ≤ tlV l i
  | [], i, hc => by have := (tlV_pos h hc).1; simp [sumD]; omega
  | j :: r, i, hc => by
    have h1 := lnk_tail h hc.2.2
    have hjl := lnk_lt hc.2.2 j (List.mem_cons_self ..)
    have h2 := (latP_is h).lt i hc.1 j hjl hc.2.1
    rw [sumD_cons]
    unfold tlV at *; omega
theorem lnk_head {l : List Tk} (h : okP l) : ∀ {xs : List Nat} {x i : Nat} {ys : List Nat}, lnk l (x :: (xs ++ i :: ys)) → gI (ear l) x + dyA l x + sumD l xs ≤ gI (ear l) i
  | [], x, i, ys, hc => by
    have hil := lnk_lt hc.2.2 i (List.mem_cons_self ..)
    have := ear_le h hil hc.2.1
    simp [sumD]; omega
  | y :: xs, x, i, ys, hc => by
    have hyl := lnk_lt hc.2.2 y (List.mem_cons_self ..)
    have h1 := ear_le h hyl hc.2.1
    have h2 := lnk_head h (xs := xs) (x := y) (i := i) (ys := ys) hc.2.2
    rw [sumD_cons]; omega
theorem lnk_drop {l : List Tk} : ∀ {xs ys : List Nat}, lnk l (xs ++ ys) → lnk l ys
  | [], ys, h => h
  | [x], [], h => trivial
  | [x], y :: ys, h => h.2.2
  | x :: x' :: xs, ys, h => lnk_drop (xs := x' :: xs) h.2.2
theorem lnk_sum {l : List Tk} (h : okP l) {xs ys : List Nat} {i : Nat} (hc : lnk l (xs ++ i :: ys)) : sumD l (xs ++ i :: ys) ≤ gI (ear l) i + tlV l i := by
  have h1 := lnk_tail h (lnk_drop hc)
  rw [sumD_app]
  cases xs with
  | nil => have := ear_pos h i; simp [sumD] at *; omega
  | cons x xs =>
    have h2 := lnk_head h hc
    have h3 := ear_pos h x
    rw [sumD_cons (c := xs)]; omega
theorem lnk_le {l : List Tk} (h : okP l) {c : List Nat} (hc : lnk l c) : sumD l c ≤ lenV l := by
  cases c with
  | nil => have := (lenV_bd h).1; simpa [sumD] using this
  | cons i c =>
    have h1 := lnk_tail h hc
    have hil := lnk_lt hc i (List.mem_cons_self ..)
    have h2 := ear_lat h i hil
    have h3 := ear_pos h i
    unfold tlV at h1; omega
/-- A task of a longest chain has no slack. -/
theorem lnk_crit {l : List Tk} (h : okP l) {c : List Nat} (hc : lnk l c) (hs : sumD l c = lenV l) {i : Nat} (hi : i ∈ c) : gI (latP l) i = gI (ear l) i := by
  obtain ⟨xs, ys, rfl⟩ := List.append_of_mem hi
  have h1 := lnk_sum h hc
  have h2 := ear_lat h i (lnk_lt hc i hi)
  unfold tlV at h1; omega
theorem chX_lnk {l : List Tk} (h : okP l) : ∀ i, i < l.length → lnk l (chX l i) ∧ sumD l (chX l i) = tlV l i ∧ ∃ r, chX l i = i :: r :=
  ord_ind_up h fun i hi ih => by
    rw [chX_eq h hi]
    have hm := rbM_nxS h hi
    cases hs : nxS l i with
    | none =>
      rw [hs] at hm
      have hm' : 0 + dyA l i = tlV l i := hm
      exact ⟨hi, by show dyA l i + 0 = _; omega, _, rfl⟩
    | some j =>
      rw [hs] at hm
      have hm' : tlV l j + dyA l i = tlV l i := hm
      obtain ⟨h1, h2, h3⟩ := nxS_some hs
      obtain ⟨g1, g2, r, g3⟩ := ih j h1 h2
      show lnk l (i :: chX l j) ∧ _ ∧ _
      refine ⟨?_, by show sumD l (i :: chX l j) = _; rw [sumD_cons]; omega, _, rfl⟩
      rw [g3] at g1 ⊢
      exact ⟨hi, h2, g1⟩
theorem chS_some {l : List Tk} (h : okP l) : ∃ i, chS l = some i ∧ i < l.length ∧ tlV l i = lenV l := by
  cases hs : chS l with
  | none =>
    exfalso
    obtain ⟨i, hi, e⟩ := lat_zero h
    unfold chS at hs
    have := List.find?_eq_none.1 hs i (List.mem_range.2 hi)
    apply this
    simp only [decide_eq_true_eq]
    unfold tlV; omega
  | some i =>
    unfold chS at hs
    have h1 := List.find?_some hs
    exact ⟨i, rfl, List.mem_range.1 (List.mem_of_find?_eq_some hs), by simpa using h1⟩
theorem chV_spec {l : List Tk} (h : okP l) : lnk l (chnV l) ∧ sumD l (chnV l) = lenV l ∧ chnV l ≠ [] := by
  obtain ⟨i, e, hi, hm⟩ := chS_some h
  obtain ⟨g1, g2, r, g3⟩ := chX_lnk h i hi
  unfold chnV
  rw [e]
  show lnk l (chX l i) ∧ sumD l (chX l i) = _ ∧ chX l i ≠ []
  exact ⟨g1, by omega, by rw [g3]; exact List.cons_ne_nil _ _⟩
/-- No task stands in a chain twice. -/
theorem lnk_nodup {l : List Tk} (h : okP l) : ∀ {c : List Nat}, lnk l c → c.Nodup ∧ ∀ i r, c = i :: r → ∀ j ∈ r, gI (ear l) i < gI (ear l) j
  | [], _ => ⟨List.nodup_nil, fun i r e => by cases e⟩
  | [i], _ => ⟨by simp, fun a r e => by injection e with e1 e2; subst e2; intro j hj; cases hj⟩
  | i :: j :: r, hc => by
    obtain ⟨h1, h2⟩ := lnk_nodup h hc.2.2
    have hjl := lnk_lt hc.2.2 j (List.mem_cons_self ..)
    have h3 := ear_le h hjl hc.2.1
    have h4 := (dy_bd h hc.1).1
    have key : ∀ q ∈ j :: r, gI (ear l) i < gI (ear l) q := fun q hq => by
      rcases List.mem_cons.1 hq with rfl | hq
      · omega
      · have := h2 j r rfl q hq; omega
    exact ⟨List.nodup_cons.2 ⟨fun hh => by have := key i hh; omega, h1⟩, fun a s e => by injection e with e1 e2; subst e1 e2; exact key⟩
theorem lnk_len {l : List Tk} (h : okP l) {c : List Nat} (hc : lnk l c) : c.length ≤ l.length := nodup_len (lnk_nodup h hc).1 (lnk_lt hc)
end Go.Proofs.YtmionebfepkolaaGreatDoor

namespace Go.Proofs.YtmionebfepkolaaGreatDoor

theorem tkA_ge {l : List Tk} {i : Nat} (h : l.length ≤ i) : tkA l i = t0 := by unfold tkA; rw [List.getElem?_eq_none h]; rfl
/-- Plans with the same names and the same names before each task. -/
structure alike (l l' : List Tk) : Prop where
  len : l'.length = l.length
  nm : ∀ i, (tkA l' i).nm = (tkA l i).nm
  af : ∀ i, (tkA l' i).af = (tkA l i).af
theorem alike.fnd {l l' : List Tk} (h : alike l l') (s : ByteArray) : fnd l' s = fnd l s := by
  have h1 := fnd_le l s
  rcases Nat.lt_or_ge (Go.Proofs.YtmionebfepkolaaGreatDoor.fnd l s) l.length with h2 | h2
  · refine fnd_eq (by rw [h.len]; exact h2) (by rw [h.nm]; exact fnd_at h2) fun j hj => by rw [h.nm]; exact fnd_no hj
  · have h3 : Go.Proofs.YtmionebfepkolaaGreatDoor.fnd l' s = l'.length := fnd_none fun j hj => by rw [h.nm]; exact fnd_no (by rw [h.len] at hj; omega)
    rw [h3, h.len]; omega
theorem alike.afs {l l' : List Tk} (h : alike l l') (i : Nat) : afs l' i = afs l i := by
  unfold Go.Proofs.YtmionebfepkolaaGreatDoor.afs
  rw [h.af]
  exact List.map_congr_left fun s _ => h.fnd s
theorem alike.ordK {l l' : List Tk} (h : alike l l') : ∀ k, ordK l' k = ordK l k
  | 0 => rfl
  | k + 1 => by
    have e : nxt l' (Go.Proofs.YtmionebfepkolaaGreatDoor.ordK l' k) = nxt l (Go.Proofs.YtmionebfepkolaaGreatDoor.ordK l k) := by
      unfold nxt
      rw [h.len, h.ordK k]
      congr 1
      funext i
      unfold rdy
      rw [h.afs]
    cases hn : nxt l (Go.Proofs.YtmionebfepkolaaGreatDoor.ordK l k) with
    | none => rw [ordK_stay hn, ordK_stay (e.trans hn), h.ordK k]
    | some j => rw [ordK_next hn, ordK_next (e.trans hn), h.ordK k]
theorem alike.ord {l l' : List Tk} (h : alike l l') : ord l' = ord l := by unfold Go.Proofs.YtmionebfepkolaaGreatDoor.ord; rw [h.len]; exact h.ordK _
theorem alike.ok {l l' : List Tk} (h : alike l l') (hl : okP l) (he : ∀ i, i < l.length → okTk (tkA l' i) = true) : okP l' := by
  refine ⟨by rw [h.len]; exact hl.pos, by rw [h.len]; exact hl.len, fun i hi => he i (by rw [← h.len]; exact hi), fun i hi => ?_, fun i hi => ?_, fun i hi s hs => ?_, fun i hi k hk => ?_, ?_⟩
  · rw [h.fnd, h.nm]; exact hl.apart i (by rw [← h.len]; exact hi)
  · rw [h.af]; exact hl.few i (by rw [← h.len]; exact hi)
  · rw [h.fnd, h.len]; rw [h.af] at hs; exact hl.known i (by rw [← h.len]; exact hi) s hs
  · unfold afA; rw [h.af] at hk ⊢; exact hl.once i (by rw [← h.len]; exact hi) k hk
  · rw [h.ord, h.len]; exact hl.all

theorem alone_mk {l : List Tk} (h : okP l) : aloneE l = 0 := frst_all fun x hx => by
  obtain ⟨i, hi, rfl⟩ := List.mem_map.1 hx
  have hi := List.mem_range.1 hi
  unfold tkE
  rw [if_neg (by rw [h.each i hi]; decide), if_neg (by rw [h.apart i hi]; omega), if_neg (by have := h.few i hi; omega)]
theorem names_mk {l : List Tk} (h : okP l) : namesE l = 0 := frst_all fun x hx => by
  obtain ⟨i, hi, rfl⟩ := List.mem_map.1 hx
  have hi := List.mem_range.1 hi
  refine frst_all fun y hy => ?_
  obtain ⟨k, hk, rfl⟩ := List.mem_map.1 hy
  have hk := List.mem_range.1 hk
  unfold afE
  rw [if_pos (h.known i hi _ (afA_mem hk)), if_neg fun hh => h.once i hi k hk (isIn_iff.1 hh)]
/-- A plan that is one passes. -/
theorem check_mk {l : List Tk} (h : okP l) : checkE l = 0 := by
  unfold checkE
  have h1 := h.pos; have h2 := h.len; have h3 := h.all
  rw [if_neg (by omega), if_neg (by omega), if_neg (by rw [alone_mk h]; decide), if_neg (by rw [names_mk h]; decide), if_neg (by omega)]

/-- A task takes more days. -/
def dlT (l : List Tk) (i : Nat) (d : Int) : List Tk := l.set i { tkA l i with dy := dyA l i + d }
theorem dlT_len (l : List Tk) (i : Nat) (d : Int) : (dlT l i d).length = l.length := by unfold dlT; rw [List.length_set]
theorem dlT_at {l : List Tk} {i : Nat} {d : Int} (hi : i < l.length) : tkA (dlT l i d) i = { tkA l i with dy := dyA l i + d } := by
  unfold dlT tkA; rw [List.getElem?_set_self hi]; rfl
theorem dlT_ne {l : List Tk} {i j : Nat} {d : Int} (h : i ≠ j) : tkA (dlT l i d) j = tkA l j := by
  unfold dlT tkA; rw [List.getElem?_set_ne h]
theorem dlT_alike {l : List Tk} {i : Nat} {d : Int} (hi : i < l.length) : alike l (dlT l i d) := by
  refine ⟨dlT_len l i d, fun j => ?_, fun j => ?_⟩
  · by_cases e : i = j
    · subst e; rw [dlT_at hi]
    · rw [dlT_ne e]
  · by_cases e : i = j
    · subst e; rw [dlT_at hi]
    · rw [dlT_ne e]
theorem dlT_dy {l : List Tk} {i j : Nat} {d : Int} (hi : i < l.length) : dyA (dlT l i d) j = if j = i then dyA l i + d else dyA l j := by
  unfold dyA
  by_cases e : j = i
  · subst e; rw [if_pos rfl, dlT_at hi]; rfl
  · rw [if_neg e, dlT_ne (Ne.symm e)]
theorem dlT_ok {l : List Tk} (h : okP l) {i : Nat} {d : Int} (hi : i < l.length) (hd : 0 ≤ d) (hm : dyA l i + d ≤ 1000) : okP (dlT l i d) := by
  refine (dlT_alike hi).ok h fun j hj => ?_
  have h1 := dy_bd h hi
  by_cases e : i = j
  · subst e
    rw [dlT_at hi]
    have h2 := h.each i hi
    unfold okTk at h2 ⊢
    simp only [Bool.and_eq_true] at h2 ⊢
    exact ⟨⟨h2.1.1, wi_iff.2 ⟨by show 1 ≤ dyA l i + d; omega, hm⟩⟩, h2.2⟩
  · rw [dlT_ne e]; exact h.each j hj
/-- Days grow where a task takes more. -/
theorem ear_grow {l l' : List Tk} (h : okP l) (h' : okP l') (ha : alike l l') (hd : ∀ i, dyA l i ≤ dyA l' i) : ∀ i, i < l.length → gI (ear l) i ≤ gI (ear l') i :=
  ord_ind h fun i hi ih => by
    have hi' : i < l'.length := by rw [ha.len]; exact hi
    rcases ear_some h hi with h1 | ⟨a, haa, h1⟩
    · have := ear_pos h' i; omega
    · have h2 := ih a haa
      have h3 := ear_le h' hi' (a := a) (by rw [ha.afs]; exact haa)
      have := hd a
      omega
theorem lenV_end {l : List Tk} (h : okP l) : ∃ i, i < l.length ∧ lenV l = gI (ear l) i + dyA l i := by
  obtain ⟨_, _, h3⟩ := ends_spec l (ear l)
  rcases h3 with h3 | h3
  · exfalso
    have h4 := (dy_bd h h.pos).1
    have h5 := ear_end (l := l) h.pos
    have h6 := ear_pos h 0
    have : lenV l = 0 := h3
    omega
  · exact h3
theorem lenV_grow {l l' : List Tk} (h : okP l) (h' : okP l') (ha : alike l l') (hd : ∀ i, dyA l i ≤ dyA l' i) : lenV l ≤ lenV l' := by
  obtain ⟨i, hi, e⟩ := lenV_end h
  have h1 := ear_grow h h' ha hd i hi
  have h2 := ear_end (l := l') (i := i) (by rw [ha.len]; exact hi)
  have := hd i
  omega
theorem tail_grow {l l' : List Tk} (h : okP l) (h' : okP l') (ha : alike l l') (hd : ∀ i, dyA l i ≤ dyA l' i) : ∀ j, j < l.length → gI (ear l') j + dyA l' j + (tlV l j - dyA l j) ≤ lenV l' :=
  ord_ind_up h fun j hj ih => by
    have hj' : j < l'.length := by rw [ha.len]; exact hj
    rcases (latP_is h).some j hj with h1 | ⟨q, hq, hjq, h1⟩
    · have := ear_end hj'
      unfold tlV; omega
    · have h2 := ih q hq hjq
      have h3 := ear_le h' (i := q) (by rw [ha.len]; exact hq) (a := j) (by rw [ha.afs]; exact hjq)
      have := hd q
      unfold tlV at *; omega
/-- The length of the plan in which task i takes d days more. -/
def slk (l : List Tk) (i : Nat) : Int := gI (latP l) i - gI (ear l) i
theorem lenV_delay {l : List Tk} (h : okP l) {i : Nat} {d : Int} (hi : i < l.length) (hd : 0 ≤ d) (hm : dyA l i + d ≤ 1000) : lenV (dlT l i d) = imax (lenV l) (lenV l - slk l i + d) := by
  have h' := dlT_ok h hi hd hm
  have ha := dlT_alike (d := d) hi
  have hdy := fun j => dlT_dy (j := j) (d := d) hi
  have hgr : ∀ j, dyA l j ≤ dyA (dlT l i d) j := fun j => by rw [hdy]; split <;> rename_i e <;> first | (subst e; omega) | exact Int.le_refl _
  have hsame : ∀ pre post, Go.Proofs.YtmionebfepkolaaGreatDoor.ord l = pre ++ i :: post → ∀ j ∈ pre ++ [i], gI (ear (dlT l i d)) j = gI (ear l) j := by
    intro pre post e
    have hT : topo l (pre ++ i :: post) := e ▸ topo_ord l
    have hnp := (topo_ord l pre i post e).1
    have key : ∀ j, j < l.length → j ∈ pre ++ [i] → gI (ear (dlT l i d)) j = gI (ear l) j := by
      refine ord_ind h fun j hj ih hjp => ?_
      have hT2 : topo l ((pre ++ [i]) ++ post) := by rw [show (pre ++ [i]) ++ post = pre ++ i :: post by simp]; exact hT
      rw [(ear_is h').at_ j (by rw [ha.len]; exact hj), (ear_is h).at_ j hj, ha.afs]
      have hni : i ∉ afs l j := fun hij => by
        rcases List.mem_append.1 hjp with h1 | h1
        · exact hnp (topo_closed hT h1 hij)
        · rw [List.mem_singleton.1 h1] at hij; exact afs_self h hi hij
      have hag : ∀ a ∈ afs l j, gI (ear (dlT l i d)) a = gI (ear l) a ∧ dyA (dlT l i d) a = dyA l a := fun a haa =>
        ⟨ih a haa (topo_closed hT2 hjp haa), by rw [hdy, if_neg fun e => hni (by rw [← e]; exact haa)]⟩
      have hgen : ∀ (as : List Nat) (m : Int), (∀ a ∈ as, gI (ear (dlT l i d)) a = gI (ear l) a ∧ dyA (dlT l i d) a = dyA l a) → mxs (dlT l i d) (ear (dlT l i d)) m as = mxs l (ear l) m as := by
        intro as
        induction as with
        | nil => intro m _; rfl
        | cons a as iha =>
          intro m hh
          obtain ⟨q1, q2⟩ := hh a (List.mem_cons_self ..)
          show mxs _ _ (imax m (gI (ear (dlT l i d)) a + dyA (dlT l i d) a)) as = mxs l (ear l) (imax m (gI (ear l) a + dyA l a)) as
          rw [q1, q2]
          exact iha _ fun b hb => hh b (List.mem_cons_of_mem _ hb)
      exact hgen _ _ hag
    intro j hj
    refine key j (ord_lt (by rw [e, show pre ++ i :: post = (pre ++ [i]) ++ post by simp]; exact List.mem_append_left _ hj)) hj
  have hei : gI (ear (dlT l i d)) i = gI (ear l) i := by
    obtain ⟨pre, post, e⟩ := List.append_of_mem (ord_all h hi)
    exact hsame pre post e i (by simp)
  have hsl : slk l i = gI (latP l) i - gI (ear l) i := rfl
  have hup : ∀ j, j < l.length → gI (ear (dlT l i d)) j ≤ imax (gI (ear l) j) (gI (latP l) j + d - slk l i) := by
    refine ord_ind h fun j hj ih => ?_
    have hj' : j < (dlT l i d).length := by rw [ha.len]; exact hj
    rcases ear_some h' hj' with h1 | ⟨a, haa, h1⟩
    · have := ear_pos h j; have := (imax_le (gI (ear l) j) (gI (latP l) j + d - slk l i)).1; omega
    · rw [ha.afs] at haa
      have hal := afs_lt h hj haa
      have h2 := ih a haa
      have h3 := ear_le h hj haa
      have h4 := (latP_is h).lt a hal j hj haa
      rw [h1, hdy]
      have h5 := imax_le (gI (ear l) j) (gI (latP l) j + d - slk l i)
      split
      · rename_i e
        subst e
        rw [hei]; omega
      · have h6 : gI (ear (dlT l i d)) a ≤ imax (gI (ear l) a) (gI (latP l) a + d - slk l i) := h2
        unfold imax at h6 ⊢
        split at h6 <;> split <;> omega
  have h5 := imax_le (lenV l) (lenV l - slk l i + d)
  have hle : lenV (dlT l i d) ≤ imax (lenV l) (lenV l - slk l i + d) := by
    obtain ⟨j, hj, e⟩ := lenV_end h'
    rw [ha.len] at hj
    have h1 := hup j hj
    have h2 := ear_end hj
    have h3 := (latP_is h).le j hj
    rw [e, hdy]
    split
    · rename_i e; subst e; rw [hei]; omega
    · unfold imax at h1 ⊢
      split at h1 <;> split <;> omega
  have hge1 := lenV_grow h h' ha hgr
  have hge2 := tail_grow h h' ha hgr i hi
  rw [hei, hdy, if_pos rfl] at hge2
  have hge3 : lenV l - slk l i + d ≤ lenV (dlT l i d) := by unfold tlV at hge2; omega
  have : imax (lenV l) (lenV l - slk l i + d) ≤ lenV (dlT l i d) := by unfold imax; split <;> omega
  omega
end Go.Proofs.YtmionebfepkolaaGreatDoor
