/- Cells of made rows; the flows as lists. No program is named. -/
import Derived.Test.YtloogollfconpaaNetF
import Derived.Test.YtloogollfconpaaArr6
import Derived.Test.YtloogollfconpaaAppend
import Derived.RangeFuncFrom
import Derived.RangeFuncBox
set_option linter.unusedSimpArgs false
set_option linter.unusedVariables false
namespace Go.Proofs.Ytloogollfconpaa
open Go.RowKit

/-- What lies in block B, cell by cell. -/
def CA (W : World) (B : Nat) (cs : List Value) : Prop := B < W.heap.size ∧ ∀ j v, cs[j]? = some v → W.cell? ⟨B, j, none⟩ = some v ∧ W.frozen? ⟨B, j, none⟩ = false
section
variable {W W' : World} {B : Nat} {cs : List Value}
theorem CA.below {N : Nat} (h : CA W B cs) (hb : Below N W W') (hB : B < N) : CA W' B cs :=
  ⟨Nat.lt_of_lt_of_le h.1 hb.size, fun j v hj => by rw [hb.cell (p := ⟨B, j, none⟩) hB, hb.frozen (p := ⟨B, j, none⟩) hB]; exact h.2 j v hj⟩
theorem CA.later (h : CA W B cs) (hb : Below W.heap.size W W') : CA W' B cs := h.below hb h.1
theorem CA.alloc (h : CA W B cs) (o : Obj) : CA (W.alloc o) B cs := h.later ((Below.refl _ _).alloc (Nat.le_refl _) _)
theorem CA.drew (h : CA W B cs) : CA W.drew B cs := h.later (Below.refl _ _).drew
theorem CA.other (h : CA W B cs) {p : Addr} (hp : p.block ≠ B) (v : Value) : CA (W.setCell p v) B cs := by
  refine ⟨by simpa using h.1, fun j u hj => ?_⟩
  rw [World.cell?_setCell_other _ _ _ _ (fun he => hp (by rw [he])), World.frozen?_setCell]
  exact h.2 j u hj
theorem CA.set (h : CA W B cs) {k : Nat} (hk : k < cs.length) (v : Value) : CA (W.setCell ⟨B, k, none⟩ v) B (cs.set k v) := by
  refine ⟨by simpa using h.1, fun j u hj => ?_⟩
  rw [World.frozen?_setCell]
  by_cases hkj : k = j
  · subst hkj
    rw [List.getElem?_set_self hk] at hj
    have hk' := h.2 k cs[k] (List.getElem?_eq_getElem hk)
    refine ⟨?_, hk'.2⟩
    rw [World.cell?_setCell_same _ _ _ hk'.1]
    exact hj
  · rw [List.getElem?_set_ne hkj] at hj
    rw [World.cell?_setCell_other _ _ _ _ (fun he => hkj (congrArg Addr.off he))]
    exact h.2 j u hj
theorem CA.new (w : World) (cs : List Value) (t : TypeId) : CA (w.alloc (.cells cs.toArray t)) w.heap.size cs := by
  refine ⟨by simp, fun j v hj => ⟨?_, World.frozen?_alloc_at _ _ _ _ rfl⟩⟩
  rw [World.cell?_alloc_at _ _ _ _ rfl, List.getElem?_toArray]
  exact hj
theorem CA.own {base : Nat} {e : TypeId} {size n cap : Nat} {g : Nat} {xs : List Value} (h : W.ownsRow base e size (.slice (some ⟨g, 0, none⟩) n cap) n xs) : CA W g xs := by
  obtain ⟨h1, h2⟩ := h
  rcases h2 with ⟨h2, -⟩ | ⟨g', cap', cur, h2, hb, hg, hnc, hm, hcs, ht⟩
  · cases h2
  · cases h2
    refine ⟨(Array.getElem?_eq_some_iff.1 hg).1, fun j v hj => ?_⟩
    rw [← ht, List.getElem?_take] at hj
    split at hj
    · simp only [World.cell?, World.frozen?, hg]
      simpa using hj
    · cases hj
theorem ca_own {β : Type} (B : Nat) (f : β → List Value) : Own (fun (s : β) (W : World) => CA W B (f s)) := fun s X Y row hs hg hr => by
  refine ⟨Nat.lt_of_lt_of_le hs.1 hg.size, fun j v hj => ?_⟩
  obtain ⟨h1, h2⟩ := hs.2 j v hj
  have hbl : Y.heap[B]? = X.heap[B]? := hg.block B hs.1 (fun e => by
    obtain ⟨o, ho, hc⟩ := hr B e.symm
    unfold World.cell? at h1
    simp only [ho] at h1
    cases o <;> simp_all [Obj.isCells])
  refine ⟨(World.cell?_of_block (a := ⟨B, j, none⟩) hbl).trans h1, ?_⟩
  unfold World.frozen? at h2 ⊢
  simp only [hbl]
  exact h2
theorem CA.cast {cs' : List Value} (h : CA W B cs) (e : cs = cs') : CA W B cs' := e ▸ h
end
/-! ### Rows of pairs -/
theorem pcells_set (v : Int) : ∀ (ps : List (Int × Int)) (k : Nat), k < ps.length → (pcells ps).set (k * 2 + 1) (.int .i64 v) = pcells (ps.set k ((ps[k]?.getD (0, 0)).1, v)) := by
  intro ps
  induction ps with
  | nil => intro k h; exact absurd h (by simp)
  | cons p ps ih =>
    intro k h
    cases k with
    | zero => simp [pcells]
    | succ k =>
      have h1 := ih k (by simpa using h)
      have e : (k + 1) * 2 + 1 = (k * 2 + 1) + 1 + 1 := by omega
      rw [e]
      simpa [pcells] using h1
theorem pcells_set2 (u v : Int) : ∀ (ps : List (Int × Int)) (k : Nat), k < ps.length → ((pcells ps).set (k * 2) (.int .i64 u)).set (k * 2 + 1) (.int .i64 v) = pcells (ps.set k (u, v)) := by
  intro ps
  induction ps with
  | nil => intro k h; exact absurd h (by simp)
  | cons p ps ih =>
    intro k h
    cases k with
    | zero => simp [pcells]
    | succ k =>
      have h1 := ih k (by simpa using h)
      have e : (k + 1) * 2 = (k * 2) + 1 + 1 := by omega
      rw [e, show (k * 2) + 1 + 1 + 1 = (k * 2 + 1) + 1 + 1 by omega]
      simpa [pcells] using h1
/-- The made row, the first k denominators laid. -/
def onesK (n k : Nat) : List (Int × Int) := (List.range n).map fun i => (0, if i < k then 1 else 0)
theorem onesK_len (n k : Nat) : (onesK n k).length = n := by simp [onesK]
theorem onesK_succ {n k : Nat} (h : k < n) : onesK n (k + 1) = (onesK n k).set k (((onesK n k)[k]?.getD (0, 0)).1, 1) := by
  have e : ((onesK n k)[k]?.getD (0, 0)).1 = 0 := by simp [onesK, h]
  rw [e]
  apply List.ext_getElem?
  intro i
  by_cases hi : i = k
  · subst hi
    rw [List.getElem?_set_self (by rw [onesK_len]; exact h)]
    simp [onesK, h]
  · rw [List.getElem?_set_ne (Ne.symm hi)]
    by_cases hn : i < n
    · have : (i < k + 1) ↔ (i < k) := by omega
      simp [onesK, hn, this]
    · simp [onesK, hn]
theorem onesK_zero (n : Nat) : pcells (onesK n 0) = List.replicate (n * 2) (.int .i64 0) := by
  unfold onesK
  simp only [Nat.not_lt_zero, if_false]
  induction n with
  | zero => rfl
  | succ n ih =>
    rw [List.range_succ, List.map_append, pcells_app, ih, show (n + 1) * 2 = n * 2 + 2 by omega, ← List.replicate_append_replicate]
    rfl
theorem onesK_full (n : Nat) : onesK n n = List.replicate n (0, 1) := by
  apply List.ext_getElem?
  intro i
  by_cases hn : i < n
  · simp [onesK, hn]
  · simp [onesK, hn]
/-! ### The flows -/
/-- What any number that is yielded adds to the flow of the tape i. -/
def fCu (l : List Tp) (m k : Nat) (a b : Int) (i z : Nat) : Int := addC l k a b i (z % 2 ^ m)
/-- The flows behind some sets, as cells. -/
def flV (l : List Tp) (m k : Nat) (a b : Int) (pre : List Nat) : List Value := (List.range m).map fun i => .int .i64 (sumW (fCu l m k a b i) pre)
/-- The same amid a set z: the first j tapes are done. -/
def flM (l : List Tp) (m k : Nat) (a b : Int) (pre : List Nat) (z j : Nat) : List Value := (List.range m).map fun i => .int .i64 (if i < j then sumW (fCu l m k a b i) (pre ++ [z]) else sumW (fCu l m k a b i) pre)
theorem flV_len (l : List Tp) (m k : Nat) (a b : Int) (pre : List Nat) : (flV l m k a b pre).length = m := by simp [flV]
theorem flM_len (l : List Tp) (m k : Nat) (a b : Int) (pre : List Nat) (z j : Nat) : (flM l m k a b pre z j).length = m := by simp [flM]
theorem flM_zero (l : List Tp) (m k : Nat) (a b : Int) (pre : List Nat) (z : Nat) : flM l m k a b pre z 0 = flV l m k a b pre := by simp [flM, flV]
theorem flM_all (l : List Tp) (m k : Nat) (a b : Int) (pre : List Nat) (z : Nat) : flM l m k a b pre z m = flV l m k a b (pre ++ [z]) := by
  unfold flM flV
  refine List.map_congr_left (fun i hi => ?_)
  rw [if_pos (List.mem_range.1 hi)]
theorem flM_get {l : List Tp} {m k : Nat} {a b : Int} {pre : List Nat} {z j : Nat} (h : j < m) : (flM l m k a b pre z j)[j]? = some (.int .i64 (sumW (fCu l m k a b j) pre)) := by simp [flM, h]
theorem flV_get {l : List Tp} {m k : Nat} {a b : Int} {pre : List Nat} {j : Nat} (h : j < m) : (flV l m k a b pre)[j]? = some (.int .i64 (sumW (fCu l m k a b j) pre)) := by simp [flV, h]
theorem flM_yes {l : List Tp} {m k : Nat} {a b : Int} {pre : List Nat} {z j : Nat} (h : j < m) : flM l m k a b pre z (j + 1) = (flM l m k a b pre z j).set j (.int .i64 (sumW (fCu l m k a b j) (pre ++ [z]))) := by
  apply List.ext_getElem?
  intro i
  by_cases hi : i = j
  · subst hi
    rw [List.getElem?_set_self (by rw [flM_len]; exact h)]
    simp [flM, h]
  · rw [List.getElem?_set_ne (Ne.symm hi)]
    by_cases hn : i < m
    · have : (i < j + 1) ↔ (i < j) := by omega
      simp [flM, hn, this]
    · simp [flM, hn]
theorem flM_no {l : List Tp} {m k : Nat} {a b : Int} {pre : List Nat} {z j : Nat} (h0 : fCu l m k a b j z = 0) : flM l m k a b pre z (j + 1) = flM l m k a b pre z j := by
  unfold flM
  refine List.map_congr_left (fun i hi => ?_)
  by_cases hij : i = j
  · subst hij
    rw [if_pos (by omega), if_neg (by omega), sumW_no pre h0]
  · have : (i < j + 1) ↔ (i < j) := by omega
    simp only [this]
theorem flV_no {l : List Tp} {m k : Nat} {a b : Int} {pre : List Nat} {z : Nat} (h0 : ∀ j, j < m → fCu l m k a b j z = 0) : flV l m k a b (pre ++ [z]) = flV l m k a b pre := by
  unfold flV
  refine List.map_congr_left (fun i hi => ?_)
  rw [sumW_no pre (h0 i (List.mem_range.1 hi))]
theorem fCu_no {l : List Tp} {k : Nat} {a b : Int} {j z : Nat} (hl : l.length ≤ 10) (h : pcf 10 (z % 2 ^ l.length) ≠ k) : fCu l l.length k a b j z = 0 := by
  unfold fCu addC
  rw [if_neg (fun hh => h (by rw [← hh.1, pcf_ten hl (Nat.mod_lt _ (Nat.pow_pos (by decide)))]))]
theorem fCu_off {l : List Tp} {k : Nat} {a b : Int} {j z : Nat} (h : bt (z % 2 ^ l.length) j = false) : fCu l l.length k a b j z = 0 := by
  unfold fCu addC
  rw [if_neg (fun hh => by rw [h] at hh; cases hh.2)]
theorem fCu_on {l : List Tp} {k : Nat} {a b : Int} {j z : Nat} (hl : l.length ≤ 10) (h : pcf 10 (z % 2 ^ l.length) = k) (h2 : bt (z % 2 ^ l.length) j = true) :
    fCu l l.length k a b j z = wgt l (2 ^ l.length - 1 - z % 2 ^ l.length) * sgL (tpA l j) a b (jk l (z % 2 ^ l.length - 2 ^ j) l.length).1 := by
  unfold fCu addC
  rw [if_pos ⟨by rw [← h, pcf_ten hl (Nat.mod_lt _ (Nat.pow_pos (by decide)))], h2⟩]
theorem fCu_flow {l : List Tp} (hl : okL l) (h10 : l.length ≤ 10) {k i : Nat} (hi : i < l.length) (a b : Int) : sumW (fCu l l.length (k + 1) a b i) (fl l l.length (2 ^ l.length)) = flo k (l.eraseIdx i) (tpA l i) a b := by
  rw [sumW_congr (g := addC l (k + 1) a b i) (fun s hs => by unfold fCu; rw [Nat.mod_eq_of_lt (fl_mem hs)])]
  exact sumW_flow hl h10 hi a b
theorem flV_done {l : List Tp} (hl : okL l) (h10 : l.length ≤ 10) (k : Nat) (a b : Int) : flV l l.length (k + 1) a b (fl l l.length (2 ^ l.length)) = (List.range l.length).map fun i => .int .i64 (flo k (l.eraseIdx i) (tpA l i) a b) := by
  unfold flV
  refine List.map_congr_left (fun i hi => ?_)
  rw [fCu_flow hl h10 (List.mem_range.1 hi)]
theorem bt_pow {s i : Nat} (h : bt s i = true) : 2 ^ i ≤ s := by
  rcases Nat.lt_or_ge s (2 ^ i) with h1 | h1
  · unfold bt at h
    rw [Nat.div_eq_of_lt h1] at h
    simp at h
  · exact h1
theorem andNot_bit_all : (List.range 1024).all (fun s => (List.range 10).all fun i => !bt s i || (bits .andNot .i64 (s : Int) ((2 ^ i : Nat) : Int) == ((s - 2 ^ i : Nat) : Int))) = true := by decide +kernel
theorem andNot_bit {s i : Nat} (hs : s < 1024) (hi : i < 10) (h : bt s i = true) : bits .andNot .i64 (s : Int) ((2 ^ i : Nat) : Int) = ((s - 2 ^ i : Nat) : Int) := by
  have := List.all_eq_true.1 (List.all_eq_true.1 andNot_bit_all s (List.mem_range.2 hs)) i (List.mem_range.2 hi)
  rw [h] at this
  simpa using this
/-- The results, the first k flows told. -/
def outK (n : Nat) (idx : List Nat) (F : Nat → Int) (T : Int) : Nat → List (Int × Int)
  | 0 => List.replicate n (0, 1)
  | i + 1 => (outK n idx F T i).set (idx[i]?.getD 0) (lowN (F i) T, lowD (F i) T)
theorem outK_len (n : Nat) (idx : List Nat) (F : Nat → Int) (T : Int) : ∀ i, (outK n idx F T i).length = n := by
  intro i
  induction i with
  | zero => simp [outK]
  | succ i ih => show (List.set _ _ _).length = n; rw [List.length_set, ih]
end Go.Proofs.Ytloogollfconpaa
