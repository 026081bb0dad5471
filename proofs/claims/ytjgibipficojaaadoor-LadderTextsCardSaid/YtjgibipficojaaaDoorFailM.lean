/- Joints of which one failed: plain, and rows of joints that a call made. No program is named. -/
import Derived.Test.YtjgibipficojaaaDoorFewest
import Derived.Test.YtjgibipficojaaaDoorLeastM
set_option linter.unusedSimpArgs false
set_option linter.unusedVariables false
namespace Go.Proofs.YtjgibipficojaaaDoor
open Go.RowKit

def jcells (l : List J) : List Value := l.flatMap jointV
theorem jcells_len (l : List J) : (jcells l).length = l.length * 2 := by
  induction l with
  | nil => rfl
  | cons x l ih => simp only [jcells, jointV, List.flatMap_cons, List.length_append, List.length_cons, List.length_nil] at *; omega
theorem jcells_one (l : List J) : ∀ u ∈ jcells l, u.oneCell' = true := by
  intro u hu
  simp only [jcells, jointV, List.mem_flatMap, List.mem_cons, List.not_mem_nil, or_false] at hu
  obtain ⟨x, _, rfl | rfl⟩ := hu <;> rfl
theorem jcells_get : ∀ (l : List J) (k : Nat), k < l.length → (jcells l)[k * 2]? = some (.int .i64 (l[k]?.getD dJ).1) ∧ (jcells l)[k * 2 + 1]? = some (.bool (l[k]?.getD dJ).2) := by
  intro l
  induction l with
  | nil => intro k h; exact absurd h (by simp)
  | cons x l ih =>
    intro k h
    cases k with
    | zero => simp [jcells, jointV]
    | succ k =>
      have := ih k (by simpa using h)
      have e1 : (k + 1) * 2 = (k * 2 + 1) + 1 := by omega
      rw [e1]
      simpa [jcells, jointV] using this
theorem jcells_set : ∀ (l : List J) (i : Nat), i < l.length → (jcells l).set (i * 2 + 1) (.bool false) = jcells (l.set i (hgt l i, false)) := by
  intro l
  induction l with
  | nil => intro i h; exact absurd h (by simp)
  | cons x l ih =>
    intro i h
    cases i with
    | zero => simp [jcells, jointV, hgt]
    | succ i =>
      have := ih i (by simpa using h)
      have e1 : (i + 1) * 2 + 1 = (i * 2 + 1) + 1 + 1 := by omega
      rw [e1]
      simpa [jcells, jointV, hgt] using this
theorem Rows.cellsJ {w : World} {B : Nat} {A : Option Addr} {len : Nat} {l : List J} (h : Rows 2 jointV dJ w B A len l) : Cells w A (jcells l) := by
  by_cases h0 : len = 0
  · left
    have : l = [] := List.eq_nil_of_length_eq_zero (by rw [h.1]; exact h0)
    rw [this]; rfl
  · right
    obtain ⟨b, off, h1, h2, h3⟩ := h.2 (by omega)
    refine ⟨b, off, h1, fun j u hj => ?_⟩
    have hlt : j < l.length * 2 := by
      rw [← jcells_len]
      exact (List.getElem?_eq_some_iff.1 hj).1
    have hk : j / 2 < l.length := by omega
    have hg := jcells_get l (j / 2) hk
    have hw := h3 (j / 2) (by rw [← h.1]; exact hk)
    rcases Nat.mod_two_eq_zero_or_one j with hm | hm
    · have e : j / 2 * 2 = j := by omega
      rw [e] at hg hw
      rw [hg.1] at hj
      injection hj with hj
      have := hw 0 u (by rw [← hj]; rfl)
      simpa using this
    · have e : j / 2 * 2 + 1 = j := by omega
      rw [e] at hg
      rw [hg.2] at hj
      injection hj with hj
      have := hw 1 u (by rw [← hj]; rfl)
      rw [Nat.add_assoc, e] at this
      exact this
/-- A row of joints that the call made, as a slice. -/
theorem own_joints {w : World} {base : Nat} {e : TypeId} {v : Value} {n : Nat} {l : List J} (h : w.ownsRow base e 2 v n (jcells l)) :
    ∃ A cap, v = .slice A n cap ∧ n ≤ cap ∧ cap ≤ maxLen ∧ Rows 2 jointV dJ w w.heap.size A n l ∧ (0 < n → ∃ g, A = some ⟨g, 0, none⟩ ∧ base ≤ g ∧ g < w.heap.size ∧ ∀ o, w.frozen? ⟨g, o, none⟩ = false) := by
  obtain ⟨h1, h2⟩ := h
  rw [jcells_len] at h1
  have hl : l.length = n := by omega
  rcases h2 with ⟨rfl, rfl⟩ | ⟨g, cap, cur, rfl, hb, hg, hnc, hm, hcs, ht⟩
  · exact ⟨none, 0, rfl, Nat.le_refl _, Nat.zero_le _, ⟨hl, fun h => absurd h (by omega)⟩, fun h => absurd h (by omega)⟩
  · have hlt : g < w.heap.size := (Array.getElem?_eq_some_iff.1 hg).1
    have hcell : ∀ j, j < n * 2 → w.cell? ⟨g, 0 + j, none⟩ = (jcells l)[j]? := by
      intro j hj
      rw [← ht, Nat.zero_add]
      simp [World.cell?, hg, List.getElem?_take, hj]
    refine ⟨some ⟨g, 0, none⟩, cap, rfl, hnc, hm, ⟨hl, fun h0 => ⟨g, 0, rfl, hlt, fun k hk j v hv => ?_⟩⟩, fun h0 => ⟨g, rfl, hb, hlt, fun o => by simp [World.frozen?, hg]⟩⟩
    have hj2 : j < 2 := by
      have := (List.getElem?_eq_some_iff.1 hv).1
      simpa [jointV] using this
    have hgk := jcells_get l k (by omega)
    rw [Nat.add_assoc, hcell _ (by omega)]
    rcases (by omega : j = 0 ∨ j = 1) with rfl | rfl
    · rw [Nat.add_zero, hgk.1, ← hv]; rfl
    · rw [hgk.2, ← hv]; rfl

/-- The joints when number i failed. -/
def failJ (l : List J) (i : Nat) : List J := l.set i (hgt l i, false)
theorem failJ_len (l : List J) (i : Nat) : (failJ l i).length = l.length := by simp [failJ]
theorem failJ_hgt (l : List J) (i k : Nat) : hgt (failJ l i) k = hgt l k := by
  unfold failJ hgt
  rw [List.getElem?_set]
  by_cases h : i = k
  · subst h
    rw [if_pos rfl]
    by_cases h2 : i < l.length
    · rw [if_pos h2]; rfl
    · rw [if_neg h2, List.getElem?_eq_none (by omega)]
  · rw [if_neg h]
theorem failJ_snd (l : List J) (i k : Nat) : sndB (failJ l i) k = (sndB l k && decide (k ≠ i)) := by
  unfold failJ sndB
  rw [List.getElem?_set]
  by_cases h : i = k
  · subst h
    rw [if_pos rfl]
    by_cases h2 : i < l.length
    · rw [if_pos h2]; simp
    · rw [if_neg h2, List.getElem?_eq_none (by omega)]; simp [dJ]
  · rw [if_neg h]
    have : k ≠ i := fun e => h e.symm
    simp [this]
theorem failJ_vJ (l : List J) (i : Nat) : vJ (failJ l i) = vJ l := by
  have e : jX (failJ l i) = jX l := by
    funext k
    unfold jX
    rw [failJ_hgt, failJ_hgt]
  unfold vJ
  rw [e, failJ_len]
theorem failJ_same {l : List J} {i : Nat} (h : sndB l i = false) : failJ l i = l := by
  unfold failJ
  apply List.ext_getElem?
  intro k
  rw [List.getElem?_set]
  by_cases hk : i = k
  · subst hk
    rw [if_pos rfl]
    by_cases h2 : i < l.length
    · rw [if_pos h2]
      unfold sndB at h
      unfold hgt
      rw [List.getElem?_eq_getElem h2] at h ⊢
      simp only [Option.getD_some] at h ⊢
      rw [← h]
    · rw [if_neg h2, List.getElem?_eq_none (by omega)]
  · rw [if_neg hk]

/-- Whether a joint is needed; the needed ones among the first k. -/
def ndX (c : Clb) (l : List J) (k : Nat) : Bool := sndB l k && !(few c (failJ l k)).isSome
def ndI (c : Clb) (l : List J) (k : Nat) : List Int := ((List.range k).filter (ndX c l)).map fun i : Nat => (i : Int)
theorem ndI_yes {c : Clb} {l : List J} {k : Nat} (h : ndX c l k = true) : ndI c l (k + 1) = ndI c l k ++ [(k : Int)] := by
  simp [ndI, List.range_succ, List.filter_append, h]
theorem ndI_no {c : Clb} {l : List J} {k : Nat} (h : ndX c l k = false) : ndI c l (k + 1) = ndI c l k := by
  simp [ndI, List.range_succ, List.filter_append, h]
theorem ndI_len (c : Clb) (l : List J) (k : Nat) : (ndI c l k).length ≤ k := by
  have := List.length_filter_le (ndX c l) (List.range k)
  simpa [ndI] using this
/-- The needed ones among r of the sound ones. -/
def ndS (c : Clb) (l : List J) (r : Nat) : List Int := (((sndL l l.length).take r).filter fun k => !(few c (failJ l k)).isSome).map fun i : Nat => (i : Int)
theorem ndS_len (c : Clb) (l : List J) (r : Nat) : (ndS c l r).length ≤ r := by
  have := List.length_filter_le (fun k => !(few c (failJ l k)).isSome) ((sndL l l.length).take r)
  have h2 : ((sndL l l.length).take r).length ≤ r := by rw [List.length_take]; omega
  simp only [ndS, List.length_map]; omega
theorem ndS_next {c : Clb} {l : List J} {r K : Nat} (h : (sndL l l.length)[r]? = some K) : ndS c l (r + 1) = if (few c (failJ l K)).isSome then ndS c l r else ndS c l r ++ [(K : Int)] := by
  have hlt := (List.getElem?_eq_some_iff.1 h).1
  have hK := (List.getElem?_eq_some_iff.1 h).2
  unfold ndS
  rw [List.take_succ_eq_append_getElem hlt, hK, List.filter_append, List.map_append]
  have e : [K].filter (fun k => !(few c (failJ l k)).isSome) = if (!(few c (failJ l K)).isSome) = true then [K] else [] := by rw [List.filter_cons]; rfl
  rw [e]
  cases (few c (failJ l K)).isSome
  · rfl
  · show _ ++ [] = _; rw [List.append_nil]; rfl
theorem ndS_done (c : Clb) (l : List J) : ndS c l (sndL l l.length).length = ndI c l l.length := by
  unfold ndS ndI
  rw [List.take_length]
  unfold sndL
  rw [List.filter_filter]
  congr 1
  apply List.filter_congr
  intro k _
  unfold ndX
  cases sndB l k <;> simp
def ndE (c : Clb) (l : List J) : Int := if okCJ c l then (if (few c l).isSome then 0 else 8) else 1
def ndL (c : Clb) (l : List J) : List Int := if okCJ c l then (if (few c l).isSome then ndI c l l.length else []) else []
def faE (l : List J) (i : Int) : Int := if vJ l then (if withinB i 0 ((l.length : Int) - 1) then 0 else 7) else 1
def faL (l : List J) (i : Int) : List J := if vJ l then (if withinB i 0 ((l.length : Int) - 1) then failJ l i.toNat else []) else []
/-- P3.4. -/
theorem needed_facts {c : Clb} {l : List J} {i : Int} (h1 : ndE c l = 0) (h2 : faE l i = 0) : (i ∈ ndL c l ∧ fewE c (faL l i) = 8) ∨ (i ∉ ndL c l ∧ fewE c (faL l i) = 0) := by
  have hok : okCJ c l = true := by
    cases h : okCJ c l
    · unfold ndE at h1; rw [h] at h1; simp at h1
    · rfl
  have hf : (few c l).isSome = true := by
    cases h : (few c l).isSome
    · unfold ndE at h1; rw [hok, h] at h1; simp at h1
    · rfl
  have hv : vJ l = true := by have := hok; unfold okCJ at this; rw [Bool.and_eq_true] at this; exact this.2
  have hw : withinB i 0 ((l.length : Int) - 1) = true := by
    cases h : withinB i 0 ((l.length : Int) - 1)
    · unfold faE at h2; rw [hv, h] at h2; simp at h2
    · rfl
  have hL : faL l i = failJ l i.toNat := by unfold faL; rw [if_pos hv, if_pos hw]
  have hN : ndL c l = ndI c l l.length := by unfold ndL; rw [if_pos hok, if_pos hf]
  have hb := withinB_iff.1 hw
  have hok2 : okCJ c (failJ l i.toNat) = true := by
    unfold okCJ at hok ⊢
    rw [failJ_vJ]; exact hok
  have hE : fewE c (failJ l i.toNat) = if (few c (failJ l i.toNat)).isSome then 0 else 8 := by unfold fewE; rw [if_pos hok2]
  have hmem : i ∈ ndI c l l.length ↔ ndX c l i.toNat = true := by
    unfold ndI
    rw [List.mem_map]
    constructor
    · rintro ⟨k, hk, rfl⟩
      rw [Int.toNat_natCast]
      exact (List.mem_filter.1 hk).2
    · intro h
      exact ⟨i.toNat, List.mem_filter.2 ⟨List.mem_range.2 (by omega), h⟩, by omega⟩
  rw [hL, hN, hmem, hE]
  cases hs : sndB l i.toNat
  · rw [failJ_same hs, hf]
    right
    refine ⟨?_, rfl⟩
    unfold ndX; rw [hs]; simp
  · unfold ndX
    rw [hs]
    cases hx : (few c (failJ l i.toNat)).isSome
    · left; exact ⟨by simp, rfl⟩
    · right; exact ⟨by simp, rfl⟩
end Go.Proofs.YtjgibipficojaaaDoor
