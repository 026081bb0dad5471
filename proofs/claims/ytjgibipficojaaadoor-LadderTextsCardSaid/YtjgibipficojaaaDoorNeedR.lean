/- Dogs: the reference's array of needs. -/
import Derived.Test.YtjgibipficojaaaDoorCnt
import Derived.Laws.OwnMore
set_option linter.unusedSimpArgs false
set_option linter.unusedVariables false
namespace Go.Proofs.YtjgibipficojaaaDoor
open Go.RowKit
attribute [local go_sem] Later.cell

/-- The array when the needs of the joints above i are known, and a stands at i. -/
def arrQ (c : Clb) (l : List J) (i : Int) (a : Int) : List Int := (List.range l.length).map fun k : Nat => if (k : Int) = i then a else if i < k then (need c l k : Int) else 0
theorem arrQ_len (c : Clb) (l : List J) (i a : Int) : (arrQ c l i a).length = l.length := by simp [arrQ]
theorem arrQ_at (c : Clb) (l : List J) (i a : Int) {k : Nat} (h : k < l.length) : (arrQ c l i a)[k]?.getD 0 = if (k : Int) = i then a else if i < k then (need c l k : Int) else 0 := by
  simp [arrQ, List.getElem?_map, List.getElem?_range h]
theorem arrQ_set (c : Clb) (l : List J) (i : Nat) (a v : Int) (h : i < l.length) : (arrQ c l i a).set i v = arrQ c l i v := by
  apply List.ext_getElem (by simp [arrQ])
  intro k h1 h2
  rw [List.getElem_set]
  have hk : k < l.length := by rw [arrQ_len] at h2; exact h2
  simp only [arrQ, List.getElem_map, List.getElem_range]
  by_cases hik : i = k
  · subst hik; simp
  · have e : ¬ ((k : Int) = i) := by omega
    rw [if_neg hik, if_neg e, if_neg e]
theorem arrQ_start (c : Clb) (l : List J) : List.replicate l.length (0 : Int) = arrQ c l ((l.length : Int) - 1) 0 := by
  apply List.ext_getElem (by simp [arrQ])
  intro k h1 h2
  have hk : k < l.length := by simpa using h1
  simp only [arrQ, List.getElem_map, List.getElem_range, List.getElem_replicate]
  by_cases hik : (k : Int) = (l.length : Int) - 1
  · rw [if_pos hik]
  · rw [if_neg hik, if_neg (by omega)]
theorem arrQ_next (c : Clb) (l : List J) (i : Nat) : arrQ c l i (need c l i) = arrQ c l ((i : Int) - 1) 0 := by
  unfold arrQ
  apply List.map_congr_left
  intro k hk
  by_cases h1 : (k : Int) = i
  · have h2 : k = i := by omega
    rw [if_pos h1, if_neg (by omega), if_pos (by omega), h2]
  · rw [if_neg h1]
    by_cases h2 : (i : Int) < k
    · rw [if_pos h2, if_neg (by omega), if_pos (by omega)]
    · rw [if_neg h2]
      by_cases h3 : (k : Int) = (i : Int) - 1
      · rw [if_pos h3]
      · rw [if_neg h3, if_neg (by omega)]
theorem arrQ_done (c : Clb) (l : List J) {k : Nat} (h : k < l.length) : (arrQ c l (-1) 0)[k]?.getD 0 = (need c l k : Int) := by
  rw [arrQ_at c l _ _ h, if_neg (by omega), if_pos (by omega)]
/-- How the need of i stands when the joints below k were looked at. -/
def RcAt (c : Clb) (l : List J) (i k a : Nat) : Prop := MinS (fun q => i < q ∧ q < k ∧ hgt l q - hgt l i ≤ c.ga) (need c l) a
theorem RcAt.zero (c : Clb) (l : List J) (i : Nat) : RcAt c l i (i + 1) 0 := MinS.none fun q hq => by omega
theorem RcAt.skip {c : Clb} {l : List J} {i k a : Nat} (h : RcAt c l i k a) (hn : need c l k = 0) : RcAt c l i (k + 1) a := by
  refine MinS.same h fun q hq => ?_
  constructor
  · intro hh
    have : q ≠ k := fun e => by subst e; omega
    exact ⟨hh.1, by omega, hh.2.2⟩
  · intro hh; exact ⟨hh.1, by omega, hh.2.2⟩
theorem RcAt.iff {c : Clb} {l : List J} {i k : Nat} (hik : i < k) (ha : hgt l k - hgt l i ≤ c.ga) (q : Nat) : (i < q ∧ q < k + 1 ∧ hgt l q - hgt l i ≤ c.ga) ↔ (i < q ∧ q < k ∧ hgt l q - hgt l i ≤ c.ga) ∨ q = k := by
  constructor
  · intro hh
    by_cases e : q = k
    · exact .inr e
    · exact .inl ⟨hh.1, by omega, hh.2.2⟩
  · rintro (hh | rfl)
    · exact ⟨hh.1, by omega, hh.2.2⟩
    · exact ⟨hik, by omega, ha⟩
theorem RcAt.low {c : Clb} {l : List J} {i k a : Nat} (h : RcAt c l i k a) (hik : i < k) (ha : hgt l k - hgt l i ≤ c.ga) (hn : 0 < need c l k) (hl : a = 0 ∨ need c l k + 1 < a) : RcAt c l i (k + 1) (need c l k + 1) := MinS.low h (RcAt.iff hik ha) hn hl
theorem RcAt.stay {c : Clb} {l : List J} {i k a : Nat} (h : RcAt c l i k a) (hik : i < k) (ha : hgt l k - hgt l i ≤ c.ga) (hl : ¬ (a = 0 ∨ need c l k + 1 < a)) : RcAt c l i (k + 1) a := MinS.stay h (RcAt.iff hik ha) (.inr ⟨by omega, by omega⟩)
theorem RcAt.done {c : Clb} {l : List J} {i k a : Nat} (h : RcAt c l i k a) (hi : i < l.length) (hs : sndB l i = true) (hn : ¬ c.to ≤ hgt l i + c.ga) (hk : k ≤ l.length) (hend : ∀ q, k ≤ q → q < l.length → ¬ hgt l q - hgt l i ≤ c.ga) : a = need c l i := by
  refine MinS.unique h (((need_spec c l i hi).2.2 hs hn).same fun q hq => ?_)
  have := need_snd hq
  constructor
  · intro hh; exact ⟨hh.1, by omega, hh.2.2⟩
  · intro hh
    refine ⟨hh.1, ?_, hh.2.2⟩
    rcases Nat.lt_or_ge q k with h1 | h1
    · exact h1
    · exact absurd hh.2.2 (hend q h1 hh.2.1)
theorem RcAt.le {c : Clb} {l : List J} {i k a : Nat} (h : RcAt c l i k a) : a ≤ l.length + 1 := by
  rcases h with ⟨h, _⟩ | ⟨q, _, _, h, _⟩
  · omega
  · have := need_bd c l q; omega
theorem icells_set (xs : List Int) (i : Nat) (v : Int) : (icells xs).set i (.int .i64 v) = icells (xs.set i v) := by simp [icells, List.map_set]

def NOut (c : Clb) (l : List J) (w0 : World) (g : Nat) (x : Value) (wr : World) : Prop :=
  ∃ i : Int, -1 ≤ i ∧ i < l.length ∧ x = .int .i64 i ∧ Hid (wr.ownsRow g 3 1 (.slice (some ⟨g, 0, none⟩) l.length l.length) l.length (icells (arrQ c l i 0))) ∧ w0.grownBy wr (some g)
theorem NOut.mk {c : Clb} {l : List J} {w0 : World} {g : Nat} {x : Value} {wr : World} (i : Int) (h1 : -1 ≤ i) (h2 : i < l.length) (h3 : x = .int .i64 i) (h4 : Hid (wr.ownsRow g 3 1 (.slice (some ⟨g, 0, none⟩) l.length l.length) l.length (icells (arrQ c l i 0)))) (h5 : w0.grownBy wr (some g)) : NOut c l w0 g x wr := ⟨i, h1, h2, h3, h4, h5⟩
def NInn (c : Clb) (l : List J) (w0 : World) (g i : Nat) (x : Value) (wr : World) : Prop :=
  ∃ k a : Nat, i < k ∧ k ≤ l.length ∧ x = .int .i64 k ∧ Hid (RcAt c l i k a) ∧ Hid (wr.ownsRow g 3 1 (.slice (some ⟨g, 0, none⟩) l.length l.length) l.length (icells (arrQ c l i a))) ∧ w0.grownBy wr (some g)
theorem NInn.mk {c : Clb} {l : List J} {w0 : World} {g i : Nat} {x : Value} {wr : World} (k a : Nat) (h1 : i < k) (h2 : k ≤ l.length) (h3 : x = .int .i64 k) (h4 : Hid (RcAt c l i k a)) (h5 : Hid (wr.ownsRow g 3 1 (.slice (some ⟨g, 0, none⟩) l.length l.length) l.length (icells (arrQ c l i a)))) (h6 : w0.grownBy wr (some g)) : NInn c l w0 g i x wr := ⟨k, a, h1, h2, h3, h4, h5, h6⟩
/-- A store into the row. -/
theorem own_store {w : World} {base g n : Nat} {e : TypeId} {xs : List Int} (h : w.ownsRow base e 1 (.slice (some ⟨g, 0, none⟩) n n) n (icells xs)) (i : Nat) (v : Int) : (w.setCell ⟨g, i, none⟩ (.int .i64 v)).ownsRow base e 1 (.slice (some ⟨g, 0, none⟩) n n) n (icells (xs.set i v)) ∧ w.grownBy (w.setCell ⟨g, i, none⟩ (.int .i64 v)) (some g) := by
  have := h.stored i (.int .i64 v)
  rw [icells_set] at this
  exact this

theorem own_at {w : World} {base g n : Nat} {e : TypeId} {xs : List Int} (h : w.ownsRow base e 1 (.slice (some ⟨g, 0, none⟩) n n) n (icells xs)) : g < w.heap.size ∧ (∀ k, k < n → w.cell? ⟨g, k, none⟩ = some (.int .i64 (xs[k]?.getD 0))) ∧ ∀ k, w.frozen? ⟨g, k, none⟩ = false := by
  refine ⟨?_, fun k hk => ?_, fun k => h.frozenAt k⟩
  · rcases h.2 with ⟨h', _⟩ | ⟨g', cap', cur, h', hb, hg, _⟩
    · simp at h'
    · simp only [Value.slice.injEq, Option.some.injEq, Addr.mk.injEq, and_true, true_and] at h'
      obtain ⟨rfl, rfl⟩ := h'
      exact (Array.getElem?_eq_some_iff.1 hg).1
  · obtain ⟨A', cap', hv, _, _, hI, _⟩ := own_ints h
    injection hv with e1 e2 e3
    subst e1
    obtain ⟨b, off, hb, _, hc⟩ := hI.at_ k hk
    injection hb with hb
    injection hb with hb1 hb2 hb3
    subst hb1 hb2
    simpa using hc
end Go.Proofs.YtjgibipficojaaaDoor
