/- Plans of the call's own: a store into one; the program's copied, Delayed. -/
import Derived.Test.YtmionebfepkolaaGreatDoorYJd
import Derived.Test.YtmionebfepkolaaGreatDoorJobQ9
import Derived.Test.YtmionebfepkolaaGreatDoorJobR5
set_option linter.unusedSimpArgs false
set_option linter.unusedVariables false
namespace Go.Proofs.YtmionebfepkolaaGreatDoor
open Go.RowKit
attribute [local go_sem] Later.cell Same.cell

theorem own_strs {w : World} {base : Nat} {e : TypeId} {v : Value} {n : Nat} {ss : List ByteArray} (h : w.ownsRow base e 1 v n (scel ss)) :
    ∃ A cap, v = .slice A n cap ∧ n ≤ cap ∧ cap ≤ maxLen ∧ Strs w w.heap.size A n ss ∧ ∀ b off, A = some ⟨b, off, none⟩ → base ≤ b := by
  obtain ⟨h1, h2⟩ := h
  rw [scel_len] at h1
  have hl : ss.length = n := by omega
  rcases h2 with ⟨rfl, rfl⟩ | ⟨g, cap, cur, rfl, hb, hg, hnc, hm, hcs, ht⟩
  · exact ⟨none, 0, rfl, Nat.le_refl _, Nat.zero_le _, ⟨hl, fun h => absurd h (by omega)⟩, fun b off h => by cases h⟩
  · have hlt : g < w.heap.size := (Array.getElem?_eq_some_iff.1 hg).1
    have hcell : ∀ j, j < n → w.cell? ⟨g, 0 + j, none⟩ = (scel ss)[j]? := by
      intro j hj
      rw [← ht, Nat.zero_add]
      simp [World.cell?, hg, List.getElem?_take, hj]
    refine ⟨some ⟨g, 0, none⟩, cap, rfl, hnc, hm, ⟨hl, fun h0 => ⟨g, 0, rfl, hlt, fun k hk j u hu => ?_⟩⟩, fun b off h => by injection h with h; injection h with h h'; omega⟩
    have hj : j = 0 := by
      have := (List.getElem?_eq_some_iff.1 hu).1
      simpa [str1] using this
    subst hj
    rw [Nat.add_zero, Nat.mul_one, hcell k hk]
    have hkl : k < ss.length := by omega
    unfold scel
    rw [List.getElem?_map, List.getElem?_eq_getElem hkl]
    have : u = .string ss[k] := by
      rw [List.getElem?_eq_getElem hkl] at hu
      simpa [str1] using hu.symm
    rw [this]; rfl
theorem Strs.store {w : World} {B g i n : Nat} {A : Option Addr} {ss : List ByteArray} {v : Value} (h : Strs w B A n ss) (hn : 0 < n → ∀ b off, A = some ⟨b, off, none⟩ → b ≠ g) : Strs (w.setCell ⟨g, i, none⟩ v) B A n ss := by
  refine ⟨h.1, fun h0 => ?_⟩
  obtain ⟨b, off, h1, h2, h3⟩ := h.2 h0
  refine ⟨b, off, h1, h2, fun k hk j u hu => ?_⟩
  have hne := hn h0 b off h1
  rw [World.cell?_setCell_other _ _ _ _ (by intro e; injection e with e; exact hne e.symm)]
  exact h3 k hk j u hu
/-- A plan of the call's own, in block g. -/
structure OPl (W : World) (base g cap n : Nat) (xs : List TkR) : Prop where
  own : W.ownsRow base 34 4 (.slice (some ⟨g, 0, none⟩) n cap) n (tcel xs)
  ok : ∀ x ∈ xs, okR W W.heap.size x
  nb : ∀ x ∈ xs, 0 < x.1.2.1 → ∀ b off, x.1.1 = some ⟨b, off, none⟩ → b ≠ g
theorem OPl.len {W : World} {base g cap n : Nat} {xs : List TkR} (h : OPl W base g cap n xs) : xs.length = n := by
  have := h.own.1; rw [tcel_len] at this; omega
theorem OPl.at_ {W : World} {base g cap n : Nat} {xs : List TkR} (h : OPl W base g cap n xs) : g < W.heap.size ∧ base ≤ g ∧ (∀ k j, k < n → j < 4 → W.cell? ⟨g, k * 4 + j, none⟩ = (tk4 (xs[k]?.getD dTR))[j]?) ∧ ∀ k, W.frozen? ⟨g, k, none⟩ = false := by
  have hl := h.len
  have hfr := fun k => h.own.frozenAt k
  refine ⟨?_, ?_, fun k j hk hj => (h.own.cellAt (k * 4 + j) (by omega)).trans (tcel_get xs k j (by omega) hj), hfr⟩
  · rcases h.own.2 with ⟨h', _⟩ | ⟨g', cap', cur, h', hb, hg, _⟩
    · simp at h'
    · simp only [Value.slice.injEq, Option.some.injEq, Addr.mk.injEq, and_true, true_and] at h'
      obtain ⟨rfl, rfl⟩ := h'
      exact (Array.getElem?_eq_some_iff.1 hg).1
  · rcases h.own.2 with ⟨h', _⟩ | ⟨g', cap', cur, h', hb, hg, _⟩
    · simp at h'
    · simp only [Value.slice.injEq, Option.some.injEq, Addr.mk.injEq, and_true, true_and] at h'
      obtain ⟨rfl, rfl⟩ := h'
      exact hb
theorem OPl.rows {W : World} {base g cap n : Nat} {xs : List TkR} (h : OPl W base g cap n xs) : Rows 4 tk4 dTR W W.heap.size (some ⟨g, 0, none⟩) n xs := by
  obtain ⟨h1, -, h3, -⟩ := h.at_
  refine ⟨h.len, fun h0 => ⟨g, 0, rfl, h1, fun k hk j v hv => ?_⟩⟩
  have hj : j < 4 := by
    have := (List.getElem?_eq_some_iff.1 hv).1
    simpa [tk4] using this
  rw [Nat.zero_add, h3 k j hk hj]
  exact hv
theorem OPl.plan {W : World} {base g cap n : Nat} {xs : List TkR} (h : OPl W base g cap n xs) : Plan W W.heap.size (some ⟨g, 0, none⟩) n (xs.map (·.2)) := plan_of_rows h.rows fun x hx => h.ok x hx
theorem okR.go {w w' : World} {x : TkR} (h : okR w w.heap.size x) (hb : Below w.heap.size w w') : okR w' w'.heap.size x := ⟨h.1, (h.2.below hb).more hb.size⟩
theorem OPl.later {W W' : World} {base g cap n : Nat} {xs : List TkR} (h : OPl W base g cap n xs) (hb : Below W.heap.size W W') : OPl W' base g cap n xs :=
  ⟨jown_later h.own hb, fun x hx => (h.ok x hx).go hb, h.nb⟩
theorem OPl.store {W : World} {base g cap n k j : Nat} {xs : List TkR} {v : Value} {y : TkR} (h : OPl W base g cap n xs) (hk : k < n) (hj : j < 4) (hy : tk4 y = (tk4 (xs[k]?.getD dTR)).set j v) (ho : okR W W.heap.size y) (hn : 0 < y.1.2.1 → ∀ b off, y.1.1 = some ⟨b, off, none⟩ → b ≠ g) :
    OPl (W.setCell ⟨g, k * 4 + j, none⟩ v) base g cap n (xs.set k y) := by
  have hst : ∀ x, okR W W.heap.size x → (0 < x.1.2.1 → ∀ b off, x.1.1 = some ⟨b, off, none⟩ → b ≠ g) → okR (W.setCell ⟨g, k * 4 + j, none⟩ v) (W.setCell ⟨g, k * 4 + j, none⟩ v).heap.size x := fun x h1 h2 => by
    rw [World.size_setCell]
    exact ⟨h1.1, h1.2.store h2⟩
  refine ⟨?_, fun x hx => ?_, fun x hx => ?_⟩
  · rw [← tcel_set xs k j v y (by rw [h.len]; exact hk) hj hy]
    exact (h.own.stored (k * 4 + j) v).1
  · rcases List.mem_or_eq_of_mem_set hx with hx | rfl
    · exact hst x (h.ok x hx) (h.nb x hx)
    · exact hst _ ho hn
  · rcases List.mem_or_eq_of_mem_set hx with hx | rfl
    · exact h.nb x hx
    · exact hn
theorem own_tasks {w : World} {base : Nat} {v : Value} {n : Nat} {xs : List TkR} (h : w.ownsRow base 34 4 v n (tcel xs)) (hn : 0 < n) : ∃ g cap, v = .slice (some ⟨g, 0, none⟩) n cap ∧ n ≤ cap ∧ cap ≤ maxLen := by
  have h1 := h.1
  rw [tcel_len] at h1
  rcases h.2 with ⟨rfl, e⟩ | ⟨g, cap, cur, rfl, hb, hg, hnc, hm, hcs, ht⟩
  · omega
  · exact ⟨g, cap, rfl, hnc, hm⟩
/-- What the loop of copied keeps. -/
def CoR (l : List Tk) (w : World) (g cap : Nat) (k' : Value) (W : World) : Prop := ∃ (k : Nat) (xs : List TkR), k ≤ l.length ∧ k' = .int .i64 (k : Int) ∧ xs.map (·.2) = l ∧ Hid (OPl W w.heap.size g cap l.length xs) ∧ Below w.heap.size w W
end Go.Proofs.YtmionebfepkolaaGreatDoor
