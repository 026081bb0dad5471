/- Arguments that come in: slices of structs of any shape, slices of slices, opened to rows of cells. -/
import Derived.Test.YthpbkbbmedpecaaDoorOpen
import Derived.Test.YthpbkbbmedpecaaDoorRowsB
namespace Go.Proofs.YthpbkbbmedpecaaDoor
open Go.ChangeShapes Go.WideShapes Go.RowKit Go.Deep

section
variable {H : Type} {enc : TypeId × Value → H} {P : Program} {w : World} {base : Nat} {spare : Nat → Bool} {held : Bool}
/-- A slice that came in, opened row by row: each row of c cells is that of some a. -/
theorem open_rows {α : Type} {t e : TypeId} {c : Nat} (ht : P.underlying t = some (.slice e)) (hC : P.cellsOf e = c) (hc : 0 < c) (f : α → List Value) (d : α) (good : α → Prop)
    (hel : ∀ {fuel : Nat} {cs : List Value} {x : DataW H × List MemPlace}, cs.length = c → DataW.trod enc P w base spare held fuel e cs = some x → ∃ a, f a = cs ∧ good a)
    {fuel : Nat} {v : Value} {x : DataW H × List MemPlace} (hx : DataW.trod enc P w base spare held fuel t [v] = some x) :
    ∃ A len cap xs, v = .slice A len cap ∧ len ≤ cap ∧ cap ≤ maxLen ∧ Rows c f d w w.heap.size A len xs ∧ ∀ a ∈ xs, good a := by
  rcases open_slice ht hx with ⟨hcs, _⟩ | ⟨a, len, cap, m, n, D, Pl, hcs, hb, hlc, hcm, hm, _, hel'⟩
  · simp at hcs
    subst hcs
    exact ⟨none, 0, 0, [], rfl, Nat.le_refl _, by decide, ⟨rfl, fun h => by omega⟩, fun p hp => by cases hp⟩
  · simp at hcs
    subst hcs
    have hlm : len ≤ m := by rw [hm]; split <;> omega
    have key : ∀ i, i < len → ∃ p : α, (∀ j v, (f p)[j]? = some v → w.cell? (a.add (i * c + j)) = some v) ∧ (f p).length = c ∧ good p := by
      intro i hi
      obtain ⟨cs', hc', htr⟩ := hel' i (by omega)
      rw [hC] at hc'
      obtain ⟨_, hlen, hat⟩ := World.cells?_some hc'
      obtain ⟨p, hp, hg⟩ := hel (by simpa using hlen) htr
      refine ⟨p, fun j v hj => ?_, by rw [hp]; simpa using hlen, hg⟩
      rw [hp] at hj
      have hjc : j < c := by
        have := (List.getElem?_eq_some_iff.1 hj).1
        have h2 : cs'.length = c := by simpa using hlen
        omega
      have := hat j (by omega)
      rw [hj] at this
      rw [← this]
      congr 1
      exact (Go.Deep.add_add a (i * c) j).symm
    obtain ⟨xs, hxl, hxs⟩ := list_of_fun key
    refine ⟨some a, len, cap, xs, rfl, hlc, hcm, ⟨hxl, fun h0 => ?_⟩, ?_⟩
    · obtain ⟨p0, _, c0, hl0, _⟩ := hxs 0 h0
      obtain ⟨v0, hv0⟩ : ∃ v, (f p0)[0]? = some v := ⟨_, List.getElem?_eq_getElem (by omega)⟩
      have c00 := c0 0 v0 hv0
      have haf := addr_form ⟨_, by simpa using c00⟩
      refine ⟨a.block, a.off, congrArg some haf, by have := block_of_cell c00; simpa [Addr.add] using this, fun k hk j v hj => ?_⟩
      obtain ⟨p, hp, c1, _⟩ := hxs k hk
      rw [hp] at hj
      have c2 := c1 j v hj
      rw [addr_eq c2 ⟨_, by simpa using c00⟩] at c2
      simpa [Nat.add_assoc] using c2
    · intro p hp
      obtain ⟨i, hi, rfl⟩ := List.getElem_of_mem hp
      obtain ⟨q, hq, _, _, b⟩ := hxs i (by omega)
      rw [List.getElem?_eq_getElem hi] at hq
      cases hq
      exact b
theorem open_rows_at {α : Type} {t e : TypeId} {c : Nat} (ht : P.underlying t = some (.slice e)) (hC : P.cellsOf e = c) (hc : 0 < c) (f : α → List Value) (d : α) (good : α → Prop)
    (hel : ∀ {fuel : Nat} {cs : List Value} {x : DataW H × List MemPlace}, cs.length = c → DataW.trod enc P w base spare held fuel e cs = some x → ∃ a, f a = cs ∧ good a)
    {fuel : Nat} {A : Option Addr} {len cap : Nat} {x : DataW H × List MemPlace} (hx : DataW.trod enc P w base spare held fuel t [.slice A len cap] = some x) :
    ∃ xs, len ≤ cap ∧ cap ≤ maxLen ∧ Rows c f d w w.heap.size A len xs ∧ ∀ a ∈ xs, good a := by
  obtain ⟨A', l', c', xs, e, h⟩ := open_rows ht hC hc f d good hel hx
  injection e with e1 e2 e3
  subst e1 e2 e3
  exact ⟨xs, h⟩
def bd64 (n : Int) : Prop := -9223372036854775808 ≤ n ∧ n ≤ 9223372036854775807
/-- An element of three ints. -/
theorem el_int3 {e i1 i2 i3 : TypeId} (hl : leaves P 8 e = some [i1, i2, i3]) (h1 : P.underlying i1 = some (.int .i64)) (h2 : P.underlying i2 = some (.int .i64)) (h3 : P.underlying i3 = some (.int .i64))
    {fuel : Nat} {cs : List Value} {x : DataW H × List MemPlace} (hlen : cs.length = 3) (hx : DataW.trod enc P w base spare held fuel e cs = some x) : ∃ a, int3 a = cs ∧ (bd64 a.1 ∧ bd64 a.2.1 ∧ bd64 a.2.2) := by
  obtain ⟨a, b, c, rfl⟩ := list3 hlen
  obtain ⟨p, hp, bp⟩ := leaf_int hl hx 0 rfl h1
  obtain ⟨q, hq, bq⟩ := leaf_int hl hx 1 rfl h2
  obtain ⟨r, hr, br⟩ := leaf_int hl hx 2 rfl h3
  simp at hp hq hr
  subst hp hq hr
  exact ⟨(p, q, r), rfl, bp, bq, br⟩
/-- An element that is a slice of pairs. -/
theorem el_pairs {t e i1 i2 : TypeId} (ht : P.underlying t = some (.slice e)) (hC : P.cellsOf e = 2) (hl : leaves P 8 e = some [i1, i2]) (h1 : P.underlying i1 = some (.int .i64)) (h2 : P.underlying i2 = some (.int .i64))
    {fuel : Nat} {cs : List Value} {x : DataW H × List MemPlace} (hlen : cs.length = 1) (hx : DataW.trod enc P w base spare held fuel t cs = some x) :
    ∃ a, sliceU a = cs ∧ ((a.1.2.1 ≤ a.1.2.2 ∧ a.1.2.2 ≤ 9223372036854775807) ∧ Pairs w w.heap.size a.1.1 a.1.2.1 a.2) := by
  obtain ⟨v, rfl⟩ := list1 hlen
  obtain ⟨A, len, cap, xs, rfl, h1, h2, h3, _⟩ := open_pairs ht hC hl h1 h2 hx
  exact ⟨((A, len, cap), xs), rfl, ⟨h1, by unfold maxLen at h2; omega⟩, h3⟩
end
end Go.Proofs.YthpbkbbmedpecaaDoor
