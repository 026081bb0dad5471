/- Plans that came in, opened to their cells; many. -/
import Derived.Test.YtgijekhlbkfanaaOpenR
import Derived.Test.YtgijekhlbkfanaaJobW
import Derived.Test.YtgijekhlbkfanaaJobK
import Derived.SliceStrings
set_option linter.unusedSimpArgs false
set_option linter.unusedVariables false
namespace Go.Proofs.Ytgijekhlbkfanaa
open Go.ChangeShapes Go.WideShapes Go.RowKit Go.Deep

/-- What a task of a plan that came in has. -/
def gTk (W : World) (x : TkR) : Prop := ((x.1.2.1 ≤ x.1.2.2 ∧ x.1.2.2 ≤ 9223372036854775807) ∧ Strs W W.heap.size x.1.1 x.1.2.1 x.2.af) ∧ (x.2.nm.size ≤ 9223372036854775807 ∧ ∀ s ∈ x.2.af, s.size ≤ 9223372036854775807) ∧ bd64 x.2.dy ∧ bd64 x.2.mn
section
variable {H : Type} {enc : TypeId × Value → H} {P : Program} {w : World} {base : Nat} {spare : Nat → Bool} {held : Bool}
theorem leaf_string {n : Nat} {t u : TypeId} {ls : List TypeId} (hl : leaves P n t = some ls) {fuel : Nat} {cs : List Value} {x : DataW H × List MemPlace} (hx : DataW.trod enc P w base spare held fuel t cs = some x)
    (j : Nat) (hu : ls[j]? = some u) (ht : P.underlying u = some .string) : ∃ a : ByteArray, cs[j]? = some (.string a) ∧ a.size ≤ 9223372036854775807 := by
  obtain ⟨v, hv, m, y, hy⟩ := leaf_of n hl hx j u hu (by rw [ht]; simp) (by rw [ht]; simp)
  obtain ⟨a, ha, _, hw⟩ := DataW.trod_string ht hy
  simp at ha
  subst ha
  exact ⟨a, hv, by unfold maxLen at hw; omega⟩
/-- A slice of texts that came in. -/
theorem open_strs {t e : TypeId} (ht : P.underlying t = some (.slice e)) (he : P.underlying e = some .string) (hc : P.cellsOf e = 1) {fuel : Nat} {v : Value} {x : DataW H × List MemPlace} (hx : DataW.trod enc P w base spare held fuel t [v] = some x) :
    ∃ A len cap ss, v = .slice A len cap ∧ (len ≤ cap ∧ cap ≤ 9223372036854775807) ∧ Strs w w.heap.size A len ss ∧ ∀ s ∈ ss, s.size ≤ 9223372036854775807 := by
  rcases open_strings ht he hc hx with ⟨hcs, _⟩ | ⟨a, len, cap, ss, hcs, hb, hlc, hcm, hss, -, hel, hsz⟩
  · simp at hcs
    subst hcs
    exact ⟨none, 0, 0, [], rfl, ⟨Nat.le_refl _, by decide⟩, ⟨rfl, fun h => by omega⟩, fun s h => by cases h⟩
  · simp at hcs
    subst hcs
    have hlm : len ≤ ss.length := by rw [hss]; split <;> omega
    refine ⟨some a, len, cap, ss.take len, rfl, ⟨hlc, by unfold maxLen at hcm; omega⟩, ⟨by rw [List.length_take]; omega, fun h0 => ?_⟩, fun s h => by have := hsz s (List.mem_of_mem_take h); unfold maxLen at this; omega⟩
    have c0 := hel 0 (by omega)
    have haf := addr_form ⟨_, c0⟩
    refine ⟨a.block, a.off, congrArg some haf, by have := block_of_cell c0; simpa [Addr.add] using this, fun k hk j v hj => ?_⟩
    cases j with
    | zero =>
      have c1 := hel k (by omega)
      rw [addr_eq c1 ⟨_, c0⟩] at c1
      simp [str1] at hj
      subst hj
      rw [List.getElem?_take, if_pos hk]
      simpa [List.getD_eq_getElem?_getD] using c1
    | succ j => simp [str1] at hj
/-- A task that came in. -/
theorem el_task {e i1 i2 i3 i4 s : TypeId} (hl : leaves P 8 e = some [i1, i2, i3, i4]) (h1 : P.underlying i1 = some .string) (h2 : P.underlying i2 = some (.int .i64)) (h3 : P.underlying i3 = some (.int .i64)) (h4 : P.underlying i4 = some (.slice s)) (h5 : P.underlying s = some .string) (h6 : P.cellsOf s = 1)
    {fuel : Nat} {cs : List Value} {x : DataW H × List MemPlace} (hlen : cs.length = 4) (hx : DataW.trod enc P w base spare held fuel e cs = some x) : ∃ a, tk4 a = cs ∧ gTk w a := by
  obtain ⟨a, b, c, d, rfl⟩ := list4 hlen
  obtain ⟨p, hp, bp⟩ := leaf_string hl hx 0 rfl h1
  obtain ⟨q, hq, bq⟩ := leaf_int hl hx 1 rfl h2
  obtain ⟨r, hr, br⟩ := leaf_int hl hx 2 rfl h3
  obtain ⟨v, hv, m, y, hy⟩ := leaf_slice hl hx 3 rfl h4
  obtain ⟨A, len, cap, ss, rfl, g1, g2, g3⟩ := open_strs h4 h5 h6 hy
  simp at hp hq hr hv
  subst hp hq hr hv
  exact ⟨((A, len, cap), ⟨p, q, r, ss⟩), rfl, ⟨g1, g2⟩, ⟨bp, g3⟩, bq, br⟩
end
/-- The plan that came in. -/
theorem plan_in {w : World} {A : Option Addr} {len : Nat} {xs : List TkR} (h : Rows 4 tk4 dTR w w.heap.size A len xs) (hg : ∀ x ∈ xs, gTk w x) : Plan w w.heap.size A len (xs.map (·.2)) := plan_of_rows h fun x hx => (hg x hx).1
theorem tkA_in {xs : List TkR} {i : Nat} (hi : i < (xs.map (·.2)).length) : ∃ x ∈ xs, tkA (xs.map (·.2)) i = x.2 := by
  rw [List.length_map] at hi
  refine ⟨xs[i], List.getElem_mem hi, ?_⟩
  rw [tkA_get (by rw [List.length_map]; exact hi), List.getElem_map]
theorem sml_in {w : World} {xs : List TkR} (hg : ∀ x ∈ xs, gTk w x) (hl : (xs.map (·.2)).length ≤ 1000) (ha : ∀ i, i < (xs.map (·.2)).length → (tkA (xs.map (·.2)) i).af.length ≤ 1000) : Sml (xs.map (·.2)) := by
  refine ⟨hl, fun i hi => ?_, ha, fun i hi s hs => ?_⟩
  · obtain ⟨x, hx, e⟩ := tkA_in hi; rw [e]; exact (hg x hx).2.1.1
  · obtain ⟨x, hx, e⟩ := tkA_in hi; rw [e] at hs; exact (hg x hx).2.1.2 s hs
end Go.Proofs.Ytgijekhlbkfanaa
