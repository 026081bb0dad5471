/- Arguments that come in: slices of ints, of joints. -/
import Derived.Test.YtjgibipficojaaaDoorOpenR
import Derived.Test.YtjgibipficojaaaDoorJoint
namespace Go.Proofs.YtjgibipficojaaaDoor
open Go.ChangeShapes Go.WideShapes Go.RowKit Go.Deep

section
variable {H : Type} {enc : TypeId × Value → H} {P : Program} {w : World} {base : Nat} {spare : Nat → Bool} {held : Bool}
/-- A bool leaf. -/
theorem leaf_bool {n : Nat} {t u : TypeId} {ls : List TypeId} (hl : leaves P n t = some ls) {fuel : Nat} {cs : List Value} {x : DataW H × List MemPlace} (hx : DataW.trod enc P w base spare held fuel t cs = some x)
    (j : Nat) (hu : ls[j]? = some u) (ht : P.underlying u = some .bool) : ∃ a : Bool, cs[j]? = some (.bool a) := by
  obtain ⟨v, hv, m, y, hy⟩ := leaf_of n hl hx j u hu (by rw [ht]; simp) (by rw [ht]; simp)
  obtain ⟨a, ha, _⟩ := DataW.trod_bool ht hy
  simp at ha
  subst ha
  exact ⟨a, hv⟩
theorem el_joint {e i1 i2 : TypeId} (hl : leaves P 8 e = some [i1, i2]) (h1 : P.underlying i1 = some (.int .i64)) (h2 : P.underlying i2 = some .bool)
    {fuel : Nat} {cs : List Value} {x : DataW H × List MemPlace} (hlen : cs.length = 2) (hx : DataW.trod enc P w base spare held fuel e cs = some x) : ∃ a, jointV a = cs ∧ bd64 a.1 := by
  obtain ⟨a, b, rfl⟩ := list2 hlen
  obtain ⟨p, hp, bp⟩ := leaf_int hl hx 0 rfl h1
  obtain ⟨q, hq⟩ := leaf_bool hl hx 1 rfl h2
  simp at hp hq
  subst hp hq
  exact ⟨(p, q), rfl, bp⟩
def int1 (x : Int) : List Value := [.int .i64 x]
theorem el_int {e : TypeId} (h1 : P.underlying e = some (.int .i64)) {fuel : Nat} {cs : List Value} {x : DataW H × List MemPlace} (hlen : cs.length = 1) (hx : DataW.trod enc P w base spare held fuel e cs = some x) : ∃ a, int1 a = cs ∧ bd64 a := by
  obtain ⟨v, rfl⟩ := list1 hlen
  obtain ⟨a, ha, _, hw⟩ := DataW.trod_int h1 hx
  simp at ha
  subst ha
  exact ⟨a, rfl, wf_bd hw⟩
theorem rows_ints {w : World} {B : Nat} {A : Option Addr} {len : Nat} {xs : List Int} (h : Rows 1 int1 0 w B A len xs) : Ints w B A len xs := by
  refine ⟨h.1, fun h0 => ?_⟩
  obtain ⟨b, off, h1, h2, h3⟩ := h.2 h0
  refine ⟨b, off, h1, h2, fun k hk => ?_⟩
  have := h3 k hk 0 _ rfl
  simpa using this
end
end Go.Proofs.YtjgibipficojaaaDoor
