/- Arguments that come in: slices of ints. -/
import Derived.Test.YtgijekhlbkfanaaOpenR
import Derived.Test.YtgijekhlbkfanaaRowsB
import Derived.ChangeMaps5
namespace Go.Proofs.Ytgijekhlbkfanaa
open Go.ChangeShapes Go.WideShapes Go.RowKit Go.Deep

section
variable {H : Type} {enc : TypeId × Value → H} {P : Program} {w : World} {base : Nat} {spare : Nat → Bool} {held : Bool}
def int1 (x : Int) : List Value := [.int .i64 x]
theorem el_int {e : TypeId} (h1 : P.underlying e = some (.int .i64)) {fuel : Nat} {cs : List Value} {x : DataW H × List MemPlace} (hlen : cs.length = 1) (hx : DataW.trod enc P w base spare held fuel e cs = some x) : ∃ a, int1 a = cs ∧ bd64 a := by
  obtain ⟨v, rfl⟩ := list1 hlen
  obtain ⟨a, ha, _, hw⟩ := DataW.trod_int h1 hx
  simp at ha
  subst ha
  exact ⟨a, rfl, wf_bd hw⟩
theorem rows_ints {w : World} {B : Nat} {A : Option Addr} {len : Nat} {xs : List Int} (h : Rows 1 int1 0 w B A len xs) : Ints w B A len xs := by
  refine ⟨h.1, fun h0 => ?_⟩
  obtain ⟨b, off, h1, h2, h3⟩ := h.2 h0
  refine ⟨b, off, h1, h2, fun k hk => ?_⟩
  have := h3 k hk 0 _ rfl
  simpa using this
end
end Go.Proofs.Ytgijekhlbkfanaa
