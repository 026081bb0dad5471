/- Arguments that come in: slices of courses. -/
import Derived.Test.YtfahdgmnlpkaiaaOpenR
import Derived.Test.YtfahdgmnlpkaiaaStk0
set_option linter.unusedSimpArgs false
set_option linter.unusedVariables false
namespace Go.Proofs.Ytfahdgmnlpkaiaa
open Go.ChangeShapes Go.WideShapes Go.RowKit Go.Deep

section
variable {H : Type} {enc : TypeId × Value → H} {P : Program} {w : World} {base : Nat} {spare : Nat → Bool} {held : Bool}
/-- An element of six ints. -/
theorem el_cs {e i1 i2 i3 i4 i5 i6 : TypeId} (hl : leaves P 8 e = some [i1, i2, i3, i4, i5, i6]) (h1 : P.underlying i1 = some (.int .i64)) (h2 : P.underlying i2 = some (.int .i64)) (h3 : P.underlying i3 = some (.int .i64)) (h4 : P.underlying i4 = some (.int .i64)) (h5 : P.underlying i5 = some (.int .i64)) (h6 : P.underlying i6 = some (.int .i64))
    {fuel : Nat} {cs : List Value} {x : DataW H × List MemPlace} (hlen : cs.length = 6) (hx : DataW.trod enc P w base spare held fuel e cs = some x) : ∃ a, c6V a = cs ∧ True := by
  obtain ⟨a, b, c, d, f, g, rfl⟩ := list6 hlen
  obtain ⟨p1, hp1, b1⟩ := leaf_int hl hx 0 rfl h1
  obtain ⟨p2, hp2, b2⟩ := leaf_int hl hx 1 rfl h2
  obtain ⟨p3, hp3, b3⟩ := leaf_int hl hx 2 rfl h3
  obtain ⟨p4, hp4, b4⟩ := leaf_int hl hx 3 rfl h4
  obtain ⟨p5, hp5, b5⟩ := leaf_int hl hx 4 rfl h5
  obtain ⟨p6, hp6, b6⟩ := leaf_int hl hx 5 rfl h6
  simp at hp1 hp2 hp3 hp4 hp5 hp6
  subst hp1 hp2 hp3 hp4 hp5 hp6
  exact ⟨⟨p1, p2, p3, p4, p5, p6⟩, rfl, trivial⟩
end
end Go.Proofs.Ytfahdgmnlpkaiaa
