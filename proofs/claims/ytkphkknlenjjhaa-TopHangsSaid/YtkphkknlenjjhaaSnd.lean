/- Joints: the sound ones, of both texts; a list turned round. -/
import Derived.Test.YtkphkknlenjjhaaDogs4
import Derived.Laws.IdiomCopy
import Derived.Lib.SlBuf
set_option linter.unusedSimpArgs false
set_option linter.unusedVariables false
namespace Go.Proofs.Ytkphkknlenjjhaa
open Go.RowKit
attribute [local go_sem] Later.cell

theorem own_mono {w : World} {base base' : Nat} {e : TypeId} {size : Nat} {v : Value} {n : Nat} {xs : List Value} (h : w.ownsRow base e size v n xs) (hb : base' ≤ base) : w.ownsRow base' e size v n xs := by
  obtain ⟨h1, h2⟩ := h
  refine ⟨h1, ?_⟩
  rcases h2 with h2 | ⟨g, cap, cur, a1, a2, a3⟩
  · exact .inl h2
  · exact .inr ⟨g, cap, cur, a1, Nat.le_trans hb a2, a3⟩
def sndR3 (l : List J) : List Int := if vJ l then sndI l l.length else []
def sndE (l : List J) : Int := if vJ l then 0 else 1
end Go.Proofs.Ytkphkknlenjjhaa
