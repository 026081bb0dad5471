/- Worlds that are later than w but for one block, if there is one. No program is named. -/
import Derived.Test.YthpbkbbmedpecaaDoorMix
import Derived.Laws.AppendOwn
import Derived.OwnWalk
set_option linter.unusedSimpArgs false
set_option linter.unusedVariables false
namespace Go.Proofs.YthpbkbbmedpecaaDoor
open Go.RowKit

structure OffB (w : World) (ob : Option Nat) where
  val : World
  h : w.grownBy val ob
instance offbSome (w : World) (ob : Option Nat) : Nonempty (OffB w ob) := ⟨⟨w, World.grownBy.refl _ _⟩⟩
theorem OffB.cell {w : World} {ob : Option Nat} (x : OffB w ob) (b o : Nat) (hb : b < w.heap.size) (hne : some b ≠ ob) : x.val.cell? ⟨b, o, none⟩ = w.cell? ⟨b, o, none⟩ := by
  have := x.h.block b hb hne
  simp [World.cell?, this]
theorem grown_drew {w W : World} {ob : Option Nat} (h : w.grownBy W ob) : w.grownBy W.drew ob := ⟨h.os, h.tape, h.output, h.size, h.block⟩
theorem grown_of_below {w W : World} (h : Below w.heap.size w W) (ob : Option Nat) : w.grownBy W ob := ⟨h.os, h.tape, h.output, h.size, fun k hk _ => h.block k hk⟩
theorem grown_trans {w W W' : World} {ob : Option Nat} (h : w.grownBy W ob) (k : W.grownBy W' ob) : w.grownBy W' ob :=
  ⟨k.os.trans h.os, k.tape.trans h.tape, k.output.trans h.output, Nat.le_trans h.size k.size, fun j hj hne => (k.block j (Nat.lt_of_lt_of_le hj h.size) hne).trans (h.block j hj hne)⟩
theorem wp_region_offb {P : Program} {id : Nat} {Q : Exit → Act → World → Prop} {a : Act} {w : World} {l : List Oper} (ob : Option Nat) (hm : P.follows .mixedOrders = true) (hg : noGuard l.toArray = true)
    (h : wpC P .any l.toArray (fun W => ∃ x : OffB w ob, W = x.val) Q l.length (Array.replicate l.length false) a w.drew) : (Code.region id l.toArray true).wp P Q a w :=
  wp_region_any hm (wpC_any hg _ _ _ _ (by simpa using h))
end Go.Proofs.YthpbkbbmedpecaaDoor
