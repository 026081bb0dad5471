/- Regions that draw their order and hold calls that make memory: one walk of the lexical order, in the class of the worlds that are later than the region's. -/
import Derived.WalkKit
import Derived.Deep.QuietTactic
import Derived.BigQuiet
import Derived.Lib.Hide
namespace Go.Proofs.YtmionebfepkolaaGreatDoor
open Go.RowKit

/-- A world in which all that lay in w lies as it lay. -/
structure Later (w : World) where
  val : World
  h : Below w.heap.size w val
instance laterSome (w : World) : Nonempty (Later w) := ⟨⟨w, Below.refl _ w⟩⟩
theorem Later.cell {w : World} (x : Later w) (b o : Nat) (hb : b < w.heap.size) : x.val.cell? ⟨b, o, none⟩ = w.cell? ⟨b, o, none⟩ := x.h.cell (p := ⟨b, o, none⟩) hb
/-- At a call: the contract says Below. -/
theorem later_call {P : Program} {f : FuncId} {args : Array Value} {w : World} {x : Later w} {v : Value}
    (h : Calls P f args x.val fun e w' => e = .returned v ∧ Below x.val.heap.size x.val w') : Calls P f args x.val fun e w'' => e = .returned v ∧ ∃ y : Later w, w'' = y.val :=
  h.mono fun _ w' ⟨he, hb⟩ => ⟨he, ⟨w', x.h.trans (hb.mono x.h.size)⟩, rfl⟩
/-- At a call: the contract says that the world is the same. -/
theorem later_same {P : Program} {f : FuncId} {args : Array Value} {w : World} {x : Later w} {v : Value}
    (h : Calls P f args x.val fun e w' => e = .returned v ∧ x.val = w') : Calls P f args x.val fun e w'' => e = .returned v ∧ ∃ y : Later w, w'' = y.val :=
  h.mono fun _ _ ⟨he, hb⟩ => ⟨he, x, hb.symm⟩
theorem wp_region_later {P : Program} {id : Nat} {Q : Exit → Act → World → Prop} {a : Act} {w : World} {l : List Oper} (hm : P.follows .mixedOrders = true) (hB : Region.lexB .any l.toArray = true)
    (h : wpQuiet P l.toArray (fun W => ∃ x : Later w, W = x.val) (fun a' => ∀ w', Below w.heap.size w w' → Q .normal a' w') l a) : (Code.region id l.toArray true).wp P Q a w :=
  wp_region_quiet (C := fun W => ∃ x : Later w, W = x.val) hm hB ⟨⟨_, (Below.refl _ w).drew⟩, rfl⟩ (by
    have e : (fun a' => ∀ w', Below w.heap.size w w' → Q .normal a' w') = (fun a' => ∀ w', (∃ x : Later w, w' = x.val) → Q .normal a' w') := by
      funext a'
      exact propext ⟨fun h w' ⟨x, hx⟩ => hx ▸ h x.val x.h, fun h w' hb => h _ ⟨⟨w', hb⟩, rfl⟩⟩
    rw [← e]
    exact h)
end Go.Proofs.YtmionebfepkolaaGreatDoor
