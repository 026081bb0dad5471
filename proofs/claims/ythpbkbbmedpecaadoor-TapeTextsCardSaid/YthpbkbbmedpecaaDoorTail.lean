/- A region that draws its order, whose operation number n waits for all that stand ahead of it and which goes in order from there on: the head by the cheap quiet step, the tail as plain code. No program is named. -/
import Derived.Test.YthpbkbbmedpecaaDoorLater
import Derived.StillTail
import Derived.StillTailTactics
namespace Go.Proofs.YthpbkbbmedpecaaDoor
open Go.RowKit

/-- The world w and no other. -/
structure Same (w : World) where
  val : World
  h : val = w
instance sameSome (w : World) : Nonempty (Same w) := ⟨⟨w, rfl⟩⟩
theorem Same.cell {w : World} (x : Same w) (p : Addr) : x.val.cell? p = w.cell? p := by rw [x.h]
theorem same_same {P : Program} {f : FuncId} {args : Array Value} {w : World} {x : Same w} {v : Value}
    (h : Calls P f args x.val fun e w' => e = .returned v ∧ x.val = w') : Calls P f args x.val fun e w'' => e = .returned v ∧ ∃ y : Same w, w'' = y.val :=
  h.mono fun _ _ ⟨he, hb⟩ => ⟨he, x, hb.symm⟩
theorem still_of_quiet {P : Program} {w : World} {o : Oper} {a : Act} {K : Act → Prop} (h : o.quiet P a (fun W => ∃ x : Same w, W = x.val) K) : o.still P a w K := by
  obtain ⟨v, h1, h2⟩ := h
  have h3 := h1 w ⟨⟨w, rfl⟩, rfl⟩
  unfold Oper.quietAt at h3
  unfold Oper.still
  generalize (execOp a.eval o).run P w = r at *
  cases r with
  | ok n w' =>
    cases n <;> simp only [Oper.quietUpon] at h3 <;> simp only [Oper.stillUpon]
    case value u => exact ⟨h3.1, by rw [h3.2]; exact h2⟩
    case skip => exact ⟨h3.1, by rw [← h3.2]; exact h2⟩
    case enter f args => exact ⟨h3.1, v, h3.2.mono fun e w'' ⟨he, y, hy⟩ => ⟨he, by rw [hy, y.h]⟩, h2⟩
  | halt x w' => simp only [Oper.quietUpon] at h3
theorem wpStill_of_quiet {P : Program} {ops : Array Oper} {w : World} {Q : Act → Prop} : ∀ (l : List Oper) (a : Act), wpQuiet P ops (fun W => ∃ x : Same w, W = x.val) Q l a → wpStill P ops w Q l a := by
  intro l
  induction l with
  | nil => intro a h; exact h
  | cons o l ih =>
    intro a h
    unfold wpQuiet at h
    unfold wpStill
    split
    · rename_i hw
      rw [if_pos hw] at h
      exact still_of_quiet (Oper.quiet_mono ih h)
    · rename_i hw
      rw [if_neg hw] at h
      exact ih _ h
theorem wp_region_tail {P : Program} {id : Nat} {Q : Exit → Act → World → Prop} {a : Act} {w : World} {l : List Oper} (n : Nat) (hm : P.follows .mixedOrders = true) (hB : Region.lexTailB .any l.toArray n = true)
    (h : wpQuiet P l.toArray (fun W => ∃ x : Same w.drew, W = x.val) (fun a' => wpList P l.toArray Q (l.drop n) a' w.drew) (l.take n) a) : (Code.region id l.toArray true).wp P Q a w :=
  wp_region_still_tail n hm hB (wpStill_of_quiet _ _ h)
end Go.Proofs.YthpbkbbmedpecaaDoor
