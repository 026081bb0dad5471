/- Plans: the reference's earliest days. -/
import Derived.Test.YtmionebfepkolaaGreatDoorJobR4
import Derived.Test.YtmionebfepkolaaGreatDoorJobB
import Derived.Test.YtmionebfepkolaaGreatDoorYJj
set_option linter.unusedSimpArgs false
set_option linter.unusedVariables false
namespace Go.Proofs.YtmionebfepkolaaGreatDoor
open Go.RowKit
attribute [local go_sem] Later.cell Same.cell

/-- A slice that does not lie in block g. -/
def NB (A : Option Addr) (g : Nat) : Prop := ∀ b off, A = some ⟨b, off, none⟩ → b ≠ g
theorem NB.of_own {A : Option Addr} {g base n : Nat} {cap : Nat} {xs : List Int} {w : World} {e : TypeId} (h : w.ownsRow base e 1 (.slice A n cap) n (icells xs)) (hg : g < base) : NB A g := fun b off he => by
  intro hb
  subst he
  rcases h.2 with ⟨h', _⟩ | ⟨g', cap', cur, h', hb', hg', _⟩
  · simp at h'
  · simp only [Value.slice.injEq, Option.some.injEq, Addr.mk.injEq, and_true, true_and] at h'
    omega
theorem Ints.store {w : World} {A : Option Addr} {n : Nat} {xs : List Int} {g : Nat} (h : Ints w w.heap.size A n xs) (hn : NB A g) (i : Nat) (v : Value) : Ints (w.setCell ⟨g, i, none⟩ v) (w.setCell ⟨g, i, none⟩ v).heap.size A n xs := by
  rw [World.size_setCell]
  exact h.keep hn fun q _ hq => Below.heap_setCell _ ⟨g, i, none⟩ v q hq
theorem Ints.go {w w' : World} {A : Option Addr} {n : Nat} {xs : List Int} (h : Ints w w.heap.size A n xs) (hb : Below w.heap.size w w') : Ints w' w'.heap.size A n xs := (h.below hb).more hb.size
structure RaR (l : List Tk) (w : World) (g : Nat) (A1 : Option Addr) (out : List Int) (W : World) : Prop where
  own : W.ownsRow w.heap.size 3 1 (.slice (some ⟨g, 0, none⟩) l.length l.length) l.length (icells out)
  ord : Ints W W.heap.size A1 l.length (iN (ord l))
  bel : Below w.heap.size w W
theorem RaR.store {l : List Tk} {w : World} {g : Nat} {A1 : Option Addr} {out : List Int} {W : World} (h : RaR l w g A1 out W) (hn : NB A1 g) (i : Nat) (v : Int) : RaR l w g A1 (out.set i v) (W.setCell ⟨g, i, none⟩ (.int .i64 v)) :=
  ⟨(jown_store h.own i v).1, h.ord.store hn i _, h.bel.setCell (p := ⟨g, i, none⟩) (jown_at h.own).2.1 _⟩
theorem RaR.later {l : List Tk} {w : World} {g : Nat} {A1 : Option Addr} {out : List Int} {W W' : World} (h : RaR l w g A1 out W) (hb : Below W.heap.size W W') : RaR l w g A1 out W' :=
  ⟨jown_later h.own hb, h.ord.go hb, h.bel.trans (hb.mono h.bel.size)⟩
theorem set_same (xs : List Int) (i : Nat) (h : i < xs.length) : xs.set i (gI xs i) = xs := by
  unfold gI; rw [List.getElem?_eq_getElem h]; simp
end Go.Proofs.YtmionebfepkolaaGreatDoor
