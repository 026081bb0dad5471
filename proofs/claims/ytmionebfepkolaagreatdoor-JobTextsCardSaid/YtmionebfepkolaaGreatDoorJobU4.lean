/- Plans: the reference's copied. -/
import Derived.Test.YtmionebfepkolaaGreatDoorJobU2
import Derived.Test.YtmionebfepkolaaGreatDoorCellA
import Derived.Maps.AppendAt
set_option linter.unusedSimpArgs false
set_option linter.unusedVariables false
namespace Go.Proofs.YtmionebfepkolaaGreatDoor
open Go.RowKit
attribute [local go_sem] Later.cell Same.cell

theorem Strs.grown {w w' : World} {B n : Nat} {A : Option Addr} {ss : List ByteArray} {row : Option Nat} (h : Strs w B A n ss) (hg : w.grownBy w' row) (hn : 0 < n → ∀ b off, A = some ⟨b, off, none⟩ → some b ≠ row) : Strs w' B A n ss := by
  refine ⟨h.1, fun h0 => ?_⟩
  obtain ⟨b, off, h1, h2, h3⟩ := h.2 h0
  refine ⟨b, off, h1, h2, fun k hk j u hu => ?_⟩
  exact hg.cell (h3 k hk j u hu) (hn h0 b off h1)
/-- Plan rows of the call's own that grow. -/
structure OPv (W : World) (base : Nat) (v : Value) (n : Nat) (xs : List TkR) : Prop where
  own : W.ownsRow base 34 4 v n (tcel xs)
  ok : ∀ x ∈ xs, okR W W.heap.size x
  nb : ∀ x ∈ xs, 0 < x.1.2.1 → ∀ b off, x.1.1 = some ⟨b, off, none⟩ → some b ≠ v.ownBlock
theorem OPv.nil (W : World) (base : Nat) : OPv W base (.slice none 0 0) 0 [] := ⟨World.ownsRow_nil _ _ _ _, fun x hx => absurd hx (by simp), fun x hx => absurd hx (by simp)⟩
theorem OPv.later {W W' : World} {base n : Nat} {v : Value} {xs : List TkR} (h : OPv W base v n xs) (hb : Below W.heap.size W W') : OPv W' base v n xs := ⟨jown_later h.own hb, fun x hx => (h.ok x hx).go hb, h.nb⟩
theorem OPv.to {W : World} {base n : Nat} {v : Value} {xs : List TkR} (h : OPv W base v n xs) (hn : 0 < n) : ∃ g cap, v = .slice (some ⟨g, 0, none⟩) n cap ∧ (n ≤ cap ∧ cap ≤ maxLen) ∧ OPl W base g cap n xs := by
  obtain ⟨g, cap, rfl, h1, h2⟩ := own_tasks h.own hn
  exact ⟨g, cap, rfl, ⟨h1, h2⟩, h.own, h.ok, fun x hx h0 b off e hh => h.nb x hx h0 b off e (by rw [hh]; rfl)⟩
theorem okR.lt {W : World} {B : Nat} {x : TkR} (h : okR W B x) (h0 : 0 < x.1.2.1) : ∀ b off, x.1.1 = some ⟨b, off, none⟩ → b < B := fun b off e => by
  obtain ⟨b', off', e1, e2, -⟩ := h.2.2 h0
  rw [e] at e1
  injection e1 with e1
  injection e1 with e1 e3
  omega
theorem OPv.push {W W' : World} {base n : Nat} {v v' : Value} {xs : List TkR} {y : TkR} (h : OPv W base v n xs) (hy : okR W W.heap.size y) (hny : 0 < y.1.2.1 → ∀ b off, y.1.1 = some ⟨b, off, none⟩ → some b ≠ v.ownBlock)
    (ho : W'.ownsRow base 34 4 v' (n + 1) (tcel xs ++ tk4 y)) (hg : W.grownBy W' v.ownBlock) (hat : v'.ownBlock = v.ownBlock ∨ v'.ownBlock = some W.heap.size) : OPv W' base v' (n + 1) (xs ++ [y]) := by
  have hs := hg.size
  have hk : ∀ x, okR W W.heap.size x → (0 < x.1.2.1 → ∀ b off, x.1.1 = some ⟨b, off, none⟩ → some b ≠ v.ownBlock) → okR W' W'.heap.size x := fun x h1 h2 => ⟨h1.1, (h1.2.grown hg h2).more hs⟩
  have hn : ∀ x, okR W W.heap.size x → (0 < x.1.2.1 → ∀ b off, x.1.1 = some ⟨b, off, none⟩ → some b ≠ v.ownBlock) → (0 < x.1.2.1 → ∀ b off, x.1.1 = some ⟨b, off, none⟩ → some b ≠ v'.ownBlock) := fun x h1 h2 h0 b off e => by
    rcases hat with hh | hh
    · rw [hh]; exact h2 h0 b off e
    · rw [hh]
      have := h1.lt h0 b off e
      intro e2
      injection e2 with e2
      omega
  refine ⟨by rw [tcel_app]; simpa [tcel] using ho, fun x hx => ?_, fun x hx => ?_⟩
  · rcases List.mem_append.1 hx with hx | hx
    · exact hk x (h.ok x hx) (h.nb x hx)
    · rw [List.mem_singleton.1 hx]; exact hk y hy hny
  · rcases List.mem_append.1 hx with hx | hx
    · exact hn x (h.ok x hx) (h.nb x hx)
    · rw [List.mem_singleton.1 hx]; exact hn y hy hny
theorem rnews4 (W : World) (x : TkR) (t : TypeId) : ∀ j u, (tk4 x)[j]? = some u → (W.alloc (.cells (tk4 x).toArray t)).cell? ((⟨W.heap.size, 0, none⟩ : Addr).add j) = some u := by
  intro j u hj
  have := (CA.new W (tk4 x) t).2 j u hj
  rw [Addr.add_lit, Nat.zero_add]
  exact this.1
def RcR (l : List Tk) (w : World) (v k' : Value) (W : World) : Prop := ∃ (k : Nat) (xs : List TkR), k ≤ l.length ∧ k' = .int .i64 (k : Int) ∧ xs.map (·.2) = l.take k ∧ Hid (OPv W w.heap.size v k xs) ∧ Below w.heap.size w W
end Go.Proofs.YtmionebfepkolaaGreatDoor
