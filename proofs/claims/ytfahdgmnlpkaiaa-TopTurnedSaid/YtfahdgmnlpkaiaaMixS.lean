/- Worlds that keep the blocks below n but for some. No program is named. -/
import Derived.Test.YtfahdgmnlpkaiaaMixG
import Derived.Test.YtfahdgmnlpkaiaaOwnT
set_option linter.unusedSimpArgs false
set_option linter.unusedVariables false
namespace Go.Proofs.Ytfahdgmnlpkaiaa
open Go.RowKit
/-- Below n every block lies as it lay, but for those of S. -/
def KeepS (n : Nat) (S : Nat → Prop) (A B : World) : Prop := A.heap.size ≤ B.heap.size ∧ ∀ k, k < n → ¬ S k → B.heap[k]? = A.heap[k]?
theorem KeepS.refl (n : Nat) (S : Nat → Prop) (A : World) : KeepS n S A A := ⟨Nat.le_refl _, fun _ _ _ => rfl⟩
theorem KeepS.trans {n : Nat} {S : Nat → Prop} {A B C : World} (h : KeepS n S A B) (k : KeepS n S B C) : KeepS n S A C := ⟨Nat.le_trans h.1 k.1, fun j h1 h2 => (k.2 j h1 h2).trans (h.2 j h1 h2)⟩
theorem KeepS.of {n : Nat} {S : Nat → Prop} {A B : World} (h : Below n A B) : KeepS n S A B := ⟨h.size, fun k hk _ => h.block k hk⟩
theorem KeepS.cell {n : Nat} {S : Nat → Prop} {A B : World} (h : KeepS n S A B) {b o : Nat} (hb : b < n) (hs : ¬ S b) : B.cell? ⟨b, o, none⟩ = A.cell? ⟨b, o, none⟩ := World.cell?_of_block (a := ⟨b, o, none⟩) (h.2 b hb hs)
/-- The worlds that keep so. -/
structure LtS (w : World) (n : Nat) (S : Nat → Prop) where
  val : World
  h : KeepS n S w val
instance ltsSome (w : World) (n : Nat) (S : Nat → Prop) : Nonempty (LtS w n S) := ⟨⟨w, KeepS.refl _ _ _⟩⟩
theorem LtS.cell {w : World} {n : Nat} {S : Nat → Prop} (x : LtS w n S) (b o : Nat) (hb : b < n) (hs : ¬ S b) : x.val.cell? ⟨b, o, none⟩ = w.cell? ⟨b, o, none⟩ := x.h.cell hb hs
theorem wp_region_lts {P : Program} {id : Nat} {Q : Exit → Act → World → Prop} {a : Act} {w : World} {l : List Oper} (n : Nat) (S : Nat → Prop) (hm : P.follows .mixedOrders = true)
    (h : wpG P .any l.toArray (fun W => ∃ x : LtS w n S, W = x.val) Q l.length (Array.replicate l.length false) a w.drew) : (Code.region id l.toArray true).wp P Q a w :=
  wp_region_any hm (wpG_any _ _ _ _ (by simpa using h))
/-- A row of some cells each that the call made. -/
theorem own_rows {α : Type} {w : World} {base c : Nat} {e : TypeId} {v : Value} {n : Nat} {f : α → List Value} {d : α} {l : List α} (hf : ∀ a, (f a).length = c) (h : w.ownsRow base e c v n (l.flatMap f)) (hl : l.length = n) :
    ∃ A cap, v = .slice A n cap ∧ n ≤ cap ∧ cap ≤ maxLen ∧ Rows c f d w w.heap.size A n l ∧ (0 < n → ∃ g, A = some ⟨g, 0, none⟩ ∧ base ≤ g ∧ g < w.heap.size ∧ ∀ o, w.frozen? ⟨g, o, none⟩ = false) := by
  obtain ⟨h1, h2⟩ := h
  have hget : ∀ (l : List α) (k j : Nat), k < l.length → j < c → (l.flatMap f)[k * c + j]? = (f (l[k]?.getD d))[j]? := by
    intro l
    induction l with
    | nil => intro k j h; exact absurd h (by simp)
    | cons x l ih =>
      intro k j hk hj
      rw [List.flatMap_cons]
      cases k with
      | zero => rw [Nat.zero_mul, Nat.zero_add, List.getElem?_append_left (by rw [hf]; exact hj)]; rfl
      | succ k =>
        have e1 : (k + 1) * c + j = c + (k * c + j) := by rw [Nat.succ_mul]; omega
        rw [e1, List.getElem?_append_right (by rw [hf]; omega), hf, Nat.add_sub_cancel_left]
        simpa using ih k j (by simpa using hk) hj
  rcases h2 with ⟨rfl, rfl⟩ | ⟨g, cap, cur, rfl, hb, hg, hnc, hm, hcs, ht⟩
  · exact ⟨none, 0, rfl, Nat.le_refl _, Nat.zero_le _, ⟨hl, fun h => absurd h (by omega)⟩, fun h => absurd h (by omega)⟩
  · have hlt : g < w.heap.size := (Array.getElem?_eq_some_iff.1 hg).1
    have hcell : ∀ j, j < n * c → w.cell? ⟨g, 0 + j, none⟩ = (l.flatMap f)[j]? := by
      intro j hj
      rw [← ht, Nat.zero_add]
      simp [World.cell?, hg, List.getElem?_take, hj]
    refine ⟨some ⟨g, 0, none⟩, cap, rfl, hnc, hm, ⟨hl, fun h0 => ⟨g, 0, rfl, hlt, fun k hk j v hv => ?_⟩⟩, fun h0 => ⟨g, rfl, hb, hlt, fun o => by simp [World.frozen?, hg]⟩⟩
    have hj3 : j < c := by
      have := (List.getElem?_eq_some_iff.1 hv).1
      rwa [hf] at this
    have hkc : k * c + j < n * c := by
      have : (k + 1) * c ≤ n * c := Nat.mul_le_mul_right c hk
      rw [Nat.succ_mul] at this; omega
    rw [Nat.add_assoc, hcell _ hkc, hget l k j (by omega) hj3, hv]
end Go.Proofs.Ytfahdgmnlpkaiaa
