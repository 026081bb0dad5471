/- What lies in a block, cell by cell (the first part of CurM). No program is named. -/
import Derived.Test.YtmionebfepkolaaGreatDoorAppend
import Derived.RangeFuncFrom
import Derived.RangeFuncBox
set_option linter.unusedSimpArgs false
set_option linter.unusedVariables false
namespace Go.Proofs.YtmionebfepkolaaGreatDoor
open Go.RowKit

/-- What lies in block B, cell by cell. -/
def CA (W : World) (B : Nat) (cs : List Value) : Prop := B < W.heap.size ∧ ∀ j v, cs[j]? = some v → W.cell? ⟨B, j, none⟩ = some v ∧ W.frozen? ⟨B, j, none⟩ = false
section
variable {W W' : World} {B : Nat} {cs : List Value}
theorem CA.below {N : Nat} (h : CA W B cs) (hb : Below N W W') (hB : B < N) : CA W' B cs :=
  ⟨Nat.lt_of_lt_of_le h.1 hb.size, fun j v hj => by rw [hb.cell (p := ⟨B, j, none⟩) hB, hb.frozen (p := ⟨B, j, none⟩) hB]; exact h.2 j v hj⟩
theorem CA.later (h : CA W B cs) (hb : Below W.heap.size W W') : CA W' B cs := h.below hb h.1
theorem CA.alloc (h : CA W B cs) (o : Obj) : CA (W.alloc o) B cs := h.later ((Below.refl _ _).alloc (Nat.le_refl _) _)
theorem CA.drew (h : CA W B cs) : CA W.drew B cs := h.later (Below.refl _ _).drew
theorem CA.other (h : CA W B cs) {p : Addr} (hp : p.block ≠ B) (v : Value) : CA (W.setCell p v) B cs := by
  refine ⟨by simpa using h.1, fun j u hj => ?_⟩
  rw [World.cell?_setCell_other _ _ _ _ (fun he => hp (by rw [he])), World.frozen?_setCell]
  exact h.2 j u hj
theorem CA.set (h : CA W B cs) {k : Nat} (hk : k < cs.length) (v : Value) : CA (W.setCell ⟨B, k, none⟩ v) B (cs.set k v) := by
  refine ⟨by simpa using h.1, fun j u hj => ?_⟩
  rw [World.frozen?_setCell]
  by_cases hkj : k = j
  · subst hkj
    rw [List.getElem?_set_self hk] at hj
    have hk' := h.2 k cs[k] (List.getElem?_eq_getElem hk)
    refine ⟨?_, hk'.2⟩
    rw [World.cell?_setCell_same _ _ _ hk'.1]
    exact hj
  · rw [List.getElem?_set_ne hkj] at hj
    rw [World.cell?_setCell_other _ _ _ _ (fun he => hkj (congrArg Addr.off he))]
    exact h.2 j u hj
theorem CA.new (w : World) (cs : List Value) (t : TypeId) : CA (w.alloc (.cells cs.toArray t)) w.heap.size cs := by
  refine ⟨by simp, fun j v hj => ⟨?_, World.frozen?_alloc_at _ _ _ _ rfl⟩⟩
  rw [World.cell?_alloc_at _ _ _ _ rfl, List.getElem?_toArray]
  exact hj
theorem CA.own {base : Nat} {e : TypeId} {size n cap : Nat} {g : Nat} {xs : List Value} (h : W.ownsRow base e size (.slice (some ⟨g, 0, none⟩) n cap) n xs) : CA W g xs := by
  obtain ⟨h1, h2⟩ := h
  rcases h2 with ⟨h2, -⟩ | ⟨g', cap', cur, h2, hb, hg, hnc, hm, hcs, ht⟩
  · cases h2
  · cases h2
    refine ⟨(Array.getElem?_eq_some_iff.1 hg).1, fun j v hj => ?_⟩
    rw [← ht, List.getElem?_take] at hj
    split at hj
    · simp only [World.cell?, World.frozen?, hg]
      simpa using hj
    · cases hj
theorem ca_own {β : Type} (B : Nat) (f : β → List Value) : Own (fun (s : β) (W : World) => CA W B (f s)) := fun s X Y row hs hg hr => by
  refine ⟨Nat.lt_of_lt_of_le hs.1 hg.size, fun j v hj => ?_⟩
  obtain ⟨h1, h2⟩ := hs.2 j v hj
  have hbl : Y.heap[B]? = X.heap[B]? := hg.block B hs.1 (fun e => by
    obtain ⟨o, ho, hc⟩ := hr B e.symm
    unfold World.cell? at h1
    simp only [ho] at h1
    cases o <;> simp_all [Obj.isCells])
  refine ⟨(World.cell?_of_block (a := ⟨B, j, none⟩) hbl).trans h1, ?_⟩
  unfold World.frozen? at h2 ⊢
  simp only [hbl]
  exact h2
theorem CA.cast {cs' : List Value} (h : CA W B cs) (e : cs = cs') : CA W B cs' := e ▸ h
end
end Go.Proofs.YtmionebfepkolaaGreatDoor
