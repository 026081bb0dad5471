/- Rows of tapes that the call made. No program is named. -/
import Derived.Test.YthpbkbbmedpecaaDoorAppend
import Derived.Test.YthpbkbbmedpecaaDoorNetT
import Derived.Test.YthpbkbbmedpecaaDoorRowsB
import Derived.OwnWalk
set_option linter.unusedSimpArgs false
set_option linter.unusedVariables false
namespace Go.Proofs.YthpbkbbmedpecaaDoor
open Go.RowKit

def tcells (l : List Tp) : List Value := l.flatMap int3
theorem tcells_app (l m : List Tp) : tcells (l ++ m) = tcells l ++ tcells m := by simp [tcells]
theorem tcells_len (l : List Tp) : (tcells l).length = l.length * 3 := by
  induction l with
  | nil => rfl
  | cons x l ih => simp only [tcells, List.flatMap_cons, List.length_append, List.length_cons, int3, List.length_nil] at *; omega
theorem tcells_get : ∀ (l : List Tp) (k : Nat), k < l.length → (tcells l)[k * 3]? = some (.int .i64 (tpA l k).1) ∧ (tcells l)[k * 3 + 1]? = some (.int .i64 (tpA l k).2.1) ∧ (tcells l)[k * 3 + 2]? = some (.int .i64 (tpA l k).2.2) := by
  intro l
  induction l with
  | nil => intro k h; exact absurd h (by simp)
  | cons x l ih =>
    intro k h
    cases k with
    | zero => simp [tcells, int3, tpA]
    | succ k =>
      have := ih k (by simpa using h)
      have e1 : (k + 1) * 3 = (k * 3) + 1 + 1 + 1 := by omega
      have e2 : (k + 1) * 3 + 1 = (k * 3 + 1) + 1 + 1 + 1 := by omega
      have e3 : (k + 1) * 3 + 2 = (k * 3 + 2) + 1 + 1 + 1 := by omega
      rw [e2, e3, e1]
      simpa [tcells, int3, tpA] using this
theorem tcells_one (l : List Tp) : ∀ u ∈ tcells l, u.oneCell' = true := by
  intro u hu
  simp only [tcells, List.mem_flatMap, int3, List.mem_cons, List.not_mem_nil, or_false] at hu
  obtain ⟨x, _, rfl | rfl | rfl⟩ := hu <;> rfl
theorem own_tapes {w : World} {base : Nat} {e : TypeId} {v : Value} {n : Nat} {l : List Tp} (h : w.ownsRow base e 3 v n (tcells l)) :
    ∃ A cap, v = .slice A n cap ∧ n ≤ cap ∧ cap ≤ maxLen ∧ Rows 3 int3 (0,0,0) w w.heap.size A n l ∧ (0 < n → ∃ g, A = some ⟨g, 0, none⟩ ∧ base ≤ g ∧ g < w.heap.size ∧ ∀ o, w.frozen? ⟨g, o, none⟩ = false) := by
  obtain ⟨h1, h2⟩ := h
  rw [tcells_len] at h1
  have hl : l.length = n := by omega
  rcases h2 with ⟨rfl, rfl⟩ | ⟨g, cap, cur, rfl, hb, hg, hnc, hm, hcs, ht⟩
  · exact ⟨none, 0, rfl, Nat.le_refl _, Nat.zero_le _, ⟨hl, fun h => absurd h (by omega)⟩, fun h => absurd h (by omega)⟩
  · have hlt : g < w.heap.size := (Array.getElem?_eq_some_iff.1 hg).1
    have hcell : ∀ j, j < n * 3 → w.cell? ⟨g, 0 + j, none⟩ = (tcells l)[j]? := by
      intro j hj
      rw [← ht, Nat.zero_add]
      simp [World.cell?, hg, List.getElem?_take, hj]
    refine ⟨some ⟨g, 0, none⟩, cap, rfl, hnc, hm, ⟨hl, fun h0 => ⟨g, 0, rfl, hlt, fun k hk j v hv => ?_⟩⟩, fun h0 => ⟨g, rfl, hb, hlt, fun o => by simp [World.frozen?, hg]⟩⟩
    have hj3 : j < 3 := by
      have := (List.getElem?_eq_some_iff.1 hv).1
      simpa [int3] using this
    have hgk := tcells_get l k (by omega)
    rw [Nat.add_assoc, hcell _ (by omega)]
    change (int3 (tpA l k))[j]? = some v at hv
    rcases (by omega : j = 0 ∨ j = 1 ∨ j = 2) with rfl | rfl | rfl
    · rw [Nat.add_zero, hgk.1, ← hv]; rfl
    · rw [hgk.2.1, ← hv]; rfl
    · rw [hgk.2.2, ← hv]; rfl
theorem town_later {w w' : World} {base : Nat} {e : TypeId} {size : Nat} {v : Value} {n : Nat} {xs : List Value} (h : w.ownsRow base e size v n xs) (hb : Below w.heap.size w w') : w'.ownsRow base e size v n xs := by
  refine h.kept (row := none) ⟨hb.os, hb.tape, hb.output, hb.size, fun k hk _ => hb.block k hk⟩ ?_
  cases v.ownBlock <;> simp
theorem town_mono {w : World} {base base' : Nat} {e : TypeId} {size : Nat} {v : Value} {n : Nat} {xs : List Value} (h : w.ownsRow base e size v n xs) (hb : base' ≤ base) : w.ownsRow base' e size v n xs := by
  obtain ⟨h1, h2⟩ := h
  refine ⟨h1, ?_⟩
  rcases h2 with h2 | ⟨g, cap, cur, a1, a2, a3⟩
  · exact .inl h2
  · exact .inr ⟨g, cap, cur, a1, by omega, a3⟩
/-- Two rows of different elements lie in different blocks. -/
theorem own_apart {w : World} {b b' : Nat} {e e' : TypeId} {s s' : Nat} {v v' : Value} {n n' : Nat} {xs xs' : List Value} (he : e ≠ e') (h : w.ownsRow b e s v n xs) (h' : w.ownsRow b' e' s' v' n' xs') : ∀ g, v.ownBlock = some g → v'.ownBlock ≠ some g := by
  intro g hg hg'
  rcases h.2 with ⟨rfl, _⟩ | ⟨g1, cap1, cur1, rfl, _, hb1, _⟩
  · simp [Value.ownBlock] at hg
  · rcases h'.2 with ⟨rfl, _⟩ | ⟨g2, cap2, cur2, rfl, _, hb2, _⟩
    · simp [Value.ownBlock] at hg'
    · simp [Value.ownBlock] at hg hg'
      subst hg hg'
      rw [hb1] at hb2
      injection hb2 with hb2
      injection hb2 with _ h3 _
      exact he h3
/-- A row that is not the one appended to. -/
theorem own_beside {w w' : World} {b b' : Nat} {e e' : TypeId} {s s' : Nat} {v v' : Value} {n n' : Nat} {xs xs' : List Value} (he : e ≠ e') (h : w.ownsRow b e s v n xs) (h' : w.ownsRow b' e' s' v' n' xs') (hg : w.grownBy w' v.ownBlock) : w'.ownsRow b' e' s' v' n' xs' := by
  refine h'.kept hg ?_
  cases hv : v'.ownBlock with
  | none => exact .inl rfl
  | some g => exact .inr fun hh => own_apart he h h' g hh.symm hv
theorem tnews1 (W : World) (x : Value) (t : TypeId) : ∀ j u, ([x] : List Value)[j]? = some u → (W.alloc (.cells #[x] t)).cell? ((⟨W.heap.size, 0, none⟩ : Addr).add j) = some u := by
  intro j u hj
  cases j with
  | zero => simp at hj; subst hj; simp [Addr.add]
  | succ j => simp at hj
theorem tone1 (n : Int) : ∀ u ∈ ([.int .i64 n] : List Value), u.oneCell' = true := by intro u hu; simp at hu; subst hu; rfl
theorem tnews3 (W : World) (t : Tp) (ty : TypeId) : ∀ j u, (int3 t)[j]? = some u → (W.alloc (.cells #[.int .i64 t.1, .int .i64 t.2.1, .int .i64 t.2.2] ty)).cell? ((⟨W.heap.size, 0, none⟩ : Addr).add j) = some u := by
  intro j u hj
  have hj3 : j < 3 := by
    have := (List.getElem?_eq_some_iff.1 hj).1
    simpa [int3] using this
  rcases (by omega : j = 0 ∨ j = 1 ∨ j = 2) with rfl | rfl | rfl <;> (simp [int3] at hj; subst hj; simp [Addr.add])
theorem tone3 (t : Tp) : ∀ u ∈ int3 t, u.oneCell' = true := by intro u hu; simp [int3] at hu; rcases hu with rfl | rfl | rfl <;> rfl
end Go.Proofs.YthpbkbbmedpecaaDoor
