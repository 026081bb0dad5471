/- Rows of cells that read as a list of whatever: slices of structs, slices of slices. No program is named. -/
import Derived.Test.YthpbkbbmedpecaaDoorBase
set_option linter.unusedSimpArgs false
set_option linter.unusedVariables false
namespace Go.Proofs.YthpbkbbmedpecaaDoor
open Go.RowKit

/-- len rows of c cells from (b, off) on, in a block below B: row k holds the cells of f (xs[k]). -/
def Rows {α : Type} (c : Nat) (f : α → List Value) (d : α) (w : World) (B : Nat) (A : Option Addr) (len : Nat) (xs : List α) : Prop :=
  xs.length = len ∧ (0 < len → ∃ b off, A = some ⟨b, off, none⟩ ∧ b < B ∧ ∀ k, k < len → ∀ j v, (f (xs[k]?.getD d))[j]? = some v → w.cell? ⟨b, off + k * c + j, none⟩ = some v)
section
variable {α : Type} {c : Nat} {f : α → List Value} {d : α} {w : World} {B : Nat} {A : Option Addr} {len : Nat} {xs : List α}
theorem Rows.at_ (h : Rows c f d w B A len xs) (k : Nat) (hk : k < len) :
    ∃ b off, A = some ⟨b, off, none⟩ ∧ b < B ∧ ∀ j v, (f (xs[k]?.getD d))[j]? = some v → w.cell? ⟨b, off + k * c + j, none⟩ = some v := by
  obtain ⟨b, off, h1, h2, h3⟩ := h.2 (by omega)
  exact ⟨b, off, h1, h2, h3 k hk⟩
theorem Rows.below {w' : World} (h : Rows c f d w B A len xs) (hb : Below B w w') : Rows c f d w' B A len xs := by
  refine ⟨h.1, fun h0 => ?_⟩
  obtain ⟨b, off, h1, h2, h3⟩ := h.2 h0
  refine ⟨b, off, h1, h2, fun k hk j v hv => ?_⟩
  rw [hb.cell (p := ⟨b, _, none⟩) h2]
  exact h3 k hk j v hv
theorem Rows.more {B' : Nat} (h : Rows c f d w B A len xs) (hb : B ≤ B') : Rows c f d w B' A len xs :=
  ⟨h.1, fun h0 => by obtain ⟨b, off, h1, h2, h3⟩ := h.2 h0; exact ⟨b, off, h1, by omega, h3⟩⟩
theorem Rows.mem (h : Rows c f d w B A len xs) {k : Nat} (hk : k < len) : xs[k]?.getD d ∈ xs := by
  have : k < xs.length := by rw [h.1]; exact hk
  rw [List.getElem?_eq_getElem this]; exact List.getElem_mem _
end
def int3 (x : Int × Int × Int) : List Value := [.int .i64 x.1, .int .i64 x.2.1, .int .i64 x.2.2]
theorem Rows.at3 {w : World} {B : Nat} {A : Option Addr} {len : Nat} {xs : List (Int × Int × Int)} (h : Rows 3 int3 (0,0,0) w B A len xs) (k : Nat) (hk : k < len) :
    ∃ b off, A = some ⟨b, off, none⟩ ∧ b < B ∧ w.cell? ⟨b, off + k * 3, none⟩ = some (.int .i64 (xs[k]?.getD (0,0,0)).1) ∧ w.cell? ⟨b, off + k * 3 + 1, none⟩ = some (.int .i64 (xs[k]?.getD (0,0,0)).2.1) ∧ w.cell? ⟨b, off + k * 3 + 2, none⟩ = some (.int .i64 (xs[k]?.getD (0,0,0)).2.2) := by
  obtain ⟨b, off, h1, h2, h3⟩ := h.at_ k hk
  exact ⟨b, off, h1, h2, by simpa using h3 0 _ rfl, h3 1 _ rfl, h3 2 _ rfl⟩
/-- A slice of pairs as it lies in a row of slices, with what it reads as. -/
abbrev RowU := (Option Addr × Nat × Nat) × List (Int × Int)
def sliceU (x : RowU) : List Value := [.slice x.1.1 x.1.2.1 x.1.2.2]
def dU : RowU := ((none, 0, 0), [])
theorem Rows.atU {w : World} {B : Nat} {A : Option Addr} {len : Nat} {xs : List RowU} (h : Rows 1 sliceU dU w B A len xs) (k : Nat) (hk : k < len) :
    ∃ b off, A = some ⟨b, off, none⟩ ∧ b < B ∧ w.cell? ⟨b, off + k, none⟩ = some (.slice (xs[k]?.getD dU).1.1 (xs[k]?.getD dU).1.2.1 (xs[k]?.getD dU).1.2.2) := by
  obtain ⟨b, off, h1, h2, h3⟩ := h.at_ k hk
  exact ⟨b, off, h1, h2, by simpa using h3 0 _ rfl⟩
end Go.Proofs.YthpbkbbmedpecaaDoor
