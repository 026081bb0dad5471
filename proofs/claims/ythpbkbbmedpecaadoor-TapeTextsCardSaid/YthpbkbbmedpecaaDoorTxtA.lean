/- strconv.Atoi and strings.Cut as the walks use them. -/
import Derived.Test.YthpbkbbmedpecaaDoorTxtW
import Derived.Test.YthpbkbbmedpecaaDoorItoa1
import Derived.Lib.AtoiErrMem
set_option linter.unusedSimpArgs false
set_option linter.unusedVariables false
namespace Go.Proofs.YthpbkbbmedpecaaDoor
open Go.RowKit

/-- What the walks ask of the library's variables. -/
def TabA (w : World) : Prop :=
  Tab w ∧ (∃ m, w.cell? ⟨0, 0, none⟩ = some (.int .i64 m)) ∧ (∃ te pe, w.cell? ⟨1, 0, none⟩ = some (.iface te pe)) ∧ ∃ te pe, w.cell? ⟨2, 0, none⟩ = some (.iface te pe)
theorem TabA.tab {w : World} (h : TabA w) : Tab w := h.1
theorem cell_kept {w w' : World} {a : Addr} {v : Value} (h : w.cell? a = some v) (hb : Below w.heap.size w w') : w'.cell? a = some v := by
  rw [hb.cell (World.block_lt_of_cell? _ _ h)]; exact h
theorem TabA.below {w w' : World} (h : TabA w) (hb : Below w.heap.size w w') : TabA w' := by
  obtain ⟨h1, ⟨m, h2⟩, ⟨a, b, h3⟩, c, d, h4⟩ := h
  exact ⟨h1.below hb, ⟨m, cell_kept h2 hb⟩, ⟨a, b, cell_kept h3 hb⟩, c, d, cell_kept h4 hb⟩
theorem cut_any (l : List UInt8) (m : UInt8) (w : World) (h : TabA w) (hl : l.length ≤ 4294967280) :
    Calls Tryd.prog 15 #[.string ⟨l.toArray⟩, .string ⟨#[m]⟩] w fun e w' => e = .returned (.tuple #[.string ⟨(cutM m l).1.toArray⟩, .string ⟨(cutM m l).2.1.toArray⟩, .bool (cutM m l).2.2]) ∧ Below w.heap.size w w' := by
  obtain ⟨k, hk⟩ := h.2.1
  refine (Tryd.strings_Cut ⟨l.toArray⟩ ⟨#[m]⟩ k w (by show l.length < _; omega) hk).mono ?_
  rintro e w' ⟨rfl, n, rfl⟩
  exact ⟨rfl, below_drewN (Below.refl _ _) n⟩
/-- The error beside Atoi's number. -/
def ErrA (b : Bool) (u : Value) : Prop := (b = true → u = .nilIface) ∧ (b = false → ∃ N, u = .iface 100 (.pointer (some ⟨N, 0, none⟩)))
theorem atoi_any (l : List UInt8) (w : World) (h : TabA w) (hl : l.length ≤ 4294967280) :
    Calls Tryd.prog 17 #[.string ⟨l.toArray⟩] w fun e w' => (∃ u, e = .returned (.tuple #[.int .i64 (atoiV l), u]) ∧ ErrA (atoiOk l) u) ∧ Below w.heap.size w w' := by
  obtain ⟨h1, ⟨m, h2⟩, ⟨a, b, h3⟩, c, d, h4⟩ := h
  cases hv : Lib.atoiAll l
  · rename_i v
    have e1 : atoiV l = v := by unfold atoiV; rw [hv]
    have e2 : atoiOk l = true := by unfold atoiOk; rw [hv]
    refine (Tryd.strconv_Atoi_ok ⟨l.toArray⟩ (by show l.length ≤ _; omega) v hv w).mono ?_
    rintro e w' ⟨rfl, rfl | ⟨t, rfl⟩⟩
    · exact ⟨⟨_, by rw [e1], by rw [e2]; exact ⟨fun _ => rfl, fun h => absurd h (by simp)⟩⟩, Below.refl _ _⟩
    · exact ⟨⟨_, by rw [e1], by rw [e2]; exact ⟨fun _ => rfl, fun h => absurd h (by simp)⟩⟩, Lib.bytesWorld_below _ _ _⟩
  · have e1 : atoiV l = 0 := by unfold atoiV; rw [hv]
    have e2 : atoiOk l = false := by unfold atoiOk; rw [hv]
    refine (Any.strconv_Atoi_syntax Tryd.laysC172 ⟨l.toArray⟩ (by show l.length ≤ _; omega) hv _ w h3 (.inr ⟨_, _, rfl⟩)).mono ?_
    rintro e w' ⟨N, rfl, -, -, hb⟩
    exact ⟨⟨_, by rw [e1], by rw [e2]; exact ⟨fun h => absurd h (by simp), fun _ => ⟨N, rfl⟩⟩⟩, hb⟩
  · have e1 : atoiV l = Lib.atoiSat l := by unfold atoiV; rw [hv]
    have e2 : atoiOk l = false := by unfold atoiOk; rw [hv]
    refine (Tryd.strconv_Atoi_range ⟨l.toArray⟩ (by show l.length ≤ _; omega) hv _ w h4 (.inr ⟨_, _, rfl⟩)).mono ?_
    rintro e w' ⟨N, rfl, -, -, hb⟩
    exact ⟨⟨_, by rw [e1], by rw [e2]; exact ⟨fun h => absurd h (by simp), fun _ => ⟨N, rfl⟩⟩⟩, hb⟩
end Go.Proofs.YthpbkbbmedpecaaDoor
