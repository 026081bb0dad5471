/- Plans in memory: rows of a name, days, men and a slice of names. -/
import Derived.Test.YtgijekhlbkfanaaBase
import Derived.Test.YtgijekhlbkfanaaRowsB
import Derived.Test.YtgijekhlbkfanaaJobL
set_option linter.unusedSimpArgs false
set_option linter.unusedVariables false
namespace Go.Proofs.Ytgijekhlbkfanaa
open Go.RowKit

/-- A slice of texts. -/
def str1 (s : ByteArray) : List Value := [.string s]
abbrev Strs (w : World) (B : Nat) (A : Option Addr) (n : Nat) (ss : List ByteArray) : Prop := Rows 1 str1 ByteArray.empty w B A n ss
theorem Rows.atS {w : World} {B : Nat} {A : Option Addr} {n : Nat} {ss : List ByteArray} (h : Rows 1 str1 ByteArray.empty w B A n ss) (k : Nat) (hk : k < n) :
    ∃ b off, A = some ⟨b, off, none⟩ ∧ b < B ∧ w.cell? ⟨b, off + k, none⟩ = some (.string (ss[k]?.getD ByteArray.empty)) := by
  obtain ⟨b, off, h1, h2, h3⟩ := h.at_ k hk
  exact ⟨b, off, h1, h2, by simpa using h3 0 _ rfl⟩
/-- A slice of tasks. -/
def Plan (w : World) (B : Nat) (A : Option Addr) (len : Nat) (l : List Tk) : Prop :=
  l.length = len ∧ (0 < len → ∃ b off, A = some ⟨b, off, none⟩ ∧ b < B ∧ ∀ k, k < len →
    w.cell? ⟨b, off + k * 4, none⟩ = some (.string (tkA l k).nm) ∧ w.cell? ⟨b, off + k * 4 + 1, none⟩ = some (.int .i64 (tkA l k).dy) ∧ w.cell? ⟨b, off + k * 4 + 2, none⟩ = some (.int .i64 (tkA l k).mn) ∧
    ∃ A' n c, w.cell? ⟨b, off + k * 4 + 3, none⟩ = some (.slice A' n c) ∧ n ≤ c ∧ c ≤ 9223372036854775807 ∧ Strs w B A' n (tkA l k).af)
section
variable {w : World} {B : Nat} {A : Option Addr} {len : Nat} {l : List Tk}
theorem Plan.at_ (h : Plan w B A len l) (k : Nat) (hk : k < len) : ∃ b off, A = some ⟨b, off, none⟩ ∧ b < B ∧
    w.cell? ⟨b, off + k * 4, none⟩ = some (.string (tkA l k).nm) ∧ w.cell? ⟨b, off + k * 4 + 1, none⟩ = some (.int .i64 (tkA l k).dy) ∧ w.cell? ⟨b, off + k * 4 + 2, none⟩ = some (.int .i64 (tkA l k).mn) ∧
    ∃ A' n c, w.cell? ⟨b, off + k * 4 + 3, none⟩ = some (.slice A' n c) ∧ n ≤ c ∧ c ≤ 9223372036854775807 ∧ Strs w B A' n (tkA l k).af := by
  obtain ⟨b, off, h1, h2, h3⟩ := h.2 (by omega)
  exact ⟨b, off, h1, h2, h3 k hk⟩
theorem Plan.below {w' : World} (h : Plan w B A len l) (hb : Below B w w') : Plan w' B A len l := by
  refine ⟨h.1, fun h0 => ?_⟩
  obtain ⟨b, off, h1, h2, h3⟩ := h.2 h0
  refine ⟨b, off, h1, h2, fun k hk => ?_⟩
  obtain ⟨c1, c2, c3, A', n, c, c4, c5, c6, c7⟩ := h3 k hk
  rw [hb.cell (p := ⟨b, _, none⟩) h2, hb.cell (p := ⟨b, _, none⟩) h2, hb.cell (p := ⟨b, _, none⟩) h2, hb.cell (p := ⟨b, _, none⟩) h2]
  exact ⟨c1, c2, c3, A', n, c, c4, c5, c6, c7.below hb⟩
theorem Plan.more {B' : Nat} (h : Plan w B A len l) (hb : B ≤ B') : Plan w B' A len l :=
  ⟨h.1, fun h0 => by
    obtain ⟨b, off, h1, h2, h3⟩ := h.2 h0
    refine ⟨b, off, h1, by omega, fun k hk => ?_⟩
    obtain ⟨c1, c2, c3, A', n, c, c4, c5, c6, c7⟩ := h3 k hk
    exact ⟨c1, c2, c3, A', n, c, c4, c5, c6, c7.more hb⟩⟩
end
theorem Plan.go {w w' : World} {A : Option Addr} {len : Nat} {l : List Tk} (h : Plan w w.heap.size A len l) (hb : Below w.heap.size w w') : Plan w' w'.heap.size A len l := (h.below hb).more hb.size
/-- A task as it lies, with what its names read as. -/
abbrev TkR := (Option Addr × Nat × Nat) × Tk
def tk4 (x : TkR) : List Value := [.string x.2.nm, .int .i64 x.2.dy, .int .i64 x.2.mn, .slice x.1.1 x.1.2.1 x.1.2.2]
def dTR : TkR := ((none, 0, 0), t0)
theorem plan_of_rows {w : World} {B : Nat} {A : Option Addr} {len : Nat} {xs : List TkR} (h : Rows 4 tk4 dTR w B A len xs) (hg : ∀ x ∈ xs, (x.1.2.1 ≤ x.1.2.2 ∧ x.1.2.2 ≤ 9223372036854775807) ∧ Strs w B x.1.1 x.1.2.1 x.2.af) : Plan w B A len (xs.map (·.2)) := by
  refine ⟨by rw [List.length_map]; exact h.1, fun h0 => ?_⟩
  obtain ⟨b, off, h1, h2, h3⟩ := h.2 h0
  refine ⟨b, off, h1, h2, fun k hk => ?_⟩
  have hkl : k < xs.length := by rw [h.1]; exact hk
  have e : tkA (xs.map (·.2)) k = (xs[k]?.getD dTR).2 := by unfold tkA; rw [List.getElem?_map, List.getElem?_eq_getElem hkl]; rfl
  rw [e]
  obtain ⟨g1, g2⟩ := hg _ (h.mem hk)
  exact ⟨by simpa using h3 k hk 0 _ rfl, h3 k hk 1 _ rfl, h3 k hk 2 _ rfl, _, _, _, h3 k hk 3 _ rfl, g1.1, g1.2, g2⟩
end Go.Proofs.Ytgijekhlbkfanaa
