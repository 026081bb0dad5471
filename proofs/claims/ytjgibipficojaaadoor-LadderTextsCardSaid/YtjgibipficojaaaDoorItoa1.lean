/- strconv.Itoa and strings.Join as the walks use them. -/
import Derived.Test.YtjgibipficojaaaDoorTxtM
import Derived.Test.YtjgibipficojaaaDoorShelf
import Derived.Lib.AppendIntMem
set_option linter.unusedSimpArgs false
set_option linter.unusedVariables false
namespace Go.Proofs.YtjgibipficojaaaDoor
open Go.RowKit

/-- The library's table of powers of ten lies in w. -/
def Tab (w : World) : Prop := Lib.TabIs Tryd.prog w "internal/strconv.uint64pow10" .u64 Lib.pow10Tab
theorem Tab.below {w w' : World} (h : Tab w) (hb : Below w.heap.size w w') : Tab w' := Lib.tabBelow_of_tabIs h w' hb
theorem itoa_any (n : Int) (w : World) (h : Tab w) (h0 : -9223372036854775808 ≤ n) (h1 : n ≤ 9223372036854775807) :
    Calls Tryd.prog 15 #[.int .i64 n] w fun e w' => e = .returned (.string ⟨(Lib.itoa n).toArray⟩) ∧ Below w.heap.size w w' := by
  refine (Tryd.strconv_Itoa n h0 h1 w h).mono ?_
  rintro e w' ⟨rfl, k, os, rfl⟩
  exact ⟨rfl, Lib.below_grow _ w (Nat.le_refl _) k os⟩
theorem join_own {w : World} {base : Nat} {v : Value} {n : Nat} {ws : List (List UInt8)} (sep : List UInt8) (h : w.ownsRow base 9 1 v n (bcel ws)) (hN : ws.length ≤ 140737488355328) (hlen : (Lib.join ws sep).length ≤ 140737488355328) :
    Calls Tryd.prog 16 #[v, .string ⟨sep.toArray⟩] w fun e w' => e = .returned (.string ⟨(Lib.join ws sep).toArray⟩) ∧ Below w.heap.size w w' := by
  obtain ⟨hl, h0 | ⟨g, cap, rfl, hnc, hm, hb, hg, hc⟩⟩ := own_words h
  · obtain ⟨rfl, rfl⟩ := h0
    have : ws = [] := List.eq_nil_of_length_eq_zero hl
    subst this
    refine (Tryd.strings_Join_none none 0 ⟨sep.toArray⟩ w).mono ?_
    rintro e w' ⟨rfl, rfl⟩
    exact ⟨rfl, Below.refl _ _⟩
  · have hmap : (ws.map fun s => (⟨s.toArray⟩ : ByteArray)).map (·.data.toList) = ws := by
      rw [List.map_map]
      conv => rhs; rw [← List.map_id ws]
      apply List.map_congr_left
      intro x _
      simp
    have := Tryd.strings_Join g 0 cap (ws.map fun s => (⟨s.toArray⟩ : ByteArray)) ⟨sep.toArray⟩ w (by
      intro j x hj
      rw [List.getElem?_map, Option.map_eq_some_iff] at hj
      obtain ⟨s, hs, rfl⟩ := hj
      have hlt : j < ws.length := (List.getElem?_eq_some_iff.1 hs).1
      have := (hc j (by omega)).1
      rw [hs] at this
      rw [Nat.zero_add]
      exact this) hg (by rw [List.length_map]; exact hN) (by rw [List.length_map]; omega) (by rw [hmap]; exact hlen)
    rw [hmap, List.length_map, hl] at this
    exact this
end Go.Proofs.YtjgibipficojaaaDoor
