/- Joints of which one failed: the program and the reference; the same joints. -/
import Derived.Test.YtjgibipficojaaaDoorFailM
import Derived.Test.YtjgibipficojaaaDoorNeedR
import Derived.Laws.OwnMore
set_option linter.unusedSimpArgs false
set_option linter.unusedVariables false
namespace Go.Proofs.YtjgibipficojaaaDoor
open Go.RowKit
attribute [local go_sem] Later.cell

theorem info_joint : (Tryd.prog.info? 32).map (fun i => (i.zero, i.size, i.bytes)) = some (some (.agg #[.int .i64 0, .bool false]), 2, 16) := by kernel_rfl

theorem ownJ_store {w : World} {base g n cap : Nat} {e : TypeId} {l : List J} (h : w.ownsRow base e 2 (.slice (some ⟨g, 0, none⟩) n cap) n (jcells l)) (i : Nat) (hi : i < l.length) :
    (w.setCell ⟨g, i * 2 + 1, none⟩ (.bool false)).ownsRow base e 2 (.slice (some ⟨g, 0, none⟩) n cap) n (jcells (failJ l i)) ∧ w.grownBy (w.setCell ⟨g, i * 2 + 1, none⟩ (.bool false)) (some g) := by
  have := h.stored (i * 2 + 1) (.bool false)
  rw [jcells_set l i hi] at this
  exact this

set_option maxHeartbeats 2000000 in
/-- Two rows of the same joints. -/
theorem Same_any (A : Option Addr) (len cap : Nat) (A' : Option Addr) (cap' : Nat) (l : List J) (w : World) (hm : len ≤ 9223372036854775807) (hx : Rows 2 jointV dJ w w.heap.size A len l) (hy : Rows 2 jointV dJ w w.heap.size A' len l) :
    Calls Tryd.prog 7 #[.slice A len cap, .slice A' len cap'] w fun e w' => e = .returned (.bool true) ∧ Below w.heap.size w w' := by
  have HX := Lib.hid hx
  have HY := Lib.hid hy
  clear hx hy
  go_enter Tryd.func7, Tryd.ntmps7
  go_wp2
  go_loopw [5] (fun i wr => ∃ k : Nat, k ≤ len ∧ i = .int .i64 k ∧ Below w.heap.size w wr) (fun i _ => len - (intOf i).toNat)
  case atStart => exact ⟨0, Nat.zero_le _, rfl, Below.refl _ _⟩
  case round =>
    obtain ⟨k, hk, rfl, hB⟩ := hrel
    by_cases hlt : k < len
    · obtain ⟨b, off, rfl, hb0, hc1, hc2⟩ := (HX.out.below hB).atJ k hlt
      obtain ⟨b', off', rfl, hb0', hc1', hc2'⟩ := (HY.out.below hB).atJ k hlt
      have hbs := hB.size
      have hb1 : b < wr.heap.size := by omega
      have hb1' : b' < wr.heap.size := by omega
      generalize hgt l k = X at *
      generalize sndB l k = Y at *
      have hk1 : (k : Int) < len := by omega
      have hk2 : ¬ len ≤ k := by omega
      go_wp2
      (refine wp_region_later (by kernel_rfl) (by kernel_rfl) ?_; (repeat (go_big_quiet_step ((fail)))); refine wpQuiet_nil ?_)
      intro w4 hb
      go_wp2
      go_roundw
      case rel => exact ⟨k + 1, by omega, by go_num, (by repeat (first | exact Below.refl _ _ | assumption | refine Below.setCell ?_ (by first | (simp; done) | (simp; omega) | omega) _ | refine Below.drew ?_ | refine below_drewN ?_ _ | refine Below.alloc ?_ (by first | (simp; done) | (simp; omega) | omega) _ | refine below_alloc ?_ _ | refine below_step ?_ (by assumption)))⟩
      case measure => simp [intOf]; omega
    · go_wp2
      go_ret
      exact ⟨rfl, (by repeat (first | exact Below.refl _ _ | assumption | refine Below.setCell ?_ (by first | (simp; done) | (simp; omega) | omega) _ | refine Below.drew ?_ | refine below_drewN ?_ _ | refine Below.alloc ?_ (by first | (simp; done) | (simp; omega) | omega) _ | refine below_alloc ?_ _ | refine below_step ?_ (by assumption)))⟩
end Go.Proofs.YtjgibipficojaaaDoor
