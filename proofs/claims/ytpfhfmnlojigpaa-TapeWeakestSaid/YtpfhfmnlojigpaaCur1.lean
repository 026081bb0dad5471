/- Currents between a node and itself: none. -/
import Derived.Test.YtpfhfmnlojigpaaTape7
import Derived.Test.YtpfhfmnlojigpaaCurM
set_option linter.unusedSimpArgs false
set_option linter.unusedVariables false
namespace Go.Proofs.Ytpfhfmnlojigpaa
open Go.RowKit
attribute [local go_sem] Later.cell Same.cell

theorem info_ratio : (Try.prog.info? 28).map (fun i => (i.zero, i.size, i.bytes)) = some (some (.agg #[.int .i64 0, .int .i64 0]), 2, 16) := by kernel_rfl
theorem made2 (n : Nat) : (madeCells (Value.agg #[.int .i64 0, .int .i64 0]).cells (n * 2)).toList = List.replicate (n * 2) (.int .i64 0) := by
  apply List.ext_getElem?
  intro i
  by_cases hi : i < n * 2
  · have e : (Value.agg #[.int .i64 0, .int .i64 0]).cells = #[.int .i64 0, .int .i64 0] := rfl
    rw [e]
    rcases (by omega : i % 2 = 0 ∨ i % 2 = 1) with h | h <;> simp [madeCells, hi, h]
  · simp [madeCells, hi]
/-- The head of the walk: the row is made, its denominators are laid. -/
def OutR (w w1 : World) (len : Nat) (i : Value) (W : World) : Prop := ∃ k : Nat, k ≤ len ∧ i = .int .i64 k ∧ CA W (w.heap.size + 1 + 1) (pcells (onesK len k)) ∧ Below (w.heap.size + 1 + 1) w1 W
theorem OutR.store {w w1 : World} {len k : Nat} {W : World} (hk : k < len) (hC : CA W (w.heap.size + 1 + 1) (pcells (onesK len k))) (hB : Below (w.heap.size + 1 + 1) w1 W) :
    CA (W.setCell ⟨w.heap.size + 1 + 1, k * 2 + 1, none⟩ (.int .i64 1)) (w.heap.size + 1 + 1) (pcells (onesK len (k + 1))) ∧ Below (w.heap.size + 1 + 1) w1 (W.setCell ⟨w.heap.size + 1 + 1, k * 2 + 1, none⟩ (.int .i64 1)) := by
  refine ⟨(hC.set (k := k * 2 + 1) (by rw [pcells_len, onesK_len]; omega) _).cast ?_, hB.setCell (Nat.le_refl _) _⟩
  rw [onesK_succ hk, pcells_set _ _ _ (by rw [onesK_len]; exact hk)]
set_option maxRecDepth 20000 in
set_option maxHeartbeats 4000000 in
theorem currents_same (A : Option Addr) (len cap : Nat) (a : Int) (w : World) (hm : len ≤ 10) :
    Calls Try.prog 35 #[.slice A len cap, .int .i64 a, .int .i64 a] w fun e w' => (∃ g, e = .returned (.slice (some ⟨g, 0, none⟩) len len) ∧ w.heap.size ≤ g ∧ CA w' g (pcells (List.replicate len (0, 1)))) ∧ Below w.heap.size w w' := by
  obtain ⟨i0, hi, hz0, hz1, hz2⟩ := info_parts info_ratio
  have hI0 := Lib.hid hi
  have hI1 := Lib.hid hz0
  have hI2 := Lib.hid hz1
  have hI3 := Lib.hid hz2
  clear hi hz0 hz1 hz2
  go_enter Try.func35, Try.ntmps35
  go_wp2_with (at_make; refine wpList_make_full _ rfl _ _ 32 rfl (w.heap.size + 1 + 1) 28 i0 (.agg #[.int .i64 0, .int .i64 0]) 2 Try.underlying32 hI0.out hI1.out hI2.out _ _ _ _ len rfl rfl (by omega) (by omega) (by rw [hI3.out]; omega) (by unfold maxLen; omega) (by simp) ?_; intro w1 hown hgrow; go_frame)
  have hgb : Below (w.heap.size + 1 + 1) ((w.alloc (.cells #[.int .i64 a] 3)).alloc (.cells #[.int .i64 a] 3)) w1 := grown_below hgrow (by simp) (fun k hk => by cases hk)
  have hb1 : Below w.heap.size w w1 := (((Below.refl _ w).alloc (Nat.le_refl _) _).alloc (by simp) _).trans (hgb.mono (by omega))
  have hca : w1.cell? ⟨w.heap.size, 0, none⟩ = some (.int .i64 a) := (hgb.cell (p := ⟨w.heap.size, 0, none⟩) (show w.heap.size < w.heap.size + 1 + 1 by omega)).trans (by go_simp)
  have hcb : w1.cell? ⟨w.heap.size + 1, 0, none⟩ = some (.int .i64 a) := (hgb.cell (p := ⟨w.heap.size + 1, 0, none⟩) (show w.heap.size + 1 < w.heap.size + 1 + 1 by omega)).trans (by go_simp)
  simp only [World.size_alloc] at hown
  have hC := CA.own hown
  rw [made2, ← onesK_zero] at hC
  have HC := Lib.hid hC
  clear hown hgrow hgb hC
  simp only [World.size_alloc]
  go_wp2
  go_loopw [28] (fun i W => OutR w w1 len i W) (fun i _ => len - (intOf i).toNat)
  case atStart => exact ⟨0, Nat.zero_le _, rfl, HC.out, Below.refl _ _⟩
  case round =>
    obtain ⟨k, hk, rfl, hC, hB⟩ := hrel
    by_cases hlt : k < len
    · obtain ⟨g1, g2⟩ := hC.2 (k * 2 + 1) _ (pcells_get (onesK len k) k (by rw [onesK_len]; exact hlt)).2
      have hst := OutR.store hlt hC hB
      have HS := Lib.hid hst
      have hk1 : (k : Int) < len := by omega
      clear hC hst
      go_wp2
      go_roundw
      case rel => exact ⟨k + 1, by omega, by go_num, HS.out⟩
      case measure => simp [intOf]; omega
    · have hkn : k = len := by omega
      subst hkn
      have ha2 := (hB.cell (p := ⟨w.heap.size, 0, none⟩) (show w.heap.size < w.heap.size + 1 + 1 by omega)).trans hca
      have hb2 := (hB.cell (p := ⟨w.heap.size + 1, 0, none⟩) (show w.heap.size + 1 < w.heap.size + 1 + 1 by omega)).trans hcb
      rw [onesK_full] at hC
      have HC2 := Lib.hid hC
      have hBB := hb1.trans (hB.mono (by omega))
      clear hC HC
      go_wp2
      go_ret
      exact ⟨⟨_, rfl, by omega, HC2.out⟩, hBB⟩
end Go.Proofs.Ytpfhfmnlojigpaa
