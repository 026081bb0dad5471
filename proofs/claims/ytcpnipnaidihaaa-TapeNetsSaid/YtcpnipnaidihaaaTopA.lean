/- Tops of layer 5: awake5, tidy5, few5. -/
import Derived.Test.YtcpnipnaidihaaaTape7
set_option linter.unusedSimpArgs false
set_option linter.unusedVariables false
namespace Go.Proofs.Ytcpnipnaidihaaa
open Go.RowKit
attribute [local go_sem] Later.cell Same.cell

def row2 : List Tp := [(0, 1, 2), (1, 2, 3)]
theorem row2_E : resE 3 row2 0 2 = 0 := by decide +kernel
theorem row2_N : rsN 3 row2 0 2 = 5 := by decide +kernel
theorem row2_D : rsD 3 row2 0 2 = 1 := by decide +kernel
theorem row2_rows (W : World) (t : TypeId) : Rows 3 int3 (0,0,0) (W.alloc (.cells #[.int .i64 0, .int .i64 1, .int .i64 2, .int .i64 1, .int .i64 2, .int .i64 3] t)) (W.alloc (.cells #[.int .i64 0, .int .i64 1, .int .i64 2, .int .i64 1, .int .i64 2, .int .i64 3] t)).heap.size (some ⟨W.heap.size, 0, none⟩) 2 row2 := by
  refine ⟨rfl, fun _ => ⟨W.heap.size, 0, rfl, by simp, fun k hk j v hj => ?_⟩⟩
  have hj3 : j < 3 := by
    have := (List.getElem?_eq_some_iff.1 hj).1
    simpa [int3] using this
  rw [World.cell?_alloc_at _ _ _ _ rfl, ← hj]
  rcases (by omega : k = 0 ∨ k = 1) with rfl | rfl <;> rcases (by omega : j = 0 ∨ j = 1 ∨ j = 2) with rfl | rfl | rfl <;> rfl
set_option maxHeartbeats 2000000 in
theorem awake5_any (w : World) :
    Calls Try.prog 17 #[] w fun e w' => e = .returned (.bool true) ∧ Below w.heap.size w w' := by
  have hr := fun t => row2_rows w t
  have c1 := fun t => Resistance_any 3 (some ⟨w.heap.size, 0, none⟩) 2 2 row2 0 2 _ (by omega) (hr t)
  rw [row2_E, row2_N, row2_D] at c1
  have C1 := Lib.hid (c1 59)
  clear c1 hr
  go_enter Try.func17, Try.ntmps17
  go_wp2_with fail
  refine C1.out.mono ?_
  rintro e w1 ⟨rfl, hb⟩
  have hB1 : Below w.heap.size w w1 := ((Below.refl _ _).alloc (Nat.le_refl _) _).trans (hb.mono (by simp))
  have hs1 := hB1.size
  clear hb
  go_wp2
  go_ret
  exact ⟨rfl, (by repeat (first | exact Below.refl _ _ | assumption | refine Below.setCell ?_ (by first | (simp; done) | (simp; omega) | omega) _ | refine Below.drew ?_ | refine below_drewN ?_ _ | refine Below.alloc ?_ (by first | (simp; done) | (simp; omega) | omega) _ | refine below_alloc ?_ _ | refine below_step ?_ (by assumption)))⟩
def tidB (a b : Int) : Bool := decide (1 ≤ b) && (decide (b ≤ 1000000) && (decide (0 ≤ a) && decide (a ≤ 1000000)))
set_option maxHeartbeats 1000000 in
theorem tidy5_any (a b : Int) (w : World) (h : tidB a b = true) :
    Calls Try.prog 20 #[.agg #[.int .i64 a, .int .i64 b]] w fun e w' => e = .returned (.bool true) ∧ Below w.heap.size w w' := by
  simp only [tidB, Bool.and_eq_true, decide_eq_true_eq] at h
  obtain ⟨h1, h2, h3, h4⟩ := h
  go_enter Try.func20, Try.ntmps20
  go_wp2
  go_ret
  exact ⟨ret_bool (by first | (simp; done) | (simp; omega)), (by repeat (first | exact Below.refl _ _ | assumption | refine Below.setCell ?_ (by first | (simp; done) | (simp; omega) | omega) _ | refine Below.drew ?_ | refine below_drewN ?_ _ | refine Below.alloc ?_ (by first | (simp; done) | (simp; omega) | omega) _ | refine below_alloc ?_ _ | refine below_step ?_ (by assumption)))⟩
def fwB (n : Int) (l : List Tp) : Bool := decide (l.length ≤ 4) && (decide (n ≤ 3) && l.all (fun t => decide (t.2.2 ≤ 20)))
set_option maxHeartbeats 2000000 in
theorem few5_any (n : Int) (A : Option Addr) (len cap : Nat) (l : List Tp) (w : World) (hx : Rows 3 int3 (0,0,0) w w.heap.size A len l) :
    Calls Try.prog 16 #[.agg #[.int .i64 n, .slice A len cap]] w fun e w' => e = .returned (.bool (fwB n l)) ∧ Below w.heap.size w w' := by
  have hv : fwB n l = (decide (l.length ≤ 4) && (decide (n ≤ 3) && l.all (fun t => decide (t.2.2 ≤ 20)))) := rfl
  rw [hx.1] at hv
  by_cases h1 : len ≤ 4
  · rw [decide_eq_true h1, Bool.true_and] at hv
    by_cases h2 : n ≤ 3
    · rw [decide_eq_true h2, Bool.true_and] at hv
      rw [hv]
      have h1' : ¬ (4 : Int) < len := by omega
      have h2' : ¬ (3 : Int) < n := by omega
      have HX := Lib.hid hx
      clear hx hv
      go_enter Try.func16, Try.ntmps16
      go_wp2
      go_loopw [3] (fun i W => ∃ k : Nat, k ≤ len ∧ i = .int .i64 k ∧ Hid ((l.take k).all (fun t => decide (t.2.2 ≤ 20)) = true) ∧ Below w.heap.size w W ∧ W.cell? ⟨w.heap.size, 0, none⟩ = some (.int .i64 n) ∧ W.cell? ⟨w.heap.size, 1, none⟩ = some (.slice A len cap)) (fun i _ => len - (intOf i).toNat)
      case atStart => exact ⟨0, Nat.zero_le _, rfl, Lib.hid rfl, (by repeat (first | exact Below.refl _ _ | assumption | refine Below.setCell ?_ (by first | (simp; done) | (simp; omega) | omega) _ | refine Below.drew ?_ | refine below_drewN ?_ _ | refine Below.alloc ?_ (by first | (simp; done) | (simp; omega) | omega) _ | refine below_alloc ?_ _ | refine below_step ?_ (by assumption))), by go_simp, by go_simp⟩
      case round =>
        obtain ⟨k, hk, rfl, hT, hb, hc1, hc2⟩ := hrel
        by_cases hlt : k < len
        · obtain ⟨b, off, rfl, hb0, hq1, hq2, hq3⟩ := rows_tp (HX.out.below hb) k hlt
          have hkl : k < l.length := by rw [HX.out.1]; exact hlt
          have HY := Lib.hid (fun h2 => all_take_snoc (l := l) (k := k) (p := fun t => decide (t.2.2 ≤ 20)) hkl hT.out h2)
          have hN : ¬ (tpA l k).2.2 ≤ 20 → l.all (fun t => decide (t.2.2 ≤ 20)) = false := fun h => List.all_eq_false.2 ⟨l[k], List.getElem_mem hkl, by simpa [tpA, List.getElem?_eq_getElem hkl] using h⟩
          have HN := Lib.hid hN
          have hk1 : (k : Int) < len := by omega
          generalize tpA l k = T at *
          clear hN
          by_cases ho : T.2.2 ≤ 20
          · have ho' : ¬ 20 < T.2.2 := by omega
            have HZ := Lib.hid (HY.out (by simpa using ho))
            clear HY HN
            go_wp2
            go_roundw
            case rel => exact ⟨k + 1, by omega, by go_num, HZ, hb, hc1, hc2⟩
            case measure => simp [intOf]; omega
          · have ho' : 20 < T.2.2 := by omega
            have HZ := Lib.hid (HN.out ho)
            clear HY HN
            go_wp2
            go_ret
            exact ⟨ret_bool HZ.out.symm, hb⟩
        · have hkn : k = len := by omega
          subst hkn
          have HZ : Hid (l.all (fun t => decide (t.2.2 ≤ 20)) = true) := Lib.hid (by have := hT.out; rw [List.take_of_length_le (by rw [HX.out.1]; omega)] at this; exact this)
          go_wp2
          go_ret
          exact ⟨ret_bool HZ.out.symm, hb⟩
    · have h1' : ¬ (4 : Int) < len := by omega
      have h2' : (3 : Int) < n := by omega
      rw [decide_eq_false h2, Bool.false_and] at hv
      rw [hv]
      clear hx hv
      go_enter Try.func16, Try.ntmps16
      go_wp2
      go_ret
      exact ⟨rfl, (by repeat (first | exact Below.refl _ _ | assumption | refine Below.setCell ?_ (by first | (simp; done) | (simp; omega) | omega) _ | refine Below.drew ?_ | refine below_drewN ?_ _ | refine Below.alloc ?_ (by first | (simp; done) | (simp; omega) | omega) _ | refine below_alloc ?_ _ | refine below_step ?_ (by assumption)))⟩
  · have h1' : (4 : Int) < len := by omega
    rw [decide_eq_false h1, Bool.false_and] at hv
    rw [hv]
    clear hx hv
    go_enter Try.func16, Try.ntmps16
    go_wp2
    go_ret
    exact ⟨rfl, (by repeat (first | exact Below.refl _ _ | assumption | refine Below.setCell ?_ (by first | (simp; done) | (simp; omega) | omega) _ | refine Below.drew ?_ | refine below_drewN ?_ _ | refine Below.alloc ?_ (by first | (simp; done) | (simp; omega) | omega) _ | refine below_alloc ?_ _ | refine below_step ?_ (by assumption)))⟩
end Go.Proofs.Ytcpnipnaidihaaa
