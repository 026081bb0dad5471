/- Plans: Same of a plan with one that reads alike. -/
import Derived.Test.YtmionebfepkolaaGreatDoorYJd
import Derived.Test.YtmionebfepkolaaGreatDoorJobR1
import Derived.BigQuiet
set_option linter.unusedSimpArgs false
set_option linter.unusedVariables false
namespace Go.Proofs.YtmionebfepkolaaGreatDoor
open Go.RowKit
attribute [local go_sem] Later.cell Same.cell

set_option maxRecDepth 20000 in
set_option maxHeartbeats 16000000 in
theorem Same_any (A : Option Addr) (len cap : Nat) (l : List Tk) (A2 : Option Addr) (cap2 : Nat) (w : World) (hm : len ≤ 1000) (hf : ∀ i, i < len → (tkA l i).af.length ≤ 1000) (hx : Plan w w.heap.size A len l) (hy : Plan w w.heap.size A2 len l) :
    Calls Tryz.prog 10 #[.slice A len cap, .slice A2 len cap2] w fun e w' => e = .returned (.bool true) ∧ Below w.heap.size w w' := by
  obtain rfl : l.length = len := hx.1
  have HX := Lib.hid hx
  have HY := Lib.hid hy
  have HF := Lib.hid hf
  clear hx hy hf
  go_enter Tryz.func10, Tryz.ntmps10
  go_wp2
  go_loopw [5] (fun i W => ∃ k : Nat, k ≤ l.length ∧ i = .int .i64 (k : Int) ∧ Below w.heap.size w W) (fun i _ => l.length - (intOf i).toNat)
  case atStart => exact ⟨0, Nat.zero_le _, rfl, Below.refl _ _⟩
  case round =>
    obtain ⟨k, hk, rfl, hB⟩ := hrel
    have hbs := hB.size
    by_cases hlt : k < l.length
    · obtain ⟨b, off, rfl, hb0, hc1, hc2, hc3, A', n, cc, hc4, hn1, hn2, hSt⟩ := (HX.out.below hB).at_ k hlt
      obtain ⟨b2, off2, rfl, hb20, hd1, hd2, hd3, A'', n2, cc2, hd4, hm1, hm2, hSt2⟩ := (HY.out.below hB).at_ k hlt
      have hn10 := HF.out k hlt
      obtain rfl : (tkA l k).af.length = n := hSt.1
      obtain rfl : (tkA l k).af.length = n2 := hSt2.1
      have HSt := Lib.hid hSt
      have HSt2 := Lib.hid hSt2
      generalize (tkA l k).nm = X at *
      generalize (tkA l k).dy = Y at *
      generalize (tkA l k).mn = Z at *
      generalize (tkA l k).af = ss at *
      have hk1 : (k : Int) < l.length := by omega
      have hk2 : ¬ l.length ≤ k := by omega
      have hbr : b < wr.heap.size := by omega
      have hbr2 : b2 < wr.heap.size := by omega
      clear hSt hSt2
      go_wp2_with fail
      (refine wp_region_later (by kernel_rfl) (by kernel_rfl) ?_; (repeat (go_big_quiet_step ((fail)))); refine wpQuiet_nil ?_)
      intro w3 hb3
      have hB3 := hB.trans (hb3.mono hbs)
      have HC4 : Hid (w3.cell? ⟨b, off + k * 4 + 3, none⟩ = some (.slice A' ss.length cc)) := Lib.hid ((hb3.cell (p := ⟨b, _, none⟩) hbr).trans hc4)
      have HD4 : Hid (w3.cell? ⟨b2, off2 + k * 4 + 3, none⟩ = some (.slice A'' ss.length cc2)) := Lib.hid ((hb3.cell (p := ⟨b2, _, none⟩) hbr2).trans hd4)
      have HS3 := Lib.hid ((HSt.out.below (hb3.mono hbs)))
      have HT3 := Lib.hid ((HSt2.out.below (hb3.mono hbs)))
      have hs3 := hB3.size
      have hb33 : b < w3.heap.size := by omega
      have hb23 : b2 < w3.heap.size := by omega
      clear hc1 hc2 hc3 hc4 hd1 hd2 hd3 hd4 hb3 HSt HSt2
      obtain ⟨W0, hW0⟩ : ∃ W0, W0 = w3 := ⟨_, rfl⟩
      subst hW0
      go_wp2_with fail
      go_loopw [6] (fun j' W => ∃ j : Nat, j ≤ ss.length ∧ j' = .int .i64 (j : Int) ∧ Below W0.heap.size W0 W) (fun j' _ => ss.length - (intOf j').toNat)
      case atStart => exact ⟨0, Nat.zero_le _, rfl, Below.refl _ _⟩
      case round =>
        obtain ⟨j, hj, rfl, hb⟩ := hrel
        have hws := hb.size
        have hc4 := (hb.cell (p := ⟨b, _, none⟩) hb33).trans HC4.out
        have hd4 := (hb.cell (p := ⟨b2, _, none⟩) hb23).trans HD4.out
        by_cases hlj : j < ss.length
        · obtain ⟨b5, off5, rfl, hb5, he5⟩ := (HS3.out.below (hb.mono hs3)).atS j hlj
          obtain ⟨b6, off6, rfl, hb6, he6⟩ := (HT3.out.below (hb.mono hs3)).atS j hlj
          generalize ss[j]?.getD ByteArray.empty = V at *
          have hj1 : (j : Int) < ss.length := by omega
          have hj2 : ¬ ss.length ≤ j := by omega
          have hbr5 : b5 < wr.heap.size := by omega
          have hbr6 : b6 < wr.heap.size := by omega
          have hbrb : b < wr.heap.size := by omega
          have hbrb2 : b2 < wr.heap.size := by omega
          go_wp2_with fail
          (refine wp_region_later (by kernel_rfl) (by kernel_rfl) ?_; (repeat (go_big_quiet_step ((fail)))); refine wpQuiet_nil ?_)
          intro w4 hb4
          have hb4' := hb.trans (hb4.mono hws)
          clear hc4 hd4 he5 he6 hb4
          go_wp2_with fail
          go_roundw
          case rel => exact ⟨j + 1, by omega, by go_num, hb4'⟩
          case measure => simp [intOf]; omega
        · have hjn : j = ss.length := by omega
          have hj1 : ¬ (j : Int) < ss.length := by omega
          have hb9 := hB3.trans (hb.mono hs3)
          go_wp2_with fail
          go_roundw
          case rel => exact ⟨k + 1, by omega, by go_num, hb9⟩
          case measure => simp [intOf]; omega
    · have hk1 : ¬ (k : Int) < l.length := by omega
      have HB := Lib.hid hB
      clear hB
      go_wp2_with fail
      go_ret
      exact ⟨rfl, HB.out⟩
end Go.Proofs.YtmionebfepkolaaGreatDoor
