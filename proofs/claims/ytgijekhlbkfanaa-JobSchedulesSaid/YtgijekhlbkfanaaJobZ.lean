/- Plans: many. -/
import Derived.Test.YtgijekhlbkfanaaJobN
import Derived.Test.YtgijekhlbkfanaaOpenT
set_option linter.unusedSimpArgs false
set_option linter.unusedVariables false
namespace Go.Proofs.Ytgijekhlbkfanaa
open Go.RowKit
attribute [local go_sem] Later.cell Same.cell

def ManyR (l : List Tk) (e : Ending) : Prop := ∃ b, e = .returned (.bool b) ∧ (b = false → (∀ i, i < l.length → (tkA l i).af.length ≤ 20) ∧ (l.length ≤ 9 ∨ 20 < l.length) ∧ l.length ≤ 25)
set_option maxRecDepth 20000 in
set_option maxHeartbeats 8000000 in
theorem many_any (A : Option Addr) (len cap : Nat) (l : List Tk) (w : World) (hm : len ≤ 9223372036854775807) (hx : Plan w w.heap.size A len l) :
    Calls Try.prog 18 #[.slice A len cap] w fun e w' => ManyR l e ∧ w = w' := by
  obtain rfl : l.length = len := hx.1
  have HX := Lib.hid hx
  clear hx
  go_enter Try.func18, Try.ntmps18
  go_wp2
  go_loopw [3, 4] (fun v i W => ∃ (k : Nat) (N : Int), k ≤ l.length ∧ i = .int .i64 k ∧ v = .int .i64 N ∧ Hid (∀ q, q < k → (tkA l q).af.length ≤ 20) ∧ w = W) (fun _ i _ => l.length - (intOf i).toNat)
  case atStart => exact ⟨0, 0, Nat.zero_le _, rfl, rfl, Lib.hid (fun q hq => absurd hq (by omega)), rfl⟩
  case round =>
    obtain ⟨k, N, hk, rfl, rfl, HT, rfl⟩ := hrel
    by_cases hlt : k < l.length
    · obtain ⟨b, off, rfl, hb0, hc1, hc2, hc3, A', n, cc, hc4, hn1, hn2, hSt⟩ := HX.out.at_ k hlt
      obtain rfl : (tkA l k).af.length = n := hSt.1
      have HSt := Lib.hid hSt
      have hk1 : (k : Int) < l.length := by omega
      have hk2 : ¬ l.length ≤ k := by omega
      have hnn : (tkA l k).af.length ≤ 9223372036854775807 := by omega
      by_cases h20 : 20 < (tkA l k).af.length
      · have h21 : (20 : Int) < (tkA l k).af.length := by omega
        clear HT hSt
        go_wp2
        go_ret
        exact ⟨⟨_, rfl, fun h => by cases h⟩, rfl⟩
      · have h21 : ¬ (20 : Int) < (tkA l k).af.length := by omega
        have HT2 : Hid (∀ q, q < k + 1 → (tkA l q).af.length ≤ 20) := Lib.hid (fun q hq => by
          by_cases e : q = k
          · rw [e]; omega
          · exact HT.out q (by omega))
        clear HT hSt
        generalize (tkA l k).nm = X at *
        generalize (tkA l k).af = ss at *
        go_wp2
        go_loopw [3, 5] (fun v i W => ∃ (j : Nat) (N : Int), j ≤ ss.length ∧ i = .int .i64 j ∧ v = .int .i64 N ∧ w = W) (fun _ i _ => ss.length - (intOf i).toNat)
        case atStart => exact ⟨0, _, Nat.zero_le _, rfl, rfl, rfl⟩
        case round =>
          obtain ⟨j, N2, hj, rfl, rfl, rfl⟩ := hrel
          by_cases hlj : j < ss.length
          · obtain ⟨b2, off2, rfl, hb2, hc6⟩ := HSt.out.atS j hlj
            have hj1 : (j : Int) < ss.length := by omega
            have hj2 : ¬ ss.length ≤ j := by omega
            go_wp2
            go_roundw
            case rel => exact ⟨j + 1, _, by omega, by go_num, rfl, by first | rfl | trivial⟩
            case measure => simp [intOf]; omega
          · have hj1 : ¬ (j : Int) < ss.length := by omega
            go_wp2
            go_roundw
            case rel => exact ⟨k + 1, N2, by omega, by go_num, rfl, HT2, by first | rfl | trivial⟩
            case measure => simp [intOf]; omega
    · have hkl : k = l.length := by omega
      have hk1 : ¬ (k : Int) < l.length := by omega
      have HT2 : Hid (∀ q, q < l.length → (tkA l q).af.length ≤ 20) := Lib.hid (by rw [← hkl]; exact HT.out)
      subst hkl
      clear HT
      by_cases h9 : 9 < l.length
      · have h91 : (9 : Int) < l.length := by omega
        by_cases h20 : l.length ≤ 20
        · have h21 : (l.length : Int) ≤ 20 := by omega
          go_wp2
          go_ret
          exact ⟨⟨_, rfl, fun h => by cases h⟩, rfl⟩
        · have h21 : ¬ (l.length : Int) ≤ 20 := by omega
          by_cases h25 : 25 < l.length
          · have h26 : (25 : Int) < l.length := by omega
            go_wp2
            go_ret
            exact ⟨⟨_, rfl, fun h => by cases h⟩, rfl⟩
          · have h26 : ¬ (25 : Int) < l.length := by omega
            go_wp2
            go_ret
            exact ⟨⟨_, rfl, fun h => ⟨HT2.out, by omega, by omega⟩⟩, rfl⟩
      · have h91 : ¬ (9 : Int) < l.length := by omega
        have h26 : ¬ (25 : Int) < l.length := by omega
        go_wp2
        go_ret
        exact ⟨⟨_, rfl, fun h => ⟨HT2.out, by omega, by omega⟩⟩, rfl⟩
end Go.Proofs.Ytgijekhlbkfanaa
