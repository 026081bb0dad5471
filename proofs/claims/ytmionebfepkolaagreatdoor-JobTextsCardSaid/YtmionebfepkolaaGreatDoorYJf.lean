/- Joined by merge.py from: JobN JobZ. -/
import Derived.Test.YtmionebfepkolaaGreatDoorJobQ9
import Derived.Test.YtmionebfepkolaaGreatDoorJobP
import Derived.Test.YtmionebfepkolaaGreatDoorYJe
set_option linter.unusedSimpArgs false
set_option linter.unusedVariables false
namespace Go.Proofs.YtmionebfepkolaaGreatDoor
open Go.RowKit
attribute [local go_sem] Later.cell Same.cell

set_option maxHeartbeats 1000000 in
theorem SameInts6_any (A : Option Addr) (len cap : Nat) (xs : List Int) (A' : Option Addr) (len' cap' : Nat) (ys : List Int) (w : World) (hm : len ≤ 9223372036854775807) (hm' : len' ≤ 9223372036854775807) (hx : Ints w w.heap.size A len xs) (hy : Ints w w.heap.size A' len' ys) :
    Calls Tryz.prog 16 #[.slice A len cap, .slice A' len' cap'] w fun e w' => e = .returned (.bool (decide (xs = ys))) ∧ Below w.heap.size w w' := by
  have HX := Lib.hid hx
  have HY := Lib.hid hy
  clear hx hy
  by_cases hl : len = len'
  · subst hl
    go_enter Tryz.func16, Tryz.ntmps16
    go_wp2
    go_loopw [5] (fun i wr => ∃ k : Nat, k ≤ len ∧ i = .int .i64 k ∧ (∀ j, j < k → xs[j]?.getD 0 = ys[j]?.getD 0) ∧ Below w.heap.size w wr) (fun i _ => len - (intOf i).toNat)
    case atStart => exact ⟨0, Nat.zero_le _, rfl, fun j h => absurd h (by omega), Below.refl _ _⟩
    case round =>
      obtain ⟨k, hk, rfl, ht, hB⟩ := hrel
      have HT := Lib.hid ht
      clear ht
      by_cases hlt : k < len
      · obtain ⟨b, off, rfl, hb0, hc1⟩ := (HX.out.below hB).at_ k hlt
        obtain ⟨b', off', rfl, hb0', hc1'⟩ := (HY.out.below hB).at_ k hlt
        have hbs := hB.size
        have hb1 : b < wr.heap.size := by omega
        have hb1' : b' < wr.heap.size := by omega
        generalize hX : xs[k]?.getD 0 = X at *
        generalize hY : ys[k]?.getD 0 = Y at *
        have HXX := Lib.hid hX
        have HYY := Lib.hid hY
        clear hX hY
        have hk1 : (k : Int) < len := by omega
        have hk2 : ¬ len ≤ k := by omega
        by_cases hxy : X = Y
        · have hxy2 : (X == Y) = true := by simpa using hxy
          have H3 : Hid (∀ j, j < k + 1 → xs[j]?.getD 0 = ys[j]?.getD 0) := by
            intro j hj
            by_cases hjk : j = k
            · rw [hjk, HXX.out, HYY.out]; exact hxy
            · exact HT.out j (by omega)
          subst hxy
          go_wp2
          (refine wp_region_later (by kernel_rfl) (by kernel_rfl) ?_; (repeat (go_big_quiet_step ((fail)))); refine wpQuiet_nil ?_)
          intro w4 hb
          go_wp2
          go_roundw
          case rel => exact ⟨k + 1, by omega, by go_num, H3.out, (by repeat (first | exact Below.refl _ _ | assumption | refine Below.setCell ?_ (by first | (simp; done) | (simp; omega) | omega) _ | refine Below.drew ?_ | refine below_drewN ?_ _ | refine Below.alloc ?_ (by first | (simp; done) | (simp; omega) | omega) _ | refine below_alloc ?_ _ | refine below_step ?_ (by assumption)))⟩
          case measure => simp [intOf]; omega
        · have hxy2 : (X == Y) = false := by simpa using hxy
          have H3 : Hid (¬ xs = ys) := by
            intro h
            apply hxy
            rw [← HXX.out, ← HYY.out, h]
          clear hxy
          go_wp2
          (refine wp_region_later (by kernel_rfl) (by kernel_rfl) ?_; (repeat (go_big_quiet_step ((fail)))); refine wpQuiet_nil ?_)
          intro w4 hb
          go_wp2
          go_ret
          exact ⟨ret_bool (decide_eq_false H3.out).symm, (by repeat (first | exact Below.refl _ _ | assumption | refine Below.setCell ?_ (by first | (simp; done) | (simp; omega) | omega) _ | refine Below.drew ?_ | refine below_drewN ?_ _ | refine Below.alloc ?_ (by first | (simp; done) | (simp; omega) | omega) _ | refine below_alloc ?_ _ | refine below_step ?_ (by assumption)))⟩
      · have H3 : Hid (xs = ys) := by
          apply List.ext_getElem (by rw [HX.out.1, HY.out.1])
          intro j h1 h2
          have := HT.out j (by have := HX.out.1; omega)
          rw [List.getElem?_eq_getElem h1, List.getElem?_eq_getElem h2] at this
          simpa using this
        go_wp2
        go_ret
        exact ⟨ret_bool (decide_eq_true H3.out).symm, (by repeat (first | exact Below.refl _ _ | assumption | refine Below.setCell ?_ (by first | (simp; done) | (simp; omega) | omega) _ | refine Below.drew ?_ | refine below_drewN ?_ _ | refine Below.alloc ?_ (by first | (simp; done) | (simp; omega) | omega) _ | refine below_alloc ?_ _ | refine below_step ?_ (by assumption)))⟩
  · have H3 : Hid (¬ xs = ys) := by
      intro h
      apply hl
      rw [← HX.out.1, ← HY.out.1, h]
    go_enter Tryz.func16, Tryz.ntmps16
    go_wp2
    go_ret
    exact ⟨ret_bool (decide_eq_false H3.out).symm, (by repeat (first | exact Below.refl _ _ | assumption | refine Below.setCell ?_ (by first | (simp; done) | (simp; omega) | omega) _ | refine Below.drew ?_ | refine below_drewN ?_ _ | refine Below.alloc ?_ (by first | (simp; done) | (simp; omega) | omega) _ | refine below_alloc ?_ _ | refine below_step ?_ (by assumption)))⟩
/-- The examples' plan. -/
def axT : List Tk := [⟨⟨#[97]⟩, 2, 1, []⟩, ⟨⟨#[98]⟩, 3, 1, [⟨#[97]⟩]⟩, ⟨⟨#[99]⟩, 1, 1, [⟨#[97]⟩]⟩]
theorem axT_check : checkE axT = 0 := by decide +kernel
theorem axT_len : lenE axT = 5 := by decide +kernel
theorem axT_chn : iN (chnE axT) = [0, 1] := by decide +kernel
theorem axT_nm : nmE axT ⟨#[99]⟩ = 0 := by decide +kernel
theorem axT_slk : slkV axT ⟨#[99]⟩ = 2 := by decide +kernel
theorem axT_pr : prV 100 10000 150 500 12500 = 1950 ∧ prE 100 10000 150 500 12500 = 0 := by decide +kernel
theorem axT_sml : Sml axT := by
  refine ⟨by decide, fun i hi => ?_, fun i hi => ?_, fun i hi s hs => ?_⟩
  · have : i = 0 ∨ i = 1 ∨ i = 2 := by simp [axT] at hi; omega
    rcases this with rfl | rfl | rfl <;> decide
  · have : i = 0 ∨ i = 1 ∨ i = 2 := by simp [axT] at hi; omega
    rcases this with rfl | rfl | rfl <;> decide
  · have : i = 0 ∨ i = 1 ∨ i = 2 := by simp [axT] at hi; omega
    rcases this with rfl | rfl | rfl
    · cases hs
    · rw [List.mem_singleton.1 hs]; decide
    · rw [List.mem_singleton.1 hs]; decide
theorem axT_plan (w : World) (t : TypeId) (t' : TypeId) : Plan (((w.alloc (.cells #[.string ⟨#[97]⟩] t)).alloc (.cells #[.string ⟨#[97]⟩] t)).alloc (.cells #[.string ⟨#[97]⟩, .int .i64 2, .int .i64 1, .slice none 0 0, .string ⟨#[98]⟩, .int .i64 3, .int .i64 1, .slice (some ⟨w.heap.size, 0, none⟩) 1 1, .string ⟨#[99]⟩, .int .i64 1, .int .i64 1, .slice (some ⟨w.heap.size + 1, 0, none⟩) 1 1] t')) (w.heap.size + 3) (some ⟨w.heap.size + 2, 0, none⟩) 3 axT := by
  obtain ⟨W, hW⟩ : ∃ W, W = (((w.alloc (.cells #[.string ⟨#[97]⟩] t)).alloc (.cells #[.string ⟨#[97]⟩] t)).alloc (.cells #[.string ⟨#[97]⟩, .int .i64 2, .int .i64 1, .slice none 0 0, .string ⟨#[98]⟩, .int .i64 3, .int .i64 1, .slice (some ⟨w.heap.size, 0, none⟩) 1 1, .string ⟨#[99]⟩, .int .i64 1, .int .i64 1, .slice (some ⟨w.heap.size + 1, 0, none⟩) 1 1] t')) := ⟨_, rfl⟩
  have h0 : W.cell? ⟨w.heap.size, 0, none⟩ = some (.string ⟨#[97]⟩) := by rw [hW]; go_simp
  have h1 : W.cell? ⟨w.heap.size + 1, 0, none⟩ = some (.string ⟨#[97]⟩) := by rw [hW]; go_simp
  have hs : ∀ b, W.cell? ⟨b, 0, none⟩ = some (.string ⟨#[97]⟩) → b < w.heap.size + 3 → Strs W (w.heap.size + 3) (some ⟨b, 0, none⟩) 1 [⟨#[97]⟩] := fun b hb hl => ⟨rfl, fun _ => ⟨b, 0, rfl, hl, fun k hk j v hv => by
    obtain rfl : k = 0 := by omega
    cases j with
    | zero => simp [str1] at hv; subst hv; simpa using hb
    | succ j => simp [str1] at hv⟩⟩
  rw [← hW]
  refine ⟨rfl, fun _ => ⟨w.heap.size + 2, 0, rfl, by omega, fun k hk => ?_⟩⟩
  have hk3 : k = 0 ∨ k = 1 ∨ k = 2 := by omega
  rcases hk3 with rfl | rfl | rfl
  · exact ⟨by rw [hW]; go_simp; rfl, by rw [hW]; go_simp; rfl, by rw [hW]; go_simp; rfl, none, 0, 0, by rw [hW]; go_simp, Nat.le_refl _, by omega, ⟨rfl, fun h => by omega⟩⟩
  · exact ⟨by rw [hW]; go_simp; rfl, by rw [hW]; go_simp; rfl, by rw [hW]; go_simp; rfl, _, 1, 1, by rw [hW]; go_simp, Nat.le_refl _, by omega, hs _ h0 (by omega)⟩
  · exact ⟨by rw [hW]; go_simp; rfl, by rw [hW]; go_simp; rfl, by rw [hW]; go_simp; rfl, _, 1, 1, by rw [hW]; go_simp, Nat.le_refl _, by omega, hs _ h1 (by omega)⟩
set_option maxRecDepth 20000 in
set_option maxHeartbeats 8000000 in
theorem awake9_any (w : World) : Calls Tryz.prog 4 #[] w fun e w' => e = .returned (.bool true) ∧ Below w.heap.size w w' := by
  have hpl := axT_plan w 9 34
  obtain ⟨W0, hW0⟩ : ∃ W, W = (((w.alloc (.cells #[.string ⟨#[97]⟩] 9)).alloc (.cells #[.string ⟨#[97]⟩] 9)).alloc (.cells #[.string ⟨#[97]⟩, .int .i64 2, .int .i64 1, .slice none 0 0, .string ⟨#[98]⟩, .int .i64 3, .int .i64 1, .slice (some ⟨w.heap.size, 0, none⟩) 1 1, .string ⟨#[99]⟩, .int .i64 1, .int .i64 1, .slice (some ⟨w.heap.size + 1, 0, none⟩) 1 1] 34)) := ⟨_, rfl⟩
  have hs0 : W0.heap.size = w.heap.size + 3 := by rw [hW0]; simp
  rw [← hW0, ← hs0] at hpl
  have hB0 : Below w.heap.size w W0 := by rw [hW0]; exact (((Below.refl _ w).alloc (Nat.le_refl _) _).alloc (by simp) _).alloc (by simp; omega) _
  have c1 := fun W (h : Below W0.heap.size W0 W) => Length_any (some ⟨w.heap.size + 2, 0, none⟩) 3 3 axT W axT_sml (hpl.go h)
  have c2 := fun W (h : Below W0.heap.size W0 W) => Chain_any (some ⟨w.heap.size + 2, 0, none⟩) 3 3 axT W axT_sml (hpl.go h)
  have c3 := fun W (h : Below W0.heap.size W0 W) => Slack_any (some ⟨w.heap.size + 2, 0, none⟩) 3 3 axT ⟨#[99]⟩ W axT_sml (by decide) (hpl.go h)
  have c4 := fun W => Price_any 100 10000 150 500 12500 W
  rw [axT_check, axT_len] at c1
  rw [axT_check, axT_chn] at c2
  rw [axT_nm, axT_slk] at c3
  rw [axT_pr.1, axT_pr.2] at c4
  have hcl : (chnE axT).length = 2 := by decide +kernel
  rw [hcl] at c2
  have C1 := Lib.hid c1
  have C2 := Lib.hid c2
  have C3 := Lib.hid c3
  have C4 := Lib.hid c4
  have HB0 := Lib.hid hB0
  clear c1 c2 c3 c4 hpl hs0 hB0 hcl
  go_enter Tryz.func4, Tryz.ntmps4
  go_wp2_with fail
  rw [← hW0]
  clear hW0
  refine (C1.out _ (Below.refl _ _)).mono ?_
  rintro e w1 ⟨rfl, hb1⟩
  go_wp2_with fail
  refine (C2.out _ hb1).mono ?_
  rintro e w2 ⟨⟨v2, rfl, ho2⟩, hb2⟩
  obtain ⟨A2, k2, rfl, hq1, hq2, hI2, -⟩ := own_ints ho2
  replace hb2 := hb1.trans (hb2.mono hb1.size)
  clear ho2 hb1
  go_wp2_with fail
  refine (C3.out _ hb2).mono ?_
  rintro e w3 ⟨rfl, hb3⟩
  have hI3 := (hI2.below hb3).more hb3.size
  replace hb3 := hb2.trans (hb3.mono hb2.size)
  clear hI2 hb2
  go_wp2_with fail
  refine (C4.out _).mono ?_
  rintro e w4 ⟨rfl, hb4⟩
  have hI4 := (hI3.below hb4).more hb4.size
  replace hb4 := hb3.trans (hb4.mono hb3.size)
  clear hI3 hb3
  have hB4 := Lib.hid (HB0.out.trans (hb4.mono HB0.out.size))
  have c5 := SameInts6_any A2 2 k2 [0, 1] (some ⟨w4.heap.size, 0, none⟩) 2 2 [0, 1] (w4.alloc (.cells #[.int .i64 0, .int .i64 1] 3)) (by omega) (by omega) ((hI4.below (below_alloc (Below.refl _ _) _)).more (below_alloc (Below.refl w4.heap.size _) (.cells #[.int .i64 0, .int .i64 1] 3)).size) ⟨rfl, fun _ => ⟨w4.heap.size, 0, rfl, by simp, fun k hk => by
    have : k = 0 ∨ k = 1 := by omega
    rcases this with rfl | rfl
    · go_simp
    · go_simp⟩⟩
  have C5 := Lib.hid c5
  clear c5 hI4 hb4
  go_wp2_with fail
  refine C5.out.mono ?_
  rintro e w5 ⟨rfl, hb5⟩
  have hs4 := hB4.out.size
  have hB5 := Lib.hid ((hB4.out.alloc hs4 (.cells #[.int .i64 0, .int .i64 1] 3)).trans (hb5.mono (by simp; omega)))
  clear hb5
  go_wp2
  go_ret
  exact ⟨rfl, hB5.out⟩
end Go.Proofs.YtmionebfepkolaaGreatDoor

namespace Go.Proofs.YtmionebfepkolaaGreatDoor
open Go.RowKit
attribute [local go_sem] Later.cell Same.cell

def ManyR (l : List Tk) (e : Ending) : Prop := ∃ b, e = .returned (.bool b) ∧ (b = false → (∀ i, i < l.length → (tkA l i).af.length ≤ 20) ∧ (l.length ≤ 9 ∨ 20 < l.length) ∧ l.length ≤ 25)
set_option maxRecDepth 20000 in
set_option maxHeartbeats 8000000 in
theorem many_any (A : Option Addr) (len cap : Nat) (l : List Tk) (w : World) (hm : len ≤ 9223372036854775807) (hx : Plan w w.heap.size A len l) :
    Calls Tryz.prog 5 #[.slice A len cap] w fun e w' => ManyR l e ∧ w = w' := by
  obtain rfl : l.length = len := hx.1
  have HX := Lib.hid hx
  clear hx
  go_enter Tryz.func5, Tryz.ntmps5
  go_wp2
  go_loopw [3, 4] (fun v i W => ∃ (k : Nat) (N : Int), k ≤ l.length ∧ i = .int .i64 k ∧ v = .int .i64 N ∧ Hid (∀ q, q < k → (tkA l q).af.length ≤ 20) ∧ w = W) (fun _ i _ => l.length - (intOf i).toNat)
  case atStart => exact ⟨0, 0, Nat.zero_le _, rfl, rfl, Lib.hid (fun q hq => absurd hq (by omega)), rfl⟩
  case round =>
    obtain ⟨k, N, hk, rfl, rfl, HT, rfl⟩ := hrel
    by_cases hlt : k < l.length
    · obtain ⟨b, off, rfl, hb0, hc1, hc2, hc3, A', n, cc, hc4, hn1, hn2, hSt⟩ := HX.out.at_ k hlt
      obtain rfl : (tkA l k).af.length = n := hSt.1
      have HSt := Lib.hid hSt
      have hk1 : (k : Int) < l.length := by omega
      have hk2 : ¬ l.length ≤ k := by omega
      have hnn : (tkA l k).af.length ≤ 9223372036854775807 := by omega
      by_cases h20 : 20 < (tkA l k).af.length
      · have h21 : (20 : Int) < (tkA l k).af.length := by omega
        clear HT hSt
        go_wp2
        go_ret
        exact ⟨⟨_, rfl, fun h => by cases h⟩, rfl⟩
      · have h21 : ¬ (20 : Int) < (tkA l k).af.length := by omega
        have HT2 : Hid (∀ q, q < k + 1 → (tkA l q).af.length ≤ 20) := Lib.hid (fun q hq => by
          by_cases e : q = k
          · rw [e]; omega
          · exact HT.out q (by omega))
        clear HT hSt
        generalize (tkA l k).nm = X at *
        generalize (tkA l k).af = ss at *
        go_wp2
        go_loopw [3, 5] (fun v i W => ∃ (j : Nat) (N : Int), j ≤ ss.length ∧ i = .int .i64 j ∧ v = .int .i64 N ∧ w = W) (fun _ i _ => ss.length - (intOf i).toNat)
        case atStart => exact ⟨0, _, Nat.zero_le _, rfl, rfl, rfl⟩
        case round =>
          obtain ⟨j, N2, hj, rfl, rfl, rfl⟩ := hrel
          by_cases hlj : j < ss.length
          · obtain ⟨b2, off2, rfl, hb2, hc6⟩ := HSt.out.atS j hlj
            have hj1 : (j : Int) < ss.length := by omega
            have hj2 : ¬ ss.length ≤ j := by omega
            go_wp2
            go_roundw
            case rel => exact ⟨j + 1, _, by omega, by go_num, rfl, by first | rfl | trivial⟩
            case measure => simp [intOf]; omega
          · have hj1 : ¬ (j : Int) < ss.length := by omega
            go_wp2
            go_roundw
            case rel => exact ⟨k + 1, N2, by omega, by go_num, rfl, HT2, by first | rfl | trivial⟩
            case measure => simp [intOf]; omega
    · have hkl : k = l.length := by omega
      have hk1 : ¬ (k : Int) < l.length := by omega
      have HT2 : Hid (∀ q, q < l.length → (tkA l q).af.length ≤ 20) := Lib.hid (by rw [← hkl]; exact HT.out)
      subst hkl
      clear HT
      by_cases h9 : 9 < l.length
      · have h91 : (9 : Int) < l.length := by omega
        by_cases h20 : l.length ≤ 20
        · have h21 : (l.length : Int) ≤ 20 := by omega
          go_wp2
          go_ret
          exact ⟨⟨_, rfl, fun h => by cases h⟩, rfl⟩
        · have h21 : ¬ (l.length : Int) ≤ 20 := by omega
          by_cases h25 : 25 < l.length
          · have h26 : (25 : Int) < l.length := by omega
            go_wp2
            go_ret
            exact ⟨⟨_, rfl, fun h => by cases h⟩, rfl⟩
          · have h26 : ¬ (25 : Int) < l.length := by omega
            go_wp2
            go_ret
            exact ⟨⟨_, rfl, fun h => ⟨HT2.out, by omega, by omega⟩⟩, rfl⟩
      · have h91 : ¬ (9 : Int) < l.length := by omega
        have h26 : ¬ (25 : Int) < l.length := by omega
        go_wp2
        go_ret
        exact ⟨⟨_, rfl, fun h => ⟨HT2.out, by omega, by omega⟩⟩, rfl⟩
end Go.Proofs.YtmionebfepkolaaGreatDoor
