/- Ropes: the reference's Retires; Wrong of both; SameInts. -/
import Derived.Test.YthninhkimhnegaaRet
import Derived.Test.YthninhkimhnegaaAppend
import Derived.OwnWalk
set_option linter.unusedSimpArgs false
set_option linter.unusedVariables false
namespace Go.Proofs.Ythninhkimhnegaa
open Go.RowKit
attribute [local go_sem] Later.cell

set_option maxRecDepth 20000 in
set_option maxHeartbeats 2000000 in
theorem rRetires_any (s d l : Int) (A : Option Addr) (len cap : Nat) (us : List (Int × Int)) (w : World) (hm : len ≤ cap ∧ cap ≤ 9223372036854775807) (hx : Pairs w w.heap.size A len us) :
    Calls Try.prog 54 #[.agg #[.int .i64 s, .int .i64 d, .int .i64 l], .slice A len cap] w fun e w' => e = .returned (.tuple #[.int .i64 (retV s d l us), .int .i64 (retE s d l us)]) ∧ Below w.heap.size w w' := by
  have c1 := fun W (h : Below w.heap.size w W) => (err_zero s d l us 0) ▸ ropeError_any s d l A len cap us 0 0 W hm ((hx.below h).more h.size)
  by_cases he : askR s d l us 0 = 0
  · obtain ⟨g1, g2, g3, g4⟩ := ask_spec he
    have hv : retV s d l us = if leastC (gone s d l us) 100000 ≤ 100000 then leastC (gone s d l us) 100000 else 0 := if_pos he
    have hv2 : retE s d l us = if leastC (gone s d l us) 100000 ≤ 100000 then 0 else 8 := if_pos he
    rw [hv, hv2]
    rw [he] at c1
    have c2 := fun W (h : Below w.heap.size w W) a ha hb => rleft_any s d l A len cap us a W hm ((hx.below h).more h.size) g1 g2 ha hb
    have hmono := gone_mono (l := l) g1 g2 100000
    have hgone : ∀ a, gone s d l us a = decide (leftR s d us a < l) := fun _ => rfl
    have C1 := Lib.hid c1
    have C2 := Lib.hid c2
    have HM := Lib.hid hmono
    have HG := Lib.hid hgone
    clear c1 c2 hx hv hv2 g1 g2 he hmono hgone
    generalize hP : gone s d l us = P at *
    generalize leftR s d us = L at *
    clear hP
    by_cases hlast : l ≤ L 100000
    · have hR : leastC P 100000 = 100001 := by
        refine LSpec.eq ⟨by omega, fun a ha hb => ?_, fun h => absurd h (by omega)⟩
        cases hp : P a with
        | false => rfl
        | true =>
          have := HM.out a 100000 ha (by omega) (by omega) hp
          rw [HG.out] at this
          simp only [decide_eq_true_eq] at this
          omega
      rw [hR]
      have c3 := fun W (h : Below w.heap.size w W) => C2.out W h 100000 (by decide) (by decide)
      generalize L 100000 = LL at *
      have C3 := Lib.hid c3
      clear c3 C2
      go_enter Try.func54, Try.ntmps54
      go_wp2_with fail
      refine (C1.out _ (by repeat (first | exact Below.refl _ _ | assumption | refine Below.setCell ?_ (by first | (simp; done) | (simp; omega) | omega) _ | refine Below.drew ?_ | refine below_drewN ?_ _ | refine Below.alloc ?_ (by first | (simp; done) | (simp; omega) | omega) _ | refine below_alloc ?_ _ | refine below_step ?_ (by assumption)))).mono ?_
      rintro e w1 ⟨rfl, hb⟩
      have hB_w1 : Below w.heap.size w w1 := (by repeat (first | exact Below.refl _ _ | assumption | refine Below.setCell ?_ (by first | (simp; done) | (simp; omega) | omega) _ | refine Below.drew ?_ | refine below_drewN ?_ _ | refine Below.alloc ?_ (by first | (simp; done) | (simp; omega) | omega) _ | refine below_alloc ?_ _ | refine below_step ?_ (by assumption))); have hz_w1 := hB_w1.size; have hsw10 : w.heap.size < w1.heap.size := Nat.lt_of_lt_of_le (by first | (simp; done) | (simp; omega) | omega) hb.size; have hnw10 : ¬ w.heap.size = w1.heap.size := (by omega); have hmw10 : ¬ w1.heap.size = w.heap.size := (by omega); have hlw10_0 : w.heap.size ≤ w1.heap.size := (by omega); have hlw10_1 : w.heap.size ≤ w1.heap.size + 1 := (by omega); have hlw10_2 : w.heap.size ≤ w1.heap.size + 1 + 1 := (by omega); have hkw10 : w1.cell? ⟨w.heap.size, 0, none⟩ = some (.int .i64 s) := (by rw [hb.cell (p := ⟨w.heap.size, 0, none⟩) (by first | (simp; done) | (simp; omega) | omega)]; first | (go_simp; done) | assumption); have hkw11 : w1.cell? ⟨w.heap.size, 1, none⟩ = some (.int .i64 d) := (by rw [hb.cell (p := ⟨w.heap.size, 1, none⟩) (by first | (simp; done) | (simp; omega) | omega)]; first | (go_simp; done) | assumption); have hkw12 : w1.cell? ⟨w.heap.size, 2, none⟩ = some (.int .i64 l) := (by rw [hb.cell (p := ⟨w.heap.size, 2, none⟩) (by first | (simp; done) | (simp; omega) | omega)]; first | (go_simp; done) | assumption); clear hb
      go_wp2
      (refine wp_region_later (by kernel_rfl) (by kernel_rfl) ?_; (repeat (go_big_quiet_step ((go_at_call 77; exact later_call (C3.out _ (hB_w1.trans ((‹Later w1›).h.mono hz_w1))))))); refine wpQuiet_nil ?_)
      intro w3 hb
      have hB_w3 : Below w.heap.size w w3 := (by repeat (first | exact Below.refl _ _ | assumption | refine Below.setCell ?_ (by first | (simp; done) | (simp; omega) | omega) _ | refine Below.drew ?_ | refine below_drewN ?_ _ | refine Below.alloc ?_ (by first | (simp; done) | (simp; omega) | omega) _ | refine below_alloc ?_ _ | refine below_step ?_ (by assumption))); have hz_w3 := hB_w3.size; clear hb hB_w1 hlw10_0 hlw10_1 hlw10_2 hkw10 hkw11 hkw12
      go_wp2
      go_ret2
      exact ⟨rfl, (by repeat (first | exact Below.refl _ _ | assumption | refine Below.setCell ?_ (by first | (simp; done) | (simp; omega) | omega) _ | refine Below.drew ?_ | refine below_drewN ?_ _ | refine Below.alloc ?_ (by first | (simp; done) | (simp; omega) | omega) _ | refine below_alloc ?_ _ | refine below_step ?_ (by assumption)))⟩
    · have hend : P 100000 = true := by rw [HG.out]; simpa using hlast
      have hend' := Lib.hid hend
      clear hend
      have c3 := fun W (h : Below w.heap.size w W) => C2.out W h 100000 (by decide) (by decide)
      generalize hLL : L 100000 = LL at *
      clear hLL
      have C3 := Lib.hid c3
      clear c3
      go_enter Try.func54, Try.ntmps54
      go_wp2_with fail
      refine (C1.out _ (by repeat (first | exact Below.refl _ _ | assumption | refine Below.setCell ?_ (by first | (simp; done) | (simp; omega) | omega) _ | refine Below.drew ?_ | refine below_drewN ?_ _ | refine Below.alloc ?_ (by first | (simp; done) | (simp; omega) | omega) _ | refine below_alloc ?_ _ | refine below_step ?_ (by assumption)))).mono ?_
      rintro e w1 ⟨rfl, hb⟩
      have hB_w1 : Below w.heap.size w w1 := (by repeat (first | exact Below.refl _ _ | assumption | refine Below.setCell ?_ (by first | (simp; done) | (simp; omega) | omega) _ | refine Below.drew ?_ | refine below_drewN ?_ _ | refine Below.alloc ?_ (by first | (simp; done) | (simp; omega) | omega) _ | refine below_alloc ?_ _ | refine below_step ?_ (by assumption))); have hz_w1 := hB_w1.size; have hsw10 : w.heap.size < w1.heap.size := Nat.lt_of_lt_of_le (by first | (simp; done) | (simp; omega) | omega) hb.size; have hnw10 : ¬ w.heap.size = w1.heap.size := (by omega); have hmw10 : ¬ w1.heap.size = w.heap.size := (by omega); have hlw10_0 : w.heap.size ≤ w1.heap.size := (by omega); have hlw10_1 : w.heap.size ≤ w1.heap.size + 1 := (by omega); have hlw10_2 : w.heap.size ≤ w1.heap.size + 1 + 1 := (by omega); have hkw10 : w1.cell? ⟨w.heap.size, 0, none⟩ = some (.int .i64 s) := (by rw [hb.cell (p := ⟨w.heap.size, 0, none⟩) (by first | (simp; done) | (simp; omega) | omega)]; first | (go_simp; done) | assumption); have hkw11 : w1.cell? ⟨w.heap.size, 1, none⟩ = some (.int .i64 d) := (by rw [hb.cell (p := ⟨w.heap.size, 1, none⟩) (by first | (simp; done) | (simp; omega) | omega)]; first | (go_simp; done) | assumption); have hkw12 : w1.cell? ⟨w.heap.size, 2, none⟩ = some (.int .i64 l) := (by rw [hb.cell (p := ⟨w.heap.size, 2, none⟩) (by first | (simp; done) | (simp; omega) | omega)]; first | (go_simp; done) | assumption); clear hb
      go_wp2
      (refine wp_region_later (by kernel_rfl) (by kernel_rfl) ?_; (repeat (go_big_quiet_step ((go_at_call 77; exact later_call (C3.out _ (hB_w1.trans ((‹Later w1›).h.mono hz_w1))))))); refine wpQuiet_nil ?_)
      intro w3 hb
      have hB_w3 : Below w.heap.size w w3 := (by repeat (first | exact Below.refl _ _ | assumption | refine Below.setCell ?_ (by first | (simp; done) | (simp; omega) | omega) _ | refine Below.drew ?_ | refine below_drewN ?_ _ | refine Below.alloc ?_ (by first | (simp; done) | (simp; omega) | omega) _ | refine below_alloc ?_ _ | refine below_step ?_ (by assumption))); have hz_w3 := hB_w3.size; have hsw30 : w.heap.size < w3.heap.size := Nat.lt_of_lt_of_le (by first | (simp; done) | (simp; omega) | omega) hb.size; have hnw30 : ¬ w.heap.size = w3.heap.size := (by omega); have hmw30 : ¬ w3.heap.size = w.heap.size := (by omega); have hlw30_0 : w.heap.size ≤ w3.heap.size := (by omega); have hlw30_1 : w.heap.size ≤ w3.heap.size + 1 := (by omega); have hlw30_2 : w.heap.size ≤ w3.heap.size + 1 + 1 := (by omega); have hkw30 : w3.cell? ⟨w.heap.size, 0, none⟩ = some (.int .i64 s) := (by rw [hb.cell (p := ⟨w.heap.size, 0, none⟩) (by first | (simp; done) | (simp; omega) | omega)]; first | (go_simp; done) | assumption); have hkw31 : w3.cell? ⟨w.heap.size, 1, none⟩ = some (.int .i64 d) := (by rw [hb.cell (p := ⟨w.heap.size, 1, none⟩) (by first | (simp; done) | (simp; omega) | omega)]; first | (go_simp; done) | assumption); have hkw32 : w3.cell? ⟨w.heap.size, 2, none⟩ = some (.int .i64 l) := (by rw [hb.cell (p := ⟨w.heap.size, 2, none⟩) (by first | (simp; done) | (simp; omega) | omega)]; first | (go_simp; done) | assumption); clear hb hB_w1 hlw10_0 hlw10_1 hlw10_2 hkw10 hkw11 hkw12
      go_wp2
      go_loopw [7, 8] (fun x y wr => ∃ lo hi : Int, x = .int .i64 lo ∧ y = .int .i64 hi ∧ (-1 ≤ lo ∧ lo < hi ∧ hi ≤ 100000) ∧ Hid ((0 ≤ lo → P lo = false) ∧ (hi ≤ 100000 → P hi = true)) ∧ Below w3.heap.size w3 wr) (fun x y _ => (intOf y - intOf x).toNat)
      case atStart => exact ⟨-1, 100000, rfl, rfl, by omega, ⟨fun h => absurd h (by omega), fun _ => hend'.out⟩, Below.refl _ _⟩
      case round =>
        obtain ⟨lo, hi, rfl, rfl, ⟨a1, a2, a3⟩, hinv, hb⟩ := hrel
        have hb' := hb
        have hB_wr : Below w.heap.size w wr := (by repeat (first | exact Below.refl _ _ | assumption | refine Below.setCell ?_ (by first | (simp; done) | (simp; omega) | omega) _ | refine Below.drew ?_ | refine below_drewN ?_ _ | refine Below.alloc ?_ (by first | (simp; done) | (simp; omega) | omega) _ | refine below_alloc ?_ _ | refine below_step ?_ (by assumption))); have hz_wr := hB_wr.size; have hswr0 : w.heap.size < wr.heap.size := Nat.lt_of_lt_of_le (by first | (simp; done) | (simp; omega) | omega) hb.size; have hnwr0 : ¬ w.heap.size = wr.heap.size := (by omega); have hmwr0 : ¬ wr.heap.size = w.heap.size := (by omega); have hlwr0_0 : w.heap.size ≤ wr.heap.size := (by omega); have hlwr0_1 : w.heap.size ≤ wr.heap.size + 1 := (by omega); have hlwr0_2 : w.heap.size ≤ wr.heap.size + 1 + 1 := (by omega); have hkwr0 : wr.cell? ⟨w.heap.size, 0, none⟩ = some (.int .i64 s) := (by rw [hb.cell (p := ⟨w.heap.size, 0, none⟩) (by first | (simp; done) | (simp; omega) | omega)]; first | (go_simp; done) | assumption); have hkwr1 : wr.cell? ⟨w.heap.size, 1, none⟩ = some (.int .i64 d) := (by rw [hb.cell (p := ⟨w.heap.size, 1, none⟩) (by first | (simp; done) | (simp; omega) | omega)]; first | (go_simp; done) | assumption); have hkwr2 : wr.cell? ⟨w.heap.size, 2, none⟩ = some (.int .i64 l) := (by rw [hb.cell (p := ⟨w.heap.size, 2, none⟩) (by first | (simp; done) | (simp; omega) | omega)]; first | (go_simp; done) | assumption); clear hb hB_w3 hlw30_0 hlw30_1 hlw30_2 hkw30 hkw31 hkw32
        by_cases hlt : 1 < hi - lo
        · have hat : 0 ≤ lo + hi := by omega
          have hat2 : lo < (lo + hi) / 2 ∧ (lo + hi) / 2 < hi := by omega
          have c4 := fun W (h : Below w.heap.size w W) => C2.out W h ((lo + hi) / 2) (by omega) (by omega)
          have hp0 := HG.out ((lo + hi) / 2)
          generalize hLM : L ((lo + hi) / 2) = LM at *
          clear hLM
          have C4 := Lib.hid c4
          clear c4
          by_cases hp : LM < l
          · have hp2 : Hid (P ((lo + hi) / 2) = true) := by rw [decide_eq_true hp] at hp0; exact hp0
            clear hp0
            go_wp2
            (refine wp_region_later (by kernel_rfl) (by kernel_rfl) ?_; (repeat (go_big_quiet_step ((go_at_call 77; exact later_call (C4.out _ (hB_wr.trans ((‹Later wr›).h.mono hz_wr))))))); refine wpQuiet_nil ?_)
            intro w4 hb
            have hb4 := hb'.trans (hb.mono hb'.size)
            go_wp2
            go_roundw
            case rel => exact ⟨lo, (lo + hi) / 2, rfl, rfl, by omega, ⟨hinv.out.1, fun _ => hp2.out⟩, hb4⟩
            case measure => simp [intOf]; omega
          · have hp2 : Hid (P ((lo + hi) / 2) = false) := by rw [decide_eq_false hp] at hp0; exact hp0
            clear hp0
            go_wp2
            (refine wp_region_later (by kernel_rfl) (by kernel_rfl) ?_; (repeat (go_big_quiet_step ((go_at_call 77; exact later_call (C4.out _ (hB_wr.trans ((‹Later wr›).h.mono hz_wr))))))); refine wpQuiet_nil ?_)
            intro w4 hb
            have hb4 := hb'.trans (hb.mono hb'.size)
            go_wp2
            go_roundw
            case rel => exact ⟨(lo + hi) / 2, hi, rfl, rfl, by omega, ⟨fun _ => hp2.out, hinv.out.2⟩, hb4⟩
            case measure => simp [intOf]; omega
        · have hl : Hid (leastC P 100000 = hi) := (LSpec.of HM.out a1 (by omega) (by omega) hinv.out.1 hinv.out.2).eq
          have hle : leastC P 100000 ≤ 100000 := by rw [hl.out]; exact a3
          go_wp2
          go_ret2
          exact ⟨by simp [hl.out, a3], (by repeat (first | exact Below.refl _ _ | assumption | refine Below.setCell ?_ (by first | (simp; done) | (simp; omega) | omega) _ | refine Below.drew ?_ | refine below_drewN ?_ _ | refine Below.alloc ?_ (by first | (simp; done) | (simp; omega) | omega) _ | refine below_alloc ?_ _ | refine below_step ?_ (by assumption)))⟩
  · have hv : retV s d l us = 0 := if_neg he
    have hv2 : retE s d l us = askR s d l us 0 := if_neg he
    rw [hv, hv2]
    generalize askR s d l us 0 = E at *
    have he' : (E == 0) = false := by simpa using he
    have C1 := Lib.hid c1
    clear c1 hx hv hv2 he
    go_enter Try.func54, Try.ntmps54
    go_wp2_with fail
    refine (C1.out _ (by repeat (first | exact Below.refl _ _ | assumption | refine Below.setCell ?_ (by first | (simp; done) | (simp; omega) | omega) _ | refine Below.drew ?_ | refine below_drewN ?_ _ | refine Below.alloc ?_ (by first | (simp; done) | (simp; omega) | omega) _ | refine below_alloc ?_ _ | refine below_step ?_ (by assumption)))).mono ?_
    rintro e w1 ⟨rfl, hb⟩
    have hB_w1 : Below w.heap.size w w1 := (by repeat (first | exact Below.refl _ _ | assumption | refine Below.setCell ?_ (by first | (simp; done) | (simp; omega) | omega) _ | refine Below.drew ?_ | refine below_drewN ?_ _ | refine Below.alloc ?_ (by first | (simp; done) | (simp; omega) | omega) _ | refine below_alloc ?_ _ | refine below_step ?_ (by assumption))); have hz_w1 := hB_w1.size; clear hb
    go_wp2
    go_ret2
    exact ⟨rfl, (by repeat (first | exact Below.refl _ _ | assumption | refine Below.setCell ?_ (by first | (simp; done) | (simp; omega) | omega) _ | refine Below.drew ?_ | refine below_drewN ?_ _ | refine Below.alloc ?_ (by first | (simp; done) | (simp; omega) | omega) _ | refine below_alloc ?_ _ | refine below_step ?_ (by assumption)))⟩

set_option maxHeartbeats 1000000 in
theorem SameInts_any (A : Option Addr) (len cap : Nat) (xs : List Int) (A' : Option Addr) (len' cap' : Nat) (ys : List Int) (w : World) (hm : len ≤ 9223372036854775807) (hm' : len' ≤ 9223372036854775807) (hx : Ints w w.heap.size A len xs) (hy : Ints w w.heap.size A' len' ys) :
    Calls Try.prog 57 #[.slice A len cap, .slice A' len' cap'] w fun e w' => e = .returned (.bool (decide (xs = ys))) ∧ Below w.heap.size w w' := by
  have HX := Lib.hid hx
  have HY := Lib.hid hy
  clear hx hy
  by_cases hl : len = len'
  · subst hl
    go_enter Try.func57, Try.ntmps57
    go_wp2
    go_loopw [5] (fun i wr => ∃ k : Nat, k ≤ len ∧ i = .int .i64 k ∧ (∀ j, j < k → xs[j]?.getD 0 = ys[j]?.getD 0) ∧ Below w.heap.size w wr) (fun i _ => len - (intOf i).toNat)
    case atStart => exact ⟨0, Nat.zero_le _, rfl, fun j h => absurd h (by omega), Below.refl _ _⟩
    case round =>
      obtain ⟨k, hk, rfl, ht, hB⟩ := hrel
      have HT := Lib.hid ht
      clear ht
      by_cases hlt : k < len
      · obtain ⟨b, off, rfl, hb0, hc1⟩ := (HX.out.below hB).at_ k hlt
        obtain ⟨b', off', rfl, hb0', hc1'⟩ := (HY.out.below hB).at_ k hlt
        have hbs := hB.size
        have hb1 : b < wr.heap.size := by omega
        have hb1' : b' < wr.heap.size := by omega
        generalize hX : xs[k]?.getD 0 = X at *
        generalize hY : ys[k]?.getD 0 = Y at *
        have HXX := Lib.hid hX
        have HYY := Lib.hid hY
        clear hX hY
        have hk1 : (k : Int) < len := by omega
        have hk2 : ¬ len ≤ k := by omega
        by_cases hxy : X = Y
        · have hxy2 : (X == Y) = true := by simpa using hxy
          have H3 : Hid (∀ j, j < k + 1 → xs[j]?.getD 0 = ys[j]?.getD 0) := by
            intro j hj
            by_cases hjk : j = k
            · rw [hjk, HXX.out, HYY.out]; exact hxy
            · exact HT.out j (by omega)
          subst hxy
          go_wp2
          (refine wp_region_later (by kernel_rfl) (by kernel_rfl) ?_; (repeat (go_big_quiet_step ((fail)))); refine wpQuiet_nil ?_)
          intro w4 hb
          go_wp2
          go_roundw
          case rel => exact ⟨k + 1, by omega, by go_num, H3.out, (by repeat (first | exact Below.refl _ _ | assumption | refine Below.setCell ?_ (by first | (simp; done) | (simp; omega) | omega) _ | refine Below.drew ?_ | refine below_drewN ?_ _ | refine Below.alloc ?_ (by first | (simp; done) | (simp; omega) | omega) _ | refine below_alloc ?_ _ | refine below_step ?_ (by assumption)))⟩
          case measure => simp [intOf]; omega
        · have hxy2 : (X == Y) = false := by simpa using hxy
          have H3 : Hid (¬ xs = ys) := by
            intro h
            apply hxy
            rw [← HXX.out, ← HYY.out, h]
          clear hxy
          go_wp2
          (refine wp_region_later (by kernel_rfl) (by kernel_rfl) ?_; (repeat (go_big_quiet_step ((fail)))); refine wpQuiet_nil ?_)
          intro w4 hb
          go_wp2
          go_ret
          exact ⟨ret_bool (decide_eq_false H3.out).symm, (by repeat (first | exact Below.refl _ _ | assumption | refine Below.setCell ?_ (by first | (simp; done) | (simp; omega) | omega) _ | refine Below.drew ?_ | refine below_drewN ?_ _ | refine Below.alloc ?_ (by first | (simp; done) | (simp; omega) | omega) _ | refine below_alloc ?_ _ | refine below_step ?_ (by assumption)))⟩
      · have H3 : Hid (xs = ys) := by
          apply List.ext_getElem (by rw [HX.out.1, HY.out.1])
          intro j h1 h2
          have := HT.out j (by have := HX.out.1; omega)
          rw [List.getElem?_eq_getElem h1, List.getElem?_eq_getElem h2] at this
          simpa using this
        go_wp2
        go_ret
        exact ⟨ret_bool (decide_eq_true H3.out).symm, (by repeat (first | exact Below.refl _ _ | assumption | refine Below.setCell ?_ (by first | (simp; done) | (simp; omega) | omega) _ | refine Below.drew ?_ | refine below_drewN ?_ _ | refine Below.alloc ?_ (by first | (simp; done) | (simp; omega) | omega) _ | refine below_alloc ?_ _ | refine below_step ?_ (by assumption)))⟩
  · have H3 : Hid (¬ xs = ys) := by
      intro h
      apply hl
      rw [← HX.out.1, ← HY.out.1, h]
    go_enter Try.func57, Try.ntmps57
    go_wp2
    go_ret
    exact ⟨ret_bool (decide_eq_false H3.out).symm, (by repeat (first | exact Below.refl _ _ | assumption | refine Below.setCell ?_ (by first | (simp; done) | (simp; omega) | omega) _ | refine Below.drew ?_ | refine below_drewN ?_ _ | refine Below.alloc ?_ (by first | (simp; done) | (simp; omega) | omega) _ | refine below_alloc ?_ _ | refine below_step ?_ (by assumption)))⟩
end Go.Proofs.Ythninhkimhnegaa
