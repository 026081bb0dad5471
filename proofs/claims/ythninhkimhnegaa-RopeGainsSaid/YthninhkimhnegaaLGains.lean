/- RopeGains: more parts and a greater Keep never lift less; a pull lifts its load, and one newton less does not: the law returns true for every input. No condition. -/
import Derived.Test.YthninhkimhnegaaGainM
import Derived.Test.YthninhkimhnegaaAwake4
import Derived.Deep.DeepCutAuto
set_option linter.unusedSimpArgs false
set_option linter.unusedVariables false
namespace Go.Proofs.Ythninhkimhnegaa
open Go.RowKit
attribute [local go_sem] Later.cell

theorem liftedR_bd (p k x : Int) : (-9223372036854775808 ≤ (liftedR p k x).1 ∧ (liftedR p k x).1 ≤ 9223372036854775807) ∧ -9223372036854775808 ≤ (liftedR p k x).2.1 ∧ (liftedR p k x).2.1 ≤ 9223372036854775807 := by
  by_cases hv : valT p k = true
  · by_cases hl : okLoad x = true
    · obtain ⟨P, rfl, h1, h2, h3, h4⟩ := valT_nat hv
      obtain ⟨h5, h6⟩ := okLoad_iff.1 hl
      have hm := sumT_mul h1 h2 h3 h4 h5 h6
      have hp := pow100_le (m := P - 1) (by omega)
      have hf' : liftedR P k x = (lowN (sumT P k * x) (100 ^ (P - 1)), lowD (sumT P k * x) (100 ^ (P - 1)), 0) := by simp [liftedR, hv, hl]
      rw [hf']
      have q1 := lowN_abs (sumT P k * x) (100 ^ (P - 1)) hp.1
      have q2 := lowD_le (sumT P k * x) (100 ^ (P - 1)) hp.1
      have q3 := lowD_pos (sumT P k * x) (100 ^ (P - 1)) hp.1
      dsimp only
      omega
    · simp [liftedR, hv, hl]
  · simp [liftedR, hv]

set_option maxRecDepth 100000 in
set_option maxHeartbeats 4000000 in
theorem gains_any (p k q l load : Int) (w : World) (b5 : -9223372036854775808 ≤ load ∧ load ≤ 9223372036854775807) :
    Calls Try.prog 5 #[.agg #[.int .i64 p, .int .i64 k], .agg #[.int .i64 q, .int .i64 l], .int .i64 load] w fun e w' => e = .returned (.bool true) ∧ Below w.heap.size w w' := by
  have c1 := fun W => Gain_any p k W
  have c2 := fun W => Gain_any q l W
  have c3 := fun W => Pull_any p k load W
  have hle := gains_le (p := p) (k := k) (q := q) (l := l)
  have hfull := gain_full (p := p) (k := k)
  have hpull := pull_ok (p := p) (k := k) (load := load)
  have bd1 := liftedR_bd p k 1
  have bd2 := liftedR_bd q l 1
  have c4 := fun W => Lifted_any p k (pullR p k load).1 W
  have c5 := fun W => Lifted_any p k ((pullR p k load).1 - 1) W
  have bd4 := liftedR_bd p k (pullR p k load).1
  have bd5 := liftedR_bd p k ((pullR p k load).1 - 1)
  generalize (liftedR p k 1).1 = N1 at *
  generalize (liftedR p k 1).2.1 = D1 at *
  generalize (liftedR p k 1).2.2 = e1 at *
  generalize (liftedR q l 1).1 = N2 at *
  generalize (liftedR q l 1).2.1 = D2 at *
  generalize (liftedR q l 1).2.2 = e2 at *
  generalize (pullR p k load).1 = P at *
  generalize (pullR p k load).2 = g at *
  generalize (liftedR p k P).1 = N4 at *
  generalize (liftedR p k P).2.1 = D4 at *
  generalize (liftedR p k P).2.2 = e4 at *
  generalize (liftedR p k (P - 1)).1 = N5 at *
  generalize (liftedR p k (P - 1)).2.1 = D5 at *
  generalize (liftedR p k (P - 1)).2.2 = e5 at *
  have c6 := fun W => Compare_any N1 D1 N2 D2 W bd1.1.1 bd1.1.2 bd1.2.1 bd1.2.2 bd2.1.1 bd2.1.2 bd2.2.1 bd2.2.2
  have c7 := fun W => Compare_any N4 D4 load 1 W bd4.1.1 bd4.1.2 bd4.2.1 bd4.2.2 b5.1 b5.2 (by decide) (by decide)
  have c8 := fun W => Compare_any N5 D5 load 1 W bd5.1.1 bd5.1.2 bd5.2.1 bd5.2.2 b5.1 b5.2 (by decide) (by decide)
  generalize cmpR N1 D1 N2 D2 = m6 at *
  generalize cmpR N4 D4 load 1 = m7 at *
  generalize cmpR N5 D5 load 1 = m8 at *
  have C1 := Lib.hid c1
  have C2 := Lib.hid c2
  have C3 := Lib.hid c3
  have C4 := Lib.hid c4
  have C5 := Lib.hid c5
  have C6 := Lib.hid c6
  have C7 := Lib.hid c7
  have C8 := Lib.hid c8
  have HLE := Lib.hid hle
  have HF := Lib.hid hfull
  have HP := Lib.hid hpull
  clear c1 c2 c3 c4 c5 c6 c7 c8 hle hfull hpull bd1 bd2 bd4 bd5 b5
  go_enter Try.func5, Try.ntmps5
  go_wp2_with fail
  refine (C1.out _).mono ?_
  rintro e w1 ⟨rfl, hb⟩
  have hB_w1 : Below w.heap.size w w1 := (by repeat (first | exact Below.refl _ _ | assumption | refine Below.setCell ?_ (by first | (simp; done) | (simp; omega) | omega) _ | refine Below.drew ?_ | refine below_drewN ?_ _ | refine Below.alloc ?_ (by first | (simp; done) | (simp; omega) | omega) _ | refine below_step ?_ (by assumption))); have hsw10 : w.heap.size < w1.heap.size := Nat.lt_of_lt_of_le (by first | (simp; done) | (simp; omega) | omega) hb.size; have hnw10 : ¬ w.heap.size = w1.heap.size := (by omega); have hmw10 : ¬ w1.heap.size = w.heap.size := (by omega); have hlw10_0 : w.heap.size ≤ w1.heap.size := (by omega); have hlw10_1 : w.heap.size ≤ w1.heap.size + 1 := (by omega); have hlw10_2 : w.heap.size ≤ w1.heap.size + 1 + 1 := (by omega); have hkw10 : w1.cell? ⟨w.heap.size, 0, none⟩ = some (.int .i64 p) := (by rw [hb.cell (p := ⟨w.heap.size, 0, none⟩) (by first | (simp; done) | (simp; omega) | omega)]; first | (go_simp; done) | assumption); have hkw11 : w1.cell? ⟨w.heap.size, 1, none⟩ = some (.int .i64 k) := (by rw [hb.cell (p := ⟨w.heap.size, 1, none⟩) (by first | (simp; done) | (simp; omega) | omega)]; first | (go_simp; done) | assumption); have hsw12 : w.heap.size + 1 < w1.heap.size := Nat.lt_of_lt_of_le (by first | (simp; done) | (simp; omega) | omega) hb.size; have hnw12 : ¬ w.heap.size + 1 = w1.heap.size := (by omega); have hmw12 : ¬ w1.heap.size = w.heap.size + 1 := (by omega); have hlw12_0 : w.heap.size + 1 ≤ w1.heap.size := (by omega); have hlw12_1 : w.heap.size + 1 ≤ w1.heap.size + 1 := (by omega); have hlw12_2 : w.heap.size + 1 ≤ w1.heap.size + 1 + 1 := (by omega); have hkw12 : w1.cell? ⟨w.heap.size + 1, 0, none⟩ = some (.int .i64 q) := (by rw [hb.cell (p := ⟨w.heap.size + 1, 0, none⟩) (by first | (simp; done) | (simp; omega) | omega)]; first | (go_simp; done) | assumption); have hkw13 : w1.cell? ⟨w.heap.size + 1, 1, none⟩ = some (.int .i64 l) := (by rw [hb.cell (p := ⟨w.heap.size + 1, 1, none⟩) (by first | (simp; done) | (simp; omega) | omega)]; first | (go_simp; done) | assumption); clear hb
  go_wp2_with fail
  refine (C2.out _).mono ?_
  rintro e w2 ⟨rfl, hb⟩
  have hB_w2 : Below w.heap.size w w2 := (by repeat (first | exact Below.refl _ _ | assumption | refine Below.setCell ?_ (by first | (simp; done) | (simp; omega) | omega) _ | refine Below.drew ?_ | refine below_drewN ?_ _ | refine Below.alloc ?_ (by first | (simp; done) | (simp; omega) | omega) _ | refine below_step ?_ (by assumption))); have hsw20 : w.heap.size < w2.heap.size := Nat.lt_of_lt_of_le (by first | (simp; done) | (simp; omega) | omega) hb.size; have hnw20 : ¬ w.heap.size = w2.heap.size := (by omega); have hmw20 : ¬ w2.heap.size = w.heap.size := (by omega); have hlw20_0 : w.heap.size ≤ w2.heap.size := (by omega); have hlw20_1 : w.heap.size ≤ w2.heap.size + 1 := (by omega); have hlw20_2 : w.heap.size ≤ w2.heap.size + 1 + 1 := (by omega); have hkw20 : w2.cell? ⟨w.heap.size, 0, none⟩ = some (.int .i64 p) := (by rw [hb.cell (p := ⟨w.heap.size, 0, none⟩) (by first | (simp; done) | (simp; omega) | omega)]; first | (go_simp; done) | assumption); have hkw21 : w2.cell? ⟨w.heap.size, 1, none⟩ = some (.int .i64 k) := (by rw [hb.cell (p := ⟨w.heap.size, 1, none⟩) (by first | (simp; done) | (simp; omega) | omega)]; first | (go_simp; done) | assumption); have hsw22 : w.heap.size + 1 < w2.heap.size := Nat.lt_of_lt_of_le (by first | (simp; done) | (simp; omega) | omega) hb.size; have hnw22 : ¬ w.heap.size + 1 = w2.heap.size := (by omega); have hmw22 : ¬ w2.heap.size = w.heap.size + 1 := (by omega); have hlw22_0 : w.heap.size + 1 ≤ w2.heap.size := (by omega); have hlw22_1 : w.heap.size + 1 ≤ w2.heap.size + 1 := (by omega); have hlw22_2 : w.heap.size + 1 ≤ w2.heap.size + 1 + 1 := (by omega); have hkw22 : w2.cell? ⟨w.heap.size + 1, 0, none⟩ = some (.int .i64 q) := (by rw [hb.cell (p := ⟨w.heap.size + 1, 0, none⟩) (by first | (simp; done) | (simp; omega) | omega)]; first | (go_simp; done) | assumption); have hkw23 : w2.cell? ⟨w.heap.size + 1, 1, none⟩ = some (.int .i64 l) := (by rw [hb.cell (p := ⟨w.heap.size + 1, 1, none⟩) (by first | (simp; done) | (simp; omega) | omega)]; first | (go_simp; done) | assumption); have hsw24 : w1.heap.size < w2.heap.size := Nat.lt_of_lt_of_le (by first | (simp; done) | (simp; omega) | omega) hb.size; have hnw24 : ¬ w1.heap.size = w2.heap.size := (by omega); have hmw24 : ¬ w2.heap.size = w1.heap.size := (by omega); have hlw24_0 : w1.heap.size ≤ w2.heap.size := (by omega); have hlw24_1 : w1.heap.size ≤ w2.heap.size + 1 := (by omega); have hlw24_2 : w1.heap.size ≤ w2.heap.size + 1 + 1 := (by omega); have hkw24 : w2.cell? ⟨w1.heap.size, 0, none⟩ = some (.int .i64 N1) := (by rw [hb.cell (p := ⟨w1.heap.size, 0, none⟩) (by first | (simp; done) | (simp; omega) | omega)]; first | (go_simp; done) | assumption); have hkw25 : w2.cell? ⟨w1.heap.size, 1, none⟩ = some (.int .i64 D1) := (by rw [hb.cell (p := ⟨w1.heap.size, 1, none⟩) (by first | (simp; done) | (simp; omega) | omega)]; first | (go_simp; done) | assumption); clear hb hB_w1 hlw10_0 hlw10_1 hlw10_2 hkw10 hkw11 hlw12_0 hlw12_1 hlw12_2 hkw12 hkw13
  go_upto_region 3 with fail
  go_cut [52] (fun s wc => s = .bool false ∧ Below (w2.alloc (.cells #[.int .i64 N2, .int .i64 D2] 26)).heap.size (w2.alloc (.cells #[.int .i64 N2, .int .i64 D2] 26)) wc)
  case first =>
    by_cases k1 : e1 = 0
    · by_cases k2 : e2 = 0
      · by_cases k3 : p ≤ q
        · by_cases k4 : k ≤ l
          · have hm := HLE.out k1 k2 k3 k4
            have k1' : (e1 == 0) = true := by simpa using k1
            have k2' : (e2 == 0) = true := by simpa using k2
            clear k1 k2
            go_wp2_with (go_at_call 29; refine (C6.out _).mono ?_; rintro e w3 ⟨rfl, hb⟩)
            go_meet
            case rel => exact ⟨by rw [decide_eq_false (by omega)], hb⟩
          · have k1' : (e1 == 0) = true := by simpa using k1
            have k2' : (e2 == 0) = true := by simpa using k2
            clear k1 k2
            go_wp2
            go_meet
            case rel => exact ⟨rfl, Below.refl _ _⟩
        · have k1' : (e1 == 0) = true := by simpa using k1
          have k2' : (e2 == 0) = true := by simpa using k2
          clear k1 k2
          go_wp2
          go_meet
          case rel => exact ⟨rfl, Below.refl _ _⟩
      · have k1' : (e1 == 0) = true := by simpa using k1
        have k2' : (e2 == 0) = false := by simpa using k2
        clear k1 k2
        go_wp2
        go_meet
        case rel => exact ⟨rfl, Below.refl _ _⟩
    · have k1' : (e1 == 0) = false := by simpa using k1
      clear k1
      go_wp2
      go_meet
      case rel => exact ⟨rfl, Below.refl _ _⟩
  case rest =>
    obtain ⟨rfl, hb⟩ := hcut
    have hB_wc : Below w.heap.size w wc := (by repeat (first | exact Below.refl _ _ | assumption | refine Below.setCell ?_ (by first | (simp; done) | (simp; omega) | omega) _ | refine Below.drew ?_ | refine below_drewN ?_ _ | refine Below.alloc ?_ (by first | (simp; done) | (simp; omega) | omega) _ | refine below_step ?_ (by assumption))); have hswc0 : w.heap.size < wc.heap.size := Nat.lt_of_lt_of_le (by first | (simp; done) | (simp; omega) | omega) hb.size; have hnwc0 : ¬ w.heap.size = wc.heap.size := (by omega); have hmwc0 : ¬ wc.heap.size = w.heap.size := (by omega); have hlwc0_0 : w.heap.size ≤ wc.heap.size := (by omega); have hlwc0_1 : w.heap.size ≤ wc.heap.size + 1 := (by omega); have hlwc0_2 : w.heap.size ≤ wc.heap.size + 1 + 1 := (by omega); have hkwc0 : wc.cell? ⟨w.heap.size, 0, none⟩ = some (.int .i64 p) := (by rw [hb.cell (p := ⟨w.heap.size, 0, none⟩) (by first | (simp; done) | (simp; omega) | omega)]; first | (go_simp; done) | assumption); have hkwc1 : wc.cell? ⟨w.heap.size, 1, none⟩ = some (.int .i64 k) := (by rw [hb.cell (p := ⟨w.heap.size, 1, none⟩) (by first | (simp; done) | (simp; omega) | omega)]; first | (go_simp; done) | assumption); have hswc2 : w.heap.size + 1 < wc.heap.size := Nat.lt_of_lt_of_le (by first | (simp; done) | (simp; omega) | omega) hb.size; have hnwc2 : ¬ w.heap.size + 1 = wc.heap.size := (by omega); have hmwc2 : ¬ wc.heap.size = w.heap.size + 1 := (by omega); have hlwc2_0 : w.heap.size + 1 ≤ wc.heap.size := (by omega); have hlwc2_1 : w.heap.size + 1 ≤ wc.heap.size + 1 := (by omega); have hlwc2_2 : w.heap.size + 1 ≤ wc.heap.size + 1 + 1 := (by omega); have hkwc2 : wc.cell? ⟨w.heap.size + 1, 0, none⟩ = some (.int .i64 q) := (by rw [hb.cell (p := ⟨w.heap.size + 1, 0, none⟩) (by first | (simp; done) | (simp; omega) | omega)]; first | (go_simp; done) | assumption); have hkwc3 : wc.cell? ⟨w.heap.size + 1, 1, none⟩ = some (.int .i64 l) := (by rw [hb.cell (p := ⟨w.heap.size + 1, 1, none⟩) (by first | (simp; done) | (simp; omega) | omega)]; first | (go_simp; done) | assumption); have hswc4 : w1.heap.size < wc.heap.size := Nat.lt_of_lt_of_le (by first | (simp; done) | (simp; omega) | omega) hb.size; have hnwc4 : ¬ w1.heap.size = wc.heap.size := (by omega); have hmwc4 : ¬ wc.heap.size = w1.heap.size := (by omega); have hlwc4_0 : w1.heap.size ≤ wc.heap.size := (by omega); have hlwc4_1 : w1.heap.size ≤ wc.heap.size + 1 := (by omega); have hlwc4_2 : w1.heap.size ≤ wc.heap.size + 1 + 1 := (by omega); have hkwc4 : wc.cell? ⟨w1.heap.size, 0, none⟩ = some (.int .i64 N1) := (by rw [hb.cell (p := ⟨w1.heap.size, 0, none⟩) (by first | (simp; done) | (simp; omega) | omega)]; first | (go_simp; done) | assumption); have hkwc5 : wc.cell? ⟨w1.heap.size, 1, none⟩ = some (.int .i64 D1) := (by rw [hb.cell (p := ⟨w1.heap.size, 1, none⟩) (by first | (simp; done) | (simp; omega) | omega)]; first | (go_simp; done) | assumption); have hswc6 : w2.heap.size < wc.heap.size := Nat.lt_of_lt_of_le (by first | (simp; done) | (simp; omega) | omega) hb.size; have hnwc6 : ¬ w2.heap.size = wc.heap.size := (by omega); have hmwc6 : ¬ wc.heap.size = w2.heap.size := (by omega); have hlwc6_0 : w2.heap.size ≤ wc.heap.size := (by omega); have hlwc6_1 : w2.heap.size ≤ wc.heap.size + 1 := (by omega); have hlwc6_2 : w2.heap.size ≤ wc.heap.size + 1 + 1 := (by omega); have hkwc6 : wc.cell? ⟨w2.heap.size, 0, none⟩ = some (.int .i64 N2) := (by rw [hb.cell (p := ⟨w2.heap.size, 0, none⟩) (by first | (simp; done) | (simp; omega) | omega)]; first | (go_simp; done) | assumption); have hkwc7 : wc.cell? ⟨w2.heap.size, 1, none⟩ = some (.int .i64 D2) := (by rw [hb.cell (p := ⟨w2.heap.size, 1, none⟩) (by first | (simp; done) | (simp; omega) | omega)]; first | (go_simp; done) | assumption); clear hb hB_w2 hlw20_0 hlw20_1 hlw20_2 hkw20 hkw21 hlw22_0 hlw22_1 hlw22_2 hkw22 hkw23 hlw24_0 hlw24_1 hlw24_2 hkw24 hkw25
    go_upto_region 5 with fail
    go_cut [66] (fun s wd => s = .bool false ∧ wc = wd)
    case first =>
      by_cases k1 : e1 = 0
      · by_cases k2 : k = 100
        · obtain ⟨f1, f2⟩ := HF.out k1 k2
          have k1' : (e1 == 0) = true := by simpa using k1
          have k2' : (k == 100) = true := by simpa using k2
          subst f1 f2
          clear k1 k2
          go_wp2
          go_meet
          case rel => exact ⟨rfl, rfl⟩
        · have k1' : (e1 == 0) = true := by simpa using k1
          have k2' : (k == 100) = false := by simpa using k2
          clear k1 k2
          go_wp2
          go_meet
          case rel => exact ⟨rfl, rfl⟩
      · have k1' : (e1 == 0) = false := by simpa using k1
        clear k1
        go_wp2
        go_meet
        case rel => exact ⟨rfl, rfl⟩
    case rest =>
      obtain ⟨rfl, rfl⟩ := hcut
      clear C1 C2 C6 HLE HF
      go_wp2_with fail
      refine (C3.out _).mono ?_
      rintro e w4 ⟨rfl, hb⟩
      have hB_w4 : Below w.heap.size w w4 := (by repeat (first | exact Below.refl _ _ | assumption | refine Below.setCell ?_ (by first | (simp; done) | (simp; omega) | omega) _ | refine Below.drew ?_ | refine below_drewN ?_ _ | refine Below.alloc ?_ (by first | (simp; done) | (simp; omega) | omega) _ | refine below_step ?_ (by assumption))); have hsw40 : w.heap.size < w4.heap.size := Nat.lt_of_lt_of_le (by first | (simp; done) | (simp; omega) | omega) hb.size; have hnw40 : ¬ w.heap.size = w4.heap.size := (by omega); have hmw40 : ¬ w4.heap.size = w.heap.size := (by omega); have hlw40_0 : w.heap.size ≤ w4.heap.size := (by omega); have hlw40_1 : w.heap.size ≤ w4.heap.size + 1 := (by omega); have hlw40_2 : w.heap.size ≤ w4.heap.size + 1 + 1 := (by omega); have hkw40 : w4.cell? ⟨w.heap.size, 0, none⟩ = some (.int .i64 p) := (by rw [hb.cell (p := ⟨w.heap.size, 0, none⟩) (by first | (simp; done) | (simp; omega) | omega)]; first | (go_simp; done) | assumption); have hkw41 : w4.cell? ⟨w.heap.size, 1, none⟩ = some (.int .i64 k) := (by rw [hb.cell (p := ⟨w.heap.size, 1, none⟩) (by first | (simp; done) | (simp; omega) | omega)]; first | (go_simp; done) | assumption); clear hb hB_wc hlwc0_0 hlwc0_1 hlwc0_2 hkwc0 hkwc1 hlwc2_0 hlwc2_1 hlwc2_2 hkwc2 hkwc3 hlwc4_0 hlwc4_1 hlwc4_2 hkwc4 hkwc5 hlwc6_0 hlwc6_1 hlwc6_2 hkwc6 hkwc7
      by_cases hg : g = 0
      · obtain ⟨a1, a2, a3, a4, a5, a6⟩ := HP.out hg
        have hg' : (g != 0) = false := by simpa using hg
        have a3' : (e4 != 0) = false := by simpa using a3
        clear HP hg a3
        go_wp2_with fail
        refine (C4.out _).mono ?_
        rintro e w5 ⟨rfl, hb⟩
        have hB_w5 : Below w.heap.size w w5 := (by repeat (first | exact Below.refl _ _ | assumption | refine Below.setCell ?_ (by first | (simp; done) | (simp; omega) | omega) _ | refine Below.drew ?_ | refine below_drewN ?_ _ | refine Below.alloc ?_ (by first | (simp; done) | (simp; omega) | omega) _ | refine below_step ?_ (by assumption))); have hsw50 : w.heap.size < w5.heap.size := Nat.lt_of_lt_of_le (by first | (simp; done) | (simp; omega) | omega) hb.size; have hnw50 : ¬ w.heap.size = w5.heap.size := (by omega); have hmw50 : ¬ w5.heap.size = w.heap.size := (by omega); have hlw50_0 : w.heap.size ≤ w5.heap.size := (by omega); have hlw50_1 : w.heap.size ≤ w5.heap.size + 1 := (by omega); have hlw50_2 : w.heap.size ≤ w5.heap.size + 1 + 1 := (by omega); have hkw50 : w5.cell? ⟨w.heap.size, 0, none⟩ = some (.int .i64 p) := (by rw [hb.cell (p := ⟨w.heap.size, 0, none⟩) (by first | (simp; done) | (simp; omega) | omega)]; first | (go_simp; done) | assumption); have hkw51 : w5.cell? ⟨w.heap.size, 1, none⟩ = some (.int .i64 k) := (by rw [hb.cell (p := ⟨w.heap.size, 1, none⟩) (by first | (simp; done) | (simp; omega) | omega)]; first | (go_simp; done) | assumption); clear hb hB_w4 hlw40_0 hlw40_1 hlw40_2 hkw40 hkw41
        go_wp2_with fail
        refine (C7.out _).mono ?_
        rintro e w6 ⟨rfl, hb⟩
        have hB_w6 : Below w.heap.size w w6 := (by repeat (first | exact Below.refl _ _ | assumption | refine Below.setCell ?_ (by first | (simp; done) | (simp; omega) | omega) _ | refine Below.drew ?_ | refine below_drewN ?_ _ | refine Below.alloc ?_ (by first | (simp; done) | (simp; omega) | omega) _ | refine below_step ?_ (by assumption))); have hsw60 : w.heap.size < w6.heap.size := Nat.lt_of_lt_of_le (by first | (simp; done) | (simp; omega) | omega) hb.size; have hnw60 : ¬ w.heap.size = w6.heap.size := (by omega); have hmw60 : ¬ w6.heap.size = w.heap.size := (by omega); have hlw60_0 : w.heap.size ≤ w6.heap.size := (by omega); have hlw60_1 : w.heap.size ≤ w6.heap.size + 1 := (by omega); have hlw60_2 : w.heap.size ≤ w6.heap.size + 1 + 1 := (by omega); have hkw60 : w6.cell? ⟨w.heap.size, 0, none⟩ = some (.int .i64 p) := (by rw [hb.cell (p := ⟨w.heap.size, 0, none⟩) (by first | (simp; done) | (simp; omega) | omega)]; first | (go_simp; done) | assumption); have hkw61 : w6.cell? ⟨w.heap.size, 1, none⟩ = some (.int .i64 k) := (by rw [hb.cell (p := ⟨w.heap.size, 1, none⟩) (by first | (simp; done) | (simp; omega) | omega)]; first | (go_simp; done) | assumption); clear hb hB_w5 hlw50_0 hlw50_1 hlw50_2 hkw50 hkw51
        by_cases hP : P ≤ 0
        · obtain rfl : P = 0 := by omega
          have hl0 : (load == 0) = true := by have := a5 rfl; simpa using this
          clear a5 a6
          go_wp2_with (go_at_call 26; refine (awake_any _).mono ?_; rintro e w7 ⟨rfl, hb7⟩)
          go_ret
          exact ⟨rfl, (by repeat (first | exact Below.refl _ _ | assumption | refine Below.setCell ?_ (by first | (simp; done) | (simp; omega) | omega) _ | refine Below.drew ?_ | refine below_drewN ?_ _ | refine Below.alloc ?_ (by first | (simp; done) | (simp; omega) | omega) _ | refine below_step ?_ (by assumption)))⟩
        · obtain ⟨a7, a8⟩ := a6 (by omega)
          have a7' : (e5 == 0) = true := by simpa using a7
          clear a5 a6 a7
          go_wp2_with fail
          refine (C5.out _).mono ?_
          rintro e w7 ⟨rfl, hb⟩
          have hB_w7 : Below w.heap.size w w7 := (by repeat (first | exact Below.refl _ _ | assumption | refine Below.setCell ?_ (by first | (simp; done) | (simp; omega) | omega) _ | refine Below.drew ?_ | refine below_drewN ?_ _ | refine Below.alloc ?_ (by first | (simp; done) | (simp; omega) | omega) _ | refine below_step ?_ (by assumption))); have hsw70 : w.heap.size < w7.heap.size := Nat.lt_of_lt_of_le (by first | (simp; done) | (simp; omega) | omega) hb.size; have hnw70 : ¬ w.heap.size = w7.heap.size := (by omega); have hmw70 : ¬ w7.heap.size = w.heap.size := (by omega); have hlw70_0 : w.heap.size ≤ w7.heap.size := (by omega); have hlw70_1 : w.heap.size ≤ w7.heap.size + 1 := (by omega); have hlw70_2 : w.heap.size ≤ w7.heap.size + 1 + 1 := (by omega); have hkw70 : w7.cell? ⟨w.heap.size, 0, none⟩ = some (.int .i64 p) := (by rw [hb.cell (p := ⟨w.heap.size, 0, none⟩) (by first | (simp; done) | (simp; omega) | omega)]; first | (go_simp; done) | assumption); have hkw71 : w7.cell? ⟨w.heap.size, 1, none⟩ = some (.int .i64 k) := (by rw [hb.cell (p := ⟨w.heap.size, 1, none⟩) (by first | (simp; done) | (simp; omega) | omega)]; first | (go_simp; done) | assumption); clear hb hB_w6 hlw60_0 hlw60_1 hlw60_2 hkw60 hkw61
          go_wp2_with fail
          refine (C8.out _).mono ?_
          rintro e w8 ⟨rfl, hb⟩
          have hB_w8 : Below w.heap.size w w8 := (by repeat (first | exact Below.refl _ _ | assumption | refine Below.setCell ?_ (by first | (simp; done) | (simp; omega) | omega) _ | refine Below.drew ?_ | refine below_drewN ?_ _ | refine Below.alloc ?_ (by first | (simp; done) | (simp; omega) | omega) _ | refine below_step ?_ (by assumption))); have hsw80 : w.heap.size < w8.heap.size := Nat.lt_of_lt_of_le (by first | (simp; done) | (simp; omega) | omega) hb.size; have hnw80 : ¬ w.heap.size = w8.heap.size := (by omega); have hmw80 : ¬ w8.heap.size = w.heap.size := (by omega); have hlw80_0 : w.heap.size ≤ w8.heap.size := (by omega); have hlw80_1 : w.heap.size ≤ w8.heap.size + 1 := (by omega); have hlw80_2 : w.heap.size ≤ w8.heap.size + 1 + 1 := (by omega); have hkw80 : w8.cell? ⟨w.heap.size, 0, none⟩ = some (.int .i64 p) := (by rw [hb.cell (p := ⟨w.heap.size, 0, none⟩) (by first | (simp; done) | (simp; omega) | omega)]; first | (go_simp; done) | assumption); have hkw81 : w8.cell? ⟨w.heap.size, 1, none⟩ = some (.int .i64 k) := (by rw [hb.cell (p := ⟨w.heap.size, 1, none⟩) (by first | (simp; done) | (simp; omega) | omega)]; first | (go_simp; done) | assumption); clear hb hB_w7 hlw70_0 hlw70_1 hlw70_2 hkw70 hkw71
          go_wp2_with (go_at_call 26; refine (awake_any _).mono ?_; rintro e w9 ⟨rfl, hb9⟩)
          go_ret
          exact ⟨rfl, (by repeat (first | exact Below.refl _ _ | assumption | refine Below.setCell ?_ (by first | (simp; done) | (simp; omega) | omega) _ | refine Below.drew ?_ | refine below_drewN ?_ _ | refine Below.alloc ?_ (by first | (simp; done) | (simp; omega) | omega) _ | refine below_step ?_ (by assumption)))⟩
      · have hg' : (g != 0) = true := by simpa using hg
        clear hg HP
        go_wp2_with (go_at_call 26; refine (awake_any _).mono ?_; rintro e w7 ⟨rfl, hb7⟩)
        go_ret
        exact ⟨rfl, (by repeat (first | exact Below.refl _ _ | assumption | refine Below.setCell ?_ (by first | (simp; done) | (simp; omega) | omega) _ | refine Below.drew ?_ | refine below_drewN ?_ _ | refine Below.alloc ?_ (by first | (simp; done) | (simp; omega) | omega) _ | refine below_step ?_ (by assumption)))⟩
theorem gains_walk (p k q l load : Int) (w : World) (_ : -9223372036854775808 ≤ p ∧ p ≤ 9223372036854775807) (_ : -9223372036854775808 ≤ k ∧ k ≤ 9223372036854775807) (_ : -9223372036854775808 ≤ q ∧ q ≤ 9223372036854775807) (_ : -9223372036854775808 ≤ l ∧ l ≤ 9223372036854775807) (b5 : -9223372036854775808 ≤ load ∧ load ≤ 9223372036854775807) :
    Calls Try.prog 5 #[.agg #[.int .i64 p, .int .i64 k], .agg #[.int .i64 q, .int .i64 l], .int .i64 load] w fun e w' => e = .returned (.bool true) ∧ Below w.heap.size w w' := gains_any p k q l load w b5
end Go.Proofs.Ythninhkimhnegaa
