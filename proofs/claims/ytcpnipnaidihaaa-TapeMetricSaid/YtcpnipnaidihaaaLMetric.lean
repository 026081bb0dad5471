/- TapeMetric: the walk of the statement. -/
import Derived.Test.YtcpnipnaidihaaaMetricM
import Derived.Test.YtcpnipnaidihaaaTape9
set_option linter.unusedSimpArgs false
set_option linter.unusedVariables false
namespace Go.Proofs.Ytcpnipnaidihaaa
open Go.RowKit
attribute [local go_sem] Later.cell Same.cell

theorem mul_bd {a b : Int} (h1 : 0 ≤ a ∧ a ≤ 1000000000) (h2 : 0 ≤ b ∧ b ≤ 1000000000) : 0 ≤ a * b ∧ a * b ≤ 1000000000000000000 :=
  ⟨Int.mul_nonneg h1.1 h2.1, Int.mul_le_mul h1.2 h2.2 h2.1 (by omega)⟩
set_option maxRecDepth 20000 in
set_option maxHeartbeats 4000000 in
theorem metric_walk (n : Int) (A : Option Addr) (len cap : Nat) (l : List Tp) (x y z : Int) (w : World)
    (_ : -9223372036854775808 ≤ n ∧ n ≤ 9223372036854775807)
    (hm : len ≤ cap ∧ cap ≤ 9223372036854775807) (hx : Rows 3 int3 (0,0,0) w w.heap.size A len l) (_ : ∀ x ∈ l, (-9223372036854775808 ≤ x.1 ∧ x.1 ≤ 9223372036854775807) ∧ (-9223372036854775808 ≤ x.2.1 ∧ x.2.1 ≤ 9223372036854775807) ∧ (-9223372036854775808 ≤ x.2.2 ∧ x.2.2 ≤ 9223372036854775807))
    (_ : -9223372036854775808 ≤ x ∧ x ≤ 9223372036854775807) (_ : -9223372036854775808 ≤ y ∧ y ≤ 9223372036854775807) (_ : -9223372036854775808 ≤ z ∧ z ≤ 9223372036854775807) :
    Calls Try.prog 5 #[.agg #[.int .i64 n, .slice A len cap], .agg #[.int .i64 x, .int .i64 y, .int .i64 z]] w fun e w' => e = .returned (.bool true) ∧ Below w.heap.size w w' := by
  have c0 := fun W => tsmall_any n A len cap W
  by_cases hs : decide (len ≤ 30) = true
  · rw [hs] at c0
    have c1 := fun W (hh : Below w.heap.size w W) => Resistance_any n A len cap l x y W (by omega) ((hx.below hh).more hh.size)
    have c2 := fun W (hh : Below w.heap.size w W) => Resistance_any n A len cap l y x W (by omega) ((hx.below hh).more hh.size)
    have c3 := fun W (hh : Below w.heap.size w W) => Resistance_any n A len cap l y z W (by omega) ((hx.below hh).more hh.size)
    have c4 := fun W (hh : Below w.heap.size w W) => Resistance_any n A len cap l x z W (by omega) ((hx.below hh).more hh.size)
    rw [rsN_comm n l y x, rsD_comm n l y x, resE_comm n l y x] at c2
    have hl : resE n l x y = 0 → resE n l y z = 0 → resE n l x z = 0 ∧ ((0 ≤ rsN n l x y ∧ 1 ≤ rsD n l x y) ∧ rsN n l x y ≤ 713342911662882601 ∧ rsD n l x y ≤ 713342911662882601) ∧ ((0 ≤ rsN n l y z ∧ 1 ≤ rsD n l y z) ∧ rsN n l y z ≤ 713342911662882601 ∧ rsD n l y z ≤ 713342911662882601) ∧ ((0 ≤ rsN n l x z ∧ 1 ≤ rsD n l x z) ∧ rsN n l x z ≤ 713342911662882601 ∧ rsD n l x z ≤ 713342911662882601) ∧
        cmpR (rsN n l x z) (rsD n l x z) (rsN n l x y * rsD n l y z + rsN n l y z * rsD n l x y) (rsD n l x y * rsD n l y z) ≤ 0 := fun h h' => ⟨resE_trans h h', res_in h, res_in h', res_in (resE_trans h h'), metric_law h h'⟩
    generalize rsN n l x y = r at *
    generalize rsD n l x y = rd at *
    generalize resE n l x y = e1 at *
    generalize rsN n l y z = t at *
    generalize rsD n l y z = td at *
    generalize resE n l y z = e3 at *
    generalize rsN n l x z = u at *
    generalize rsD n l x z = ud at *
    generalize resE n l x z = e4 at *
    have C0 := Lib.hid c0
    have C1 := Lib.hid c1
    have C2 := Lib.hid c2
    have C3 := Lib.hid c3
    have C4 := Lib.hid c4
    have HL := Lib.hid hl
    clear c0 c1 c2 c3 c4 hx hs hl
    have hE1 : (e1 != e1) = false := by simp
    have hR1 : (r != r) = false := by simp
    have hD1 : (rd != rd) = false := by simp
    go_enter Try.func5, Try.ntmps5
    go_wp2_with fail
    refine (C0.out _).mono ?_
    rintro e w0 ⟨rfl, hb⟩
    have hB_w0 : Below w.heap.size w w0 := (by repeat (first | exact Below.refl _ _ | assumption | refine Below.setCell ?_ (by first | (simp; done) | (simp; omega) | omega) _ | refine Below.drew ?_ | refine below_drewN ?_ _ | refine Below.alloc ?_ (by first | (simp; done) | (simp; omega) | omega) _ | refine below_alloc ?_ _ | refine below_step ?_ (by assumption))); have hz_w0 := hB_w0.size; have hsw00 : w.heap.size < w0.heap.size := Nat.lt_of_lt_of_le (by first | (simp; done) | (simp; omega) | omega) hb.size; have hnw00 : ¬ w.heap.size = w0.heap.size := (by omega); have hmw00 : ¬ w0.heap.size = w.heap.size := (by omega); have hlw00_0 : w.heap.size ≤ w0.heap.size := (by omega); have hlw00_1 : w.heap.size ≤ w0.heap.size + 1 := (by omega); have hlw00_2 : w.heap.size ≤ w0.heap.size + 1 + 1 := (by omega); have hkw00 : w0.cell? ⟨w.heap.size, 0, none⟩ = some (.int .i64 n) := (by rw [hb.cell (p := ⟨w.heap.size, 0, none⟩) (by first | (simp; done) | (simp; omega) | omega)]; first | (go_simp; done) | assumption); have hkw01 : w0.cell? ⟨w.heap.size, 1, none⟩ = some (.slice A len cap) := (by rw [hb.cell (p := ⟨w.heap.size, 1, none⟩) (by first | (simp; done) | (simp; omega) | omega)]; first | (go_simp; done) | assumption); have hsw02 : w.heap.size + 1 < w0.heap.size := Nat.lt_of_lt_of_le (by first | (simp; done) | (simp; omega) | omega) hb.size; have hnw02 : ¬ w.heap.size + 1 = w0.heap.size := (by omega); have hmw02 : ¬ w0.heap.size = w.heap.size + 1 := (by omega); have hlw02_0 : w.heap.size + 1 ≤ w0.heap.size := (by omega); have hlw02_1 : w.heap.size + 1 ≤ w0.heap.size + 1 := (by omega); have hlw02_2 : w.heap.size + 1 ≤ w0.heap.size + 1 + 1 := (by omega); have hkw02 : w0.cell? ⟨w.heap.size + 1, 0, none⟩ = some (.int .i64 x) := (by rw [hb.cell (p := ⟨w.heap.size + 1, 0, none⟩) (by first | (simp; done) | (simp; omega) | omega)]; first | (go_simp; done) | assumption); have hkw03 : w0.cell? ⟨w.heap.size + 1, 1, none⟩ = some (.int .i64 y) := (by rw [hb.cell (p := ⟨w.heap.size + 1, 1, none⟩) (by first | (simp; done) | (simp; omega) | omega)]; first | (go_simp; done) | assumption); have hkw04 : w0.cell? ⟨w.heap.size + 1, 2, none⟩ = some (.int .i64 z) := (by rw [hb.cell (p := ⟨w.heap.size + 1, 2, none⟩) (by first | (simp; done) | (simp; omega) | omega)]; first | (go_simp; done) | assumption); clear hb
    go_wp2_with fail
    refine (C1.out _ (by repeat (first | exact Below.refl _ _ | assumption | refine Below.setCell ?_ (by first | (simp; done) | (simp; omega) | omega) _ | refine Below.drew ?_ | refine below_drewN ?_ _ | refine Below.alloc ?_ (by first | (simp; done) | (simp; omega) | omega) _ | refine below_alloc ?_ _ | refine below_step ?_ (by assumption)))).mono ?_
    rintro e w1 ⟨rfl, hb⟩
    have hB_w1 : Below w.heap.size w w1 := (by repeat (first | exact Below.refl _ _ | assumption | refine Below.setCell ?_ (by first | (simp; done) | (simp; omega) | omega) _ | refine Below.drew ?_ | refine below_drewN ?_ _ | refine Below.alloc ?_ (by first | (simp; done) | (simp; omega) | omega) _ | refine below_alloc ?_ _ | refine below_step ?_ (by assumption))); have hz_w1 := hB_w1.size; have hsw10 : w.heap.size < w1.heap.size := Nat.lt_of_lt_of_le (by first | (simp; done) | (simp; omega) | omega) hb.size; have hnw10 : ¬ w.heap.size = w1.heap.size := (by omega); have hmw10 : ¬ w1.heap.size = w.heap.size := (by omega); have hlw10_0 : w.heap.size ≤ w1.heap.size := (by omega); have hlw10_1 : w.heap.size ≤ w1.heap.size + 1 := (by omega); have hlw10_2 : w.heap.size ≤ w1.heap.size + 1 + 1 := (by omega); have hkw10 : w1.cell? ⟨w.heap.size, 0, none⟩ = some (.int .i64 n) := (by rw [hb.cell (p := ⟨w.heap.size, 0, none⟩) (by first | (simp; done) | (simp; omega) | omega)]; first | (go_simp; done) | assumption); have hkw11 : w1.cell? ⟨w.heap.size, 1, none⟩ = some (.slice A len cap) := (by rw [hb.cell (p := ⟨w.heap.size, 1, none⟩) (by first | (simp; done) | (simp; omega) | omega)]; first | (go_simp; done) | assumption); have hsw12 : w.heap.size + 1 < w1.heap.size := Nat.lt_of_lt_of_le (by first | (simp; done) | (simp; omega) | omega) hb.size; have hnw12 : ¬ w.heap.size + 1 = w1.heap.size := (by omega); have hmw12 : ¬ w1.heap.size = w.heap.size + 1 := (by omega); have hlw12_0 : w.heap.size + 1 ≤ w1.heap.size := (by omega); have hlw12_1 : w.heap.size + 1 ≤ w1.heap.size + 1 := (by omega); have hlw12_2 : w.heap.size + 1 ≤ w1.heap.size + 1 + 1 := (by omega); have hkw12 : w1.cell? ⟨w.heap.size + 1, 0, none⟩ = some (.int .i64 x) := (by rw [hb.cell (p := ⟨w.heap.size + 1, 0, none⟩) (by first | (simp; done) | (simp; omega) | omega)]; first | (go_simp; done) | assumption); have hkw13 : w1.cell? ⟨w.heap.size + 1, 1, none⟩ = some (.int .i64 y) := (by rw [hb.cell (p := ⟨w.heap.size + 1, 1, none⟩) (by first | (simp; done) | (simp; omega) | omega)]; first | (go_simp; done) | assumption); have hkw14 : w1.cell? ⟨w.heap.size + 1, 2, none⟩ = some (.int .i64 z) := (by rw [hb.cell (p := ⟨w.heap.size + 1, 2, none⟩) (by first | (simp; done) | (simp; omega) | omega)]; first | (go_simp; done) | assumption); clear hb hB_w0 hlw00_0 hlw00_1 hlw00_2 hkw00 hkw01 hlw02_0 hlw02_1 hlw02_2 hkw02 hkw03 hkw04
    go_wp2_with fail
    refine (C2.out _ (by repeat (first | exact Below.refl _ _ | assumption | refine Below.setCell ?_ (by first | (simp; done) | (simp; omega) | omega) _ | refine Below.drew ?_ | refine below_drewN ?_ _ | refine Below.alloc ?_ (by first | (simp; done) | (simp; omega) | omega) _ | refine below_alloc ?_ _ | refine below_step ?_ (by assumption)))).mono ?_
    rintro e w2 ⟨rfl, hb⟩
    have hB_w2 : Below w.heap.size w w2 := (by repeat (first | exact Below.refl _ _ | assumption | refine Below.setCell ?_ (by first | (simp; done) | (simp; omega) | omega) _ | refine Below.drew ?_ | refine below_drewN ?_ _ | refine Below.alloc ?_ (by first | (simp; done) | (simp; omega) | omega) _ | refine below_alloc ?_ _ | refine below_step ?_ (by assumption))); have hz_w2 := hB_w2.size; have hsw20 : w.heap.size < w2.heap.size := Nat.lt_of_lt_of_le (by first | (simp; done) | (simp; omega) | omega) hb.size; have hnw20 : ¬ w.heap.size = w2.heap.size := (by omega); have hmw20 : ¬ w2.heap.size = w.heap.size := (by omega); have hlw20_0 : w.heap.size ≤ w2.heap.size := (by omega); have hlw20_1 : w.heap.size ≤ w2.heap.size + 1 := (by omega); have hlw20_2 : w.heap.size ≤ w2.heap.size + 1 + 1 := (by omega); have hkw20 : w2.cell? ⟨w.heap.size, 0, none⟩ = some (.int .i64 n) := (by rw [hb.cell (p := ⟨w.heap.size, 0, none⟩) (by first | (simp; done) | (simp; omega) | omega)]; first | (go_simp; done) | assumption); have hkw21 : w2.cell? ⟨w.heap.size, 1, none⟩ = some (.slice A len cap) := (by rw [hb.cell (p := ⟨w.heap.size, 1, none⟩) (by first | (simp; done) | (simp; omega) | omega)]; first | (go_simp; done) | assumption); have hsw22 : w.heap.size + 1 < w2.heap.size := Nat.lt_of_lt_of_le (by first | (simp; done) | (simp; omega) | omega) hb.size; have hnw22 : ¬ w.heap.size + 1 = w2.heap.size := (by omega); have hmw22 : ¬ w2.heap.size = w.heap.size + 1 := (by omega); have hlw22_0 : w.heap.size + 1 ≤ w2.heap.size := (by omega); have hlw22_1 : w.heap.size + 1 ≤ w2.heap.size + 1 := (by omega); have hlw22_2 : w.heap.size + 1 ≤ w2.heap.size + 1 + 1 := (by omega); have hkw22 : w2.cell? ⟨w.heap.size + 1, 0, none⟩ = some (.int .i64 x) := (by rw [hb.cell (p := ⟨w.heap.size + 1, 0, none⟩) (by first | (simp; done) | (simp; omega) | omega)]; first | (go_simp; done) | assumption); have hkw23 : w2.cell? ⟨w.heap.size + 1, 1, none⟩ = some (.int .i64 y) := (by rw [hb.cell (p := ⟨w.heap.size + 1, 1, none⟩) (by first | (simp; done) | (simp; omega) | omega)]; first | (go_simp; done) | assumption); have hkw24 : w2.cell? ⟨w.heap.size + 1, 2, none⟩ = some (.int .i64 z) := (by rw [hb.cell (p := ⟨w.heap.size + 1, 2, none⟩) (by first | (simp; done) | (simp; omega) | omega)]; first | (go_simp; done) | assumption); have hsw25 : w1.heap.size < w2.heap.size := Nat.lt_of_lt_of_le (by first | (simp; done) | (simp; omega) | omega) hb.size; have hnw25 : ¬ w1.heap.size = w2.heap.size := (by omega); have hmw25 : ¬ w2.heap.size = w1.heap.size := (by omega); have hlw25_0 : w1.heap.size ≤ w2.heap.size := (by omega); have hlw25_1 : w1.heap.size ≤ w2.heap.size + 1 := (by omega); have hlw25_2 : w1.heap.size ≤ w2.heap.size + 1 + 1 := (by omega); have hkw25 : w2.cell? ⟨w1.heap.size, 0, none⟩ = some (.int .i64 r) := (by rw [hb.cell (p := ⟨w1.heap.size, 0, none⟩) (by first | (simp; done) | (simp; omega) | omega)]; first | (go_simp; done) | assumption); have hkw26 : w2.cell? ⟨w1.heap.size, 1, none⟩ = some (.int .i64 rd) := (by rw [hb.cell (p := ⟨w1.heap.size, 1, none⟩) (by first | (simp; done) | (simp; omega) | omega)]; first | (go_simp; done) | assumption); clear hb hB_w1 hlw10_0 hlw10_1 hlw10_2 hkw10 hkw11 hlw12_0 hlw12_1 hlw12_2 hkw12 hkw13 hkw14
    go_wp2_with fail
    refine (C3.out _ (by repeat (first | exact Below.refl _ _ | assumption | refine Below.setCell ?_ (by first | (simp; done) | (simp; omega) | omega) _ | refine Below.drew ?_ | refine below_drewN ?_ _ | refine Below.alloc ?_ (by first | (simp; done) | (simp; omega) | omega) _ | refine below_alloc ?_ _ | refine below_step ?_ (by assumption)))).mono ?_
    rintro e w3 ⟨rfl, hb⟩
    have hB_w3 : Below w.heap.size w w3 := (by repeat (first | exact Below.refl _ _ | assumption | refine Below.setCell ?_ (by first | (simp; done) | (simp; omega) | omega) _ | refine Below.drew ?_ | refine below_drewN ?_ _ | refine Below.alloc ?_ (by first | (simp; done) | (simp; omega) | omega) _ | refine below_alloc ?_ _ | refine below_step ?_ (by assumption))); have hz_w3 := hB_w3.size; have hsw30 : w.heap.size < w3.heap.size := Nat.lt_of_lt_of_le (by first | (simp; done) | (simp; omega) | omega) hb.size; have hnw30 : ¬ w.heap.size = w3.heap.size := (by omega); have hmw30 : ¬ w3.heap.size = w.heap.size := (by omega); have hlw30_0 : w.heap.size ≤ w3.heap.size := (by omega); have hlw30_1 : w.heap.size ≤ w3.heap.size + 1 := (by omega); have hlw30_2 : w.heap.size ≤ w3.heap.size + 1 + 1 := (by omega); have hkw30 : w3.cell? ⟨w.heap.size, 0, none⟩ = some (.int .i64 n) := (by rw [hb.cell (p := ⟨w.heap.size, 0, none⟩) (by first | (simp; done) | (simp; omega) | omega)]; first | (go_simp; done) | assumption); have hkw31 : w3.cell? ⟨w.heap.size, 1, none⟩ = some (.slice A len cap) := (by rw [hb.cell (p := ⟨w.heap.size, 1, none⟩) (by first | (simp; done) | (simp; omega) | omega)]; first | (go_simp; done) | assumption); have hsw32 : w.heap.size + 1 < w3.heap.size := Nat.lt_of_lt_of_le (by first | (simp; done) | (simp; omega) | omega) hb.size; have hnw32 : ¬ w.heap.size + 1 = w3.heap.size := (by omega); have hmw32 : ¬ w3.heap.size = w.heap.size + 1 := (by omega); have hlw32_0 : w.heap.size + 1 ≤ w3.heap.size := (by omega); have hlw32_1 : w.heap.size + 1 ≤ w3.heap.size + 1 := (by omega); have hlw32_2 : w.heap.size + 1 ≤ w3.heap.size + 1 + 1 := (by omega); have hkw32 : w3.cell? ⟨w.heap.size + 1, 0, none⟩ = some (.int .i64 x) := (by rw [hb.cell (p := ⟨w.heap.size + 1, 0, none⟩) (by first | (simp; done) | (simp; omega) | omega)]; first | (go_simp; done) | assumption); have hkw33 : w3.cell? ⟨w.heap.size + 1, 1, none⟩ = some (.int .i64 y) := (by rw [hb.cell (p := ⟨w.heap.size + 1, 1, none⟩) (by first | (simp; done) | (simp; omega) | omega)]; first | (go_simp; done) | assumption); have hkw34 : w3.cell? ⟨w.heap.size + 1, 2, none⟩ = some (.int .i64 z) := (by rw [hb.cell (p := ⟨w.heap.size + 1, 2, none⟩) (by first | (simp; done) | (simp; omega) | omega)]; first | (go_simp; done) | assumption); have hsw35 : w1.heap.size < w3.heap.size := Nat.lt_of_lt_of_le (by first | (simp; done) | (simp; omega) | omega) hb.size; have hnw35 : ¬ w1.heap.size = w3.heap.size := (by omega); have hmw35 : ¬ w3.heap.size = w1.heap.size := (by omega); have hlw35_0 : w1.heap.size ≤ w3.heap.size := (by omega); have hlw35_1 : w1.heap.size ≤ w3.heap.size + 1 := (by omega); have hlw35_2 : w1.heap.size ≤ w3.heap.size + 1 + 1 := (by omega); have hkw35 : w3.cell? ⟨w1.heap.size, 0, none⟩ = some (.int .i64 r) := (by rw [hb.cell (p := ⟨w1.heap.size, 0, none⟩) (by first | (simp; done) | (simp; omega) | omega)]; first | (go_simp; done) | assumption); have hkw36 : w3.cell? ⟨w1.heap.size, 1, none⟩ = some (.int .i64 rd) := (by rw [hb.cell (p := ⟨w1.heap.size, 1, none⟩) (by first | (simp; done) | (simp; omega) | omega)]; first | (go_simp; done) | assumption); clear hb hB_w2 hlw20_0 hlw20_1 hlw20_2 hkw20 hkw21 hlw22_0 hlw22_1 hlw22_2 hkw22 hkw23 hkw24 hlw25_0 hlw25_1 hlw25_2 hkw25 hkw26
    go_wp2_with fail
    refine (C4.out _ (by repeat (first | exact Below.refl _ _ | assumption | refine Below.setCell ?_ (by first | (simp; done) | (simp; omega) | omega) _ | refine Below.drew ?_ | refine below_drewN ?_ _ | refine Below.alloc ?_ (by first | (simp; done) | (simp; omega) | omega) _ | refine below_alloc ?_ _ | refine below_step ?_ (by assumption)))).mono ?_
    rintro e w4 ⟨rfl, hb⟩
    have hB_w4 : Below w.heap.size w w4 := (by repeat (first | exact Below.refl _ _ | assumption | refine Below.setCell ?_ (by first | (simp; done) | (simp; omega) | omega) _ | refine Below.drew ?_ | refine below_drewN ?_ _ | refine Below.alloc ?_ (by first | (simp; done) | (simp; omega) | omega) _ | refine below_alloc ?_ _ | refine below_step ?_ (by assumption))); have hz_w4 := hB_w4.size; have hsw40 : w1.heap.size < w4.heap.size := Nat.lt_of_lt_of_le (by first | (simp; done) | (simp; omega) | omega) hb.size; have hnw40 : ¬ w1.heap.size = w4.heap.size := (by omega); have hmw40 : ¬ w4.heap.size = w1.heap.size := (by omega); have hlw40_0 : w1.heap.size ≤ w4.heap.size := (by omega); have hlw40_1 : w1.heap.size ≤ w4.heap.size + 1 := (by omega); have hlw40_2 : w1.heap.size ≤ w4.heap.size + 1 + 1 := (by omega); have hkw40 : w4.cell? ⟨w1.heap.size, 0, none⟩ = some (.int .i64 r) := (by rw [hb.cell (p := ⟨w1.heap.size, 0, none⟩) (by first | (simp; done) | (simp; omega) | omega)]; first | (go_simp; done) | assumption); have hkw41 : w4.cell? ⟨w1.heap.size, 1, none⟩ = some (.int .i64 rd) := (by rw [hb.cell (p := ⟨w1.heap.size, 1, none⟩) (by first | (simp; done) | (simp; omega) | omega)]; first | (go_simp; done) | assumption); have hsw42 : w3.heap.size < w4.heap.size := Nat.lt_of_lt_of_le (by first | (simp; done) | (simp; omega) | omega) hb.size; have hnw42 : ¬ w3.heap.size = w4.heap.size := (by omega); have hmw42 : ¬ w4.heap.size = w3.heap.size := (by omega); have hlw42_0 : w3.heap.size ≤ w4.heap.size := (by omega); have hlw42_1 : w3.heap.size ≤ w4.heap.size + 1 := (by omega); have hlw42_2 : w3.heap.size ≤ w4.heap.size + 1 + 1 := (by omega); have hkw42 : w4.cell? ⟨w3.heap.size, 0, none⟩ = some (.int .i64 t) := (by rw [hb.cell (p := ⟨w3.heap.size, 0, none⟩) (by first | (simp; done) | (simp; omega) | omega)]; first | (go_simp; done) | assumption); have hkw43 : w4.cell? ⟨w3.heap.size, 1, none⟩ = some (.int .i64 td) := (by rw [hb.cell (p := ⟨w3.heap.size, 1, none⟩) (by first | (simp; done) | (simp; omega) | omega)]; first | (go_simp; done) | assumption); clear hb hB_w3 hlw30_0 hlw30_1 hlw30_2 hkw30 hkw31 hlw32_0 hlw32_1 hlw32_2 hkw32 hkw33 hkw34 hlw35_0 hlw35_1 hlw35_2 hkw35 hkw36
    by_cases h1 : e1 = 0
    · by_cases h3 : e3 = 0
      · obtain ⟨q1, ⟨⟨r0, rd0⟩, r1, rd1⟩, ⟨⟨t0, td0⟩, t1, td1⟩, ⟨⟨u0, ud0⟩, u1, ud1⟩, q2⟩ := HL.out h1 h3
        subst h1
        subst h3
        subst q1
        have g1 : decide (rd < 1) = false := by simp; omega
        have g2 : decide (td < 1) = false := by simp; omega
        have g7 : decide (r < 0) = false := by simp; omega
        have g8 : decide (t < 0) = false := by simp; omega
        clear HL C1 C2 C3 C4
        by_cases m0 : 1000000000 < rd
        · have m0' : decide (1000000000 < rd) = true := decide_eq_true m0
          clear q2
          go_wp2_with (go_at_call 23; refine (tawake_any _).mono ?_; rintro e w8 ⟨rfl, hb1⟩)
          go_ret
          exact ⟨rfl, (by repeat (first | exact Below.refl _ _ | assumption | refine Below.setCell ?_ (by first | (simp; done) | (simp; omega) | omega) _ | refine Below.drew ?_ | refine below_drewN ?_ _ | refine Below.alloc ?_ (by first | (simp; done) | (simp; omega) | omega) _ | refine below_alloc ?_ _ | refine below_step ?_ (by assumption)))⟩
        · have m0' : decide (1000000000 < rd) = false := decide_eq_false m0
          by_cases m1 : 1000000000 < td
          · have m1' : decide (1000000000 < td) = true := decide_eq_true m1
            clear q2
            go_wp2_with (go_at_call 23; refine (tawake_any _).mono ?_; rintro e w8 ⟨rfl, hb1⟩)
            go_ret
            exact ⟨rfl, (by repeat (first | exact Below.refl _ _ | assumption | refine Below.setCell ?_ (by first | (simp; done) | (simp; omega) | omega) _ | refine Below.drew ?_ | refine below_drewN ?_ _ | refine Below.alloc ?_ (by first | (simp; done) | (simp; omega) | omega) _ | refine below_alloc ?_ _ | refine below_step ?_ (by assumption)))⟩
          · have m1' : decide (1000000000 < td) = false := decide_eq_false m1
            by_cases m2 : 1000000000 < r
            · have m2' : decide (1000000000 < r) = true := decide_eq_true m2
              clear q2
              go_wp2_with (go_at_call 23; refine (tawake_any _).mono ?_; rintro e w8 ⟨rfl, hb1⟩)
              go_ret
              exact ⟨rfl, (by repeat (first | exact Below.refl _ _ | assumption | refine Below.setCell ?_ (by first | (simp; done) | (simp; omega) | omega) _ | refine Below.drew ?_ | refine below_drewN ?_ _ | refine Below.alloc ?_ (by first | (simp; done) | (simp; omega) | omega) _ | refine below_alloc ?_ _ | refine below_step ?_ (by assumption)))⟩
            · have m2' : decide (1000000000 < r) = false := decide_eq_false m2
              by_cases m3 : 1000000000 < t
              · have m3' : decide (1000000000 < t) = true := decide_eq_true m3
                clear q2
                go_wp2_with (go_at_call 23; refine (tawake_any _).mono ?_; rintro e w8 ⟨rfl, hb1⟩)
                go_ret
                exact ⟨rfl, (by repeat (first | exact Below.refl _ _ | assumption | refine Below.setCell ?_ (by first | (simp; done) | (simp; omega) | omega) _ | refine Below.drew ?_ | refine below_drewN ?_ _ | refine Below.alloc ?_ (by first | (simp; done) | (simp; omega) | omega) _ | refine below_alloc ?_ _ | refine below_step ?_ (by assumption)))⟩
              · have m3' : decide (1000000000 < t) = false := decide_eq_false m3
                have p1 := mul_bd (a := r) (b := td) (by omega) (by omega)
                have p2 := mul_bd (a := t) (b := rd) (by omega) (by omega)
                have p3 := mul_bd (a := rd) (b := td) (by omega) (by omega)
                have k1 : IntKind.i64.wrap (r * td) = r * td := IntWalk.i64_in _ (by omega)
                have k2 : IntKind.i64.wrap (t * rd) = t * rd := IntWalk.i64_in _ (by omega)
                have k3 : IntKind.i64.wrap (rd * td) = rd * td := IntWalk.i64_in _ (by omega)
                have k4 : IntKind.i64.wrap (r * td + t * rd) = r * td + t * rd := IntWalk.i64_in _ (by omega)
                have c5 := fun W => Compare_any u ud (r * td + t * rd) (rd * td) W (by omega) (by omega) (by omega) (by omega) (by omega) (by omega) (by omega) (by omega)
                have q3 : decide (cmpR u ud (r * td + t * rd) (rd * td) ≤ 0) = true := decide_eq_true q2
                generalize cmpR u ud (r * td + t * rd) (rd * td) = cc at *
                have C5 := Lib.hid c5
                clear c5 q2
                go_wp2_with fail
                refine (C5.out _).mono ?_
                rintro e w5 ⟨rfl, hb5⟩
                go_wp2_with (go_at_call 23; refine (tawake_any _).mono ?_; rintro e w8 ⟨rfl, hb1⟩)
                go_ret
                exact ⟨rfl, (by repeat (first | exact Below.refl _ _ | assumption | refine Below.setCell ?_ (by first | (simp; done) | (simp; omega) | omega) _ | refine Below.drew ?_ | refine below_drewN ?_ _ | refine Below.alloc ?_ (by first | (simp; done) | (simp; omega) | omega) _ | refine below_alloc ?_ _ | refine below_step ?_ (by assumption)))⟩
      · have h3' : (e3 == 0) = false := by simpa using h3
        subst h1
        clear HL C1 C2 C3 C4
        go_wp2_with (go_at_call 23; refine (tawake_any _).mono ?_; rintro e w8 ⟨rfl, hb1⟩)
        go_ret
        exact ⟨rfl, (by repeat (first | exact Below.refl _ _ | assumption | refine Below.setCell ?_ (by first | (simp; done) | (simp; omega) | omega) _ | refine Below.drew ?_ | refine below_drewN ?_ _ | refine Below.alloc ?_ (by first | (simp; done) | (simp; omega) | omega) _ | refine below_alloc ?_ _ | refine below_step ?_ (by assumption)))⟩
    · have h1' : (e1 == 0) = false := by simpa using h1
      clear HL C1 C2 C3 C4
      go_wp2_with (go_at_call 23; refine (tawake_any _).mono ?_; rintro e w8 ⟨rfl, hb1⟩)
      go_ret
      exact ⟨rfl, (by repeat (first | exact Below.refl _ _ | assumption | refine Below.setCell ?_ (by first | (simp; done) | (simp; omega) | omega) _ | refine Below.drew ?_ | refine below_drewN ?_ _ | refine Below.alloc ?_ (by first | (simp; done) | (simp; omega) | omega) _ | refine below_alloc ?_ _ | refine below_step ?_ (by assumption)))⟩
  · have hs' : decide (len ≤ 30) = false := by simpa using hs
    rw [hs'] at c0
    have C0 := Lib.hid c0
    clear c0 hx hs hs'
    go_enter Try.func5, Try.ntmps5
    go_wp2_with (first | (go_at_call 22; refine (C0.out _).mono ?_; rintro e w' ⟨rfl, hb0⟩) | (go_at_call 23; refine (tawake_any _).mono ?_; rintro e w8 ⟨rfl, hb1⟩))
    go_ret
    exact ⟨rfl, (by repeat (first | exact Below.refl _ _ | assumption | refine Below.setCell ?_ (by first | (simp; done) | (simp; omega) | omega) _ | refine Below.drew ?_ | refine below_drewN ?_ _ | refine Below.alloc ?_ (by first | (simp; done) | (simp; omega) | omega) _ | refine below_alloc ?_ _ | refine below_step ?_ (by assumption)))⟩
end Go.Proofs.Ytcpnipnaidihaaa
