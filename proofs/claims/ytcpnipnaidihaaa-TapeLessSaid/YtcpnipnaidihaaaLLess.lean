/- TapeLess: the walk of the statement. -/
import Derived.Test.YtcpnipnaidihaaaLPlace
import Derived.Test.YtcpnipnaidihaaaTape9
import Derived.Deep.DeepCutAuto
set_option linter.unusedSimpArgs false
set_option linter.unusedVariables false
namespace Go.Proofs.Ytcpnipnaidihaaa
open Go.RowKit
attribute [local go_sem] Later.cell Same.cell

theorem wo_in {n : Int} {l : List Tp} {i : Int} (h : woE n l i = 0) : vNet n l = true ∧ 0 ≤ i ∧ i < l.length := by
  unfold woE at h
  cases hv : vNet n l
  · rw [hv] at h; cases h
  · rw [hv, if_pos rfl] at h
    cases hw : withinB i 0 ((l.length : Int) - 1)
    · rw [hw] at h; cases h
    · have := withinB_iff.1 hw
      exact ⟨rfl, this.1, by omega⟩
set_option maxRecDepth 20000 in
set_option maxHeartbeats 8000000 in
theorem less_walk (n : Int) (A : Option Addr) (len cap : Nat) (l : List Tp) (x y z : Int) (w : World)
    (_ : -9223372036854775808 ≤ n ∧ n ≤ 9223372036854775807)
    (hm : len ≤ cap ∧ cap ≤ 9223372036854775807) (hx : Rows 3 int3 (0,0,0) w w.heap.size A len l) (_ : ∀ x ∈ l, (-9223372036854775808 ≤ x.1 ∧ x.1 ≤ 9223372036854775807) ∧ (-9223372036854775808 ≤ x.2.1 ∧ x.2.1 ≤ 9223372036854775807) ∧ (-9223372036854775808 ≤ x.2.2 ∧ x.2.2 ≤ 9223372036854775807))
    (hxb : -9223372036854775808 ≤ x ∧ x ≤ 9223372036854775807) (hyb : -9223372036854775808 ≤ y ∧ y ≤ 9223372036854775807) (hzb : -9223372036854775808 ≤ z ∧ z ≤ 9223372036854775807) :
    Calls Try.prog 12 #[.agg #[.int .i64 n, .slice A len cap], .agg #[.int .i64 x, .int .i64 y, .int .i64 z]] w fun e w' => e = .returned (.bool true) ∧ Below w.heap.size w w' := by
  have c0 := fun W => tsmall_any n A len cap W
  by_cases hs : decide (len ≤ 30) = true
  · rw [hs] at c0
    have c1 := fun W (hh : Below w.heap.size w W) => Resistance_any n A len cap l x y W (by omega) ((hx.below hh).more hh.size)
    by_cases h1 : resE n l x y = 0
    · have c2 := fun W (hh : Below w.heap.size w W) => Without_any n A len cap l z W (by omega) ((hx.below hh).more hh.size)
      rw [h1] at c1
      by_cases h2 : woE n l z = 0
      · obtain ⟨hv, hz0, hz1⟩ := wo_in h2
        obtain ⟨k, rfl⟩ : ∃ k : Nat, z = k := ⟨z.toNat, by omega⟩
        have hxl := hx.1
        have hlt : k < len := by omega
        obtain ⟨⟨l1, l2⟩, l3, ⟨l4, l5⟩, l6, l7, l8, l9⟩ := less_law h1 (i := k) (by omega)
        have hin := allW2 (res_ok h1).2.2.2.2
        have hvm := vNet_mem hv (i := k) (by omega)
        have hvs := (vNet_spec hv).1
        have hrb := res_in h1
        have c3 := fun A' cap' W hr => Resistance_any n A' (woL n l k).length cap' (woL n l k) x y W (by omega) hr
        have c4 := fun W (hh : Below w.heap.size w W) => Merged_any n A len cap l (tpA l k).1 (tpA l k).2.1 W (by omega) ((hx.below hh).more hh.size)
        have c5 := fun A' cap' W hr => Resistance_any (n - 1) A' (meL n l (tpA l k).1 (tpA l k).2.1).length cap' (meL n l (tpA l k).1 (tpA l k).2.1) (nw (tpA l k).1 (tpA l k).2.1 x) (nw (tpA l k).1 (tpA l k).2.1 y) W (by omega) hr
        have cP := fun (x : Int) W (h : -9223372036854775808 < x ∧ x ≤ 9223372036854775807) => place_any x (tpA l k).1 (tpA l k).2.1 (tpA l k).2.2 W h
        have c6 : resE n (woL n l k) x y = 0 → ∀ W, Calls Try.prog 24 #[.agg #[.int .i64 (rsN n (woL n l k) x y), .int .i64 (rsD n (woL n l k) x y)], .agg #[.int .i64 (rsN n l x y), .int .i64 (rsD n l x y)]] W fun e w' => e = .returned (.int .i64 (cmpR (rsN n (woL n l k) x y) (rsD n (woL n l k) x y) (rsN n l x y) (rsD n l x y))) ∧ Below W.heap.size W w' := fun h W => by
          have := res_in h
          exact Compare_any _ _ _ _ W (by omega) (by omega) (by omega) (by omega) (by omega) (by omega) (by omega) (by omega)
        have hub := res_in l6
        have c7 := fun W => Compare_any (rsN (n - 1) (meL n l (tpA l k).1 (tpA l k).2.1) (nw (tpA l k).1 (tpA l k).2.1 x) (nw (tpA l k).1 (tpA l k).2.1 y)) (rsD (n - 1) (meL n l (tpA l k).1 (tpA l k).2.1) (nw (tpA l k).1 (tpA l k).2.1 x) (nw (tpA l k).1 (tpA l k).2.1 y)) (rsN n l x y) (rsD n l x y) W (by omega) (by omega) (by omega) (by omega) (by omega) (by omega) (by omega) (by omega)
        rw [l1] at c2
        rw [l4, l5] at c4
        rw [l6] at c5
        generalize rsN (n - 1) (meL n l (tpA l k).1 (tpA l k).2.1) (nw (tpA l k).1 (tpA l k).2.1 x) (nw (tpA l k).1 (tpA l k).2.1 y) = u at *
        generalize rsD (n - 1) (meL n l (tpA l k).1 (tpA l k).2.1) (nw (tpA l k).1 (tpA l k).2.1 x) (nw (tpA l k).1 (tpA l k).2.1 y) = ud at *
        generalize rsN n (woL n l k) x y = s at *
        generalize rsD n (woL n l k) x y = sd at *
        generalize rsN n l x y = r at *
        generalize rsD n l x y = rd at *
        generalize cmpR s sd r rd = cc at *
        generalize cmpR u ud r rd = dd at *
        generalize resE n (woL n l k) x y = E3 at *
        generalize woL n l k = L2 at *
        generalize meL n l (tpA l k).1 (tpA l k).2.1 = L3 at *
        have hdd : decide (dd ≤ 0) = true := decide_eq_true l7
        have hz0' : decide ((k : Int) < 0) = false := decide_eq_false (by omega)
        have hz1' : decide ((len : Int) ≤ k) = false := decide_eq_false (by omega)
        have hwn : IntKind.i64.wrap (n - 1) = n - 1 := IntWalk.i64_in _ (by omega)
        have hxp : -9223372036854775808 < x ∧ x ≤ 9223372036854775807 := by omega
        have hyp : -9223372036854775808 < y ∧ y ≤ 9223372036854775807 := by omega
        have HX := Lib.hid hx
        have C0 := Lib.hid c0
        have C1 := Lib.hid c1
        have C2 := Lib.hid c2
        have C3 := Lib.hid c3
        have C4 := Lib.hid c4
        have C5 := Lib.hid c5
        have C6 := Lib.hid c6
        have C7 := Lib.hid c7
        have CP := Lib.hid cP
        have HL3 := Lib.hid l3
        clear c0 c1 c2 c3 c4 c5 c6 c7 cP hx hs h1 h2 l1 l3 l4 l5 l6 l7 hv hxl hrb hub hin
        go_enter Try.func12, Try.ntmps12
        go_wp2_with fail
        refine (C0.out _).mono ?_
        rintro e w0 ⟨rfl, hb⟩
        have hB_w0 : Below w.heap.size w w0 := (by repeat (first | exact Below.refl _ _ | assumption | refine Below.setCell ?_ (by first | (simp; done) | (simp; omega) | omega) _ | refine Below.drew ?_ | refine below_drewN ?_ _ | refine Below.alloc ?_ (by first | (simp; done) | (simp; omega) | omega) _ | refine below_alloc ?_ _ | refine below_step ?_ (by assumption))); have hz_w0 := hB_w0.size; have hsw00 : w.heap.size < w0.heap.size := Nat.lt_of_lt_of_le (by first | (simp; done) | (simp; omega) | omega) hb.size; have hnw00 : ¬ w.heap.size = w0.heap.size := (by omega); have hmw00 : ¬ w0.heap.size = w.heap.size := (by omega); have hlw00_0 : w.heap.size ≤ w0.heap.size := (by omega); have hlw00_1 : w.heap.size ≤ w0.heap.size + 1 := (by omega); have hlw00_2 : w.heap.size ≤ w0.heap.size + 1 + 1 := (by omega); have hkw00 : w0.cell? ⟨w.heap.size, 0, none⟩ = some (.int .i64 n) := (by rw [hb.cell (p := ⟨w.heap.size, 0, none⟩) (by first | (simp; done) | (simp; omega) | omega)]; first | (go_simp; done) | assumption); have hkw01 : w0.cell? ⟨w.heap.size, 1, none⟩ = some (.slice A len cap) := (by rw [hb.cell (p := ⟨w.heap.size, 1, none⟩) (by first | (simp; done) | (simp; omega) | omega)]; first | (go_simp; done) | assumption); have hsw02 : w.heap.size + 1 < w0.heap.size := Nat.lt_of_lt_of_le (by first | (simp; done) | (simp; omega) | omega) hb.size; have hnw02 : ¬ w.heap.size + 1 = w0.heap.size := (by omega); have hmw02 : ¬ w0.heap.size = w.heap.size + 1 := (by omega); have hlw02_0 : w.heap.size + 1 ≤ w0.heap.size := (by omega); have hlw02_1 : w.heap.size + 1 ≤ w0.heap.size + 1 := (by omega); have hlw02_2 : w.heap.size + 1 ≤ w0.heap.size + 1 + 1 := (by omega); have hkw02 : w0.cell? ⟨w.heap.size + 1, 0, none⟩ = some (.int .i64 x) := (by rw [hb.cell (p := ⟨w.heap.size + 1, 0, none⟩) (by first | (simp; done) | (simp; omega) | omega)]; first | (go_simp; done) | assumption); have hkw03 : w0.cell? ⟨w.heap.size + 1, 1, none⟩ = some (.int .i64 y) := (by rw [hb.cell (p := ⟨w.heap.size + 1, 1, none⟩) (by first | (simp; done) | (simp; omega) | omega)]; first | (go_simp; done) | assumption); have hkw04 : w0.cell? ⟨w.heap.size + 1, 2, none⟩ = some (.int .i64 k) := (by rw [hb.cell (p := ⟨w.heap.size + 1, 2, none⟩) (by first | (simp; done) | (simp; omega) | omega)]; first | (go_simp; done) | assumption); clear hb
        go_wp2_with fail
        refine (C1.out _ (by repeat (first | exact Below.refl _ _ | assumption | refine Below.setCell ?_ (by first | (simp; done) | (simp; omega) | omega) _ | refine Below.drew ?_ | refine below_drewN ?_ _ | refine Below.alloc ?_ (by first | (simp; done) | (simp; omega) | omega) _ | refine below_alloc ?_ _ | refine below_step ?_ (by assumption)))).mono ?_
        rintro e w1 ⟨rfl, hb⟩
        have hB_w1 : Below w.heap.size w w1 := (by repeat (first | exact Below.refl _ _ | assumption | refine Below.setCell ?_ (by first | (simp; done) | (simp; omega) | omega) _ | refine Below.drew ?_ | refine below_drewN ?_ _ | refine Below.alloc ?_ (by first | (simp; done) | (simp; omega) | omega) _ | refine below_alloc ?_ _ | refine below_step ?_ (by assumption))); have hz_w1 := hB_w1.size; have hsw10 : w.heap.size < w1.heap.size := Nat.lt_of_lt_of_le (by first | (simp; done) | (simp; omega) | omega) hb.size; have hnw10 : ¬ w.heap.size = w1.heap.size := (by omega); have hmw10 : ¬ w1.heap.size = w.heap.size := (by omega); have hlw10_0 : w.heap.size ≤ w1.heap.size := (by omega); have hlw10_1 : w.heap.size ≤ w1.heap.size + 1 := (by omega); have hlw10_2 : w.heap.size ≤ w1.heap.size + 1 + 1 := (by omega); have hkw10 : w1.cell? ⟨w.heap.size, 0, none⟩ = some (.int .i64 n) := (by rw [hb.cell (p := ⟨w.heap.size, 0, none⟩) (by first | (simp; done) | (simp; omega) | omega)]; first | (go_simp; done) | assumption); have hkw11 : w1.cell? ⟨w.heap.size, 1, none⟩ = some (.slice A len cap) := (by rw [hb.cell (p := ⟨w.heap.size, 1, none⟩) (by first | (simp; done) | (simp; omega) | omega)]; first | (go_simp; done) | assumption); have hsw12 : w.heap.size + 1 < w1.heap.size := Nat.lt_of_lt_of_le (by first | (simp; done) | (simp; omega) | omega) hb.size; have hnw12 : ¬ w.heap.size + 1 = w1.heap.size := (by omega); have hmw12 : ¬ w1.heap.size = w.heap.size + 1 := (by omega); have hlw12_0 : w.heap.size + 1 ≤ w1.heap.size := (by omega); have hlw12_1 : w.heap.size + 1 ≤ w1.heap.size + 1 := (by omega); have hlw12_2 : w.heap.size + 1 ≤ w1.heap.size + 1 + 1 := (by omega); have hkw12 : w1.cell? ⟨w.heap.size + 1, 0, none⟩ = some (.int .i64 x) := (by rw [hb.cell (p := ⟨w.heap.size + 1, 0, none⟩) (by first | (simp; done) | (simp; omega) | omega)]; first | (go_simp; done) | assumption); have hkw13 : w1.cell? ⟨w.heap.size + 1, 1, none⟩ = some (.int .i64 y) := (by rw [hb.cell (p := ⟨w.heap.size + 1, 1, none⟩) (by first | (simp; done) | (simp; omega) | omega)]; first | (go_simp; done) | assumption); have hkw14 : w1.cell? ⟨w.heap.size + 1, 2, none⟩ = some (.int .i64 k) := (by rw [hb.cell (p := ⟨w.heap.size + 1, 2, none⟩) (by first | (simp; done) | (simp; omega) | omega)]; first | (go_simp; done) | assumption); clear hb hB_w0 hlw00_0 hlw00_1 hlw00_2 hkw00 hkw01 hlw02_0 hlw02_1 hlw02_2 hkw02 hkw03 hkw04
        go_wp2_with fail
        refine (C2.out _ (by repeat (first | exact Below.refl _ _ | assumption | refine Below.setCell ?_ (by first | (simp; done) | (simp; omega) | omega) _ | refine Below.drew ?_ | refine below_drewN ?_ _ | refine Below.alloc ?_ (by first | (simp; done) | (simp; omega) | omega) _ | refine below_alloc ?_ _ | refine below_step ?_ (by assumption)))).mono ?_
        rintro e w2 ⟨⟨v2, rfl, ho2⟩, hb⟩
        obtain ⟨A2, cap2, rfl, -, -, hR2, -⟩ := own_tapes ho2
        have HR2 := Lib.hid hR2
        clear hR2 ho2
        have hB_w2 : Below w.heap.size w w2 := (by repeat (first | exact Below.refl _ _ | assumption | refine Below.setCell ?_ (by first | (simp; done) | (simp; omega) | omega) _ | refine Below.drew ?_ | refine below_drewN ?_ _ | refine Below.alloc ?_ (by first | (simp; done) | (simp; omega) | omega) _ | refine below_alloc ?_ _ | refine below_step ?_ (by assumption))); have hz_w2 := hB_w2.size; have hsw20 : w.heap.size < w2.heap.size := Nat.lt_of_lt_of_le (by first | (simp; done) | (simp; omega) | omega) hb.size; have hnw20 : ¬ w.heap.size = w2.heap.size := (by omega); have hmw20 : ¬ w2.heap.size = w.heap.size := (by omega); have hlw20_0 : w.heap.size ≤ w2.heap.size := (by omega); have hlw20_1 : w.heap.size ≤ w2.heap.size + 1 := (by omega); have hlw20_2 : w.heap.size ≤ w2.heap.size + 1 + 1 := (by omega); have hkw20 : w2.cell? ⟨w.heap.size, 0, none⟩ = some (.int .i64 n) := (by rw [hb.cell (p := ⟨w.heap.size, 0, none⟩) (by first | (simp; done) | (simp; omega) | omega)]; first | (go_simp; done) | assumption); have hkw21 : w2.cell? ⟨w.heap.size, 1, none⟩ = some (.slice A len cap) := (by rw [hb.cell (p := ⟨w.heap.size, 1, none⟩) (by first | (simp; done) | (simp; omega) | omega)]; first | (go_simp; done) | assumption); have hsw22 : w.heap.size + 1 < w2.heap.size := Nat.lt_of_lt_of_le (by first | (simp; done) | (simp; omega) | omega) hb.size; have hnw22 : ¬ w.heap.size + 1 = w2.heap.size := (by omega); have hmw22 : ¬ w2.heap.size = w.heap.size + 1 := (by omega); have hlw22_0 : w.heap.size + 1 ≤ w2.heap.size := (by omega); have hlw22_1 : w.heap.size + 1 ≤ w2.heap.size + 1 := (by omega); have hlw22_2 : w.heap.size + 1 ≤ w2.heap.size + 1 + 1 := (by omega); have hkw22 : w2.cell? ⟨w.heap.size + 1, 0, none⟩ = some (.int .i64 x) := (by rw [hb.cell (p := ⟨w.heap.size + 1, 0, none⟩) (by first | (simp; done) | (simp; omega) | omega)]; first | (go_simp; done) | assumption); have hkw23 : w2.cell? ⟨w.heap.size + 1, 1, none⟩ = some (.int .i64 y) := (by rw [hb.cell (p := ⟨w.heap.size + 1, 1, none⟩) (by first | (simp; done) | (simp; omega) | omega)]; first | (go_simp; done) | assumption); have hkw24 : w2.cell? ⟨w.heap.size + 1, 2, none⟩ = some (.int .i64 k) := (by rw [hb.cell (p := ⟨w.heap.size + 1, 2, none⟩) (by first | (simp; done) | (simp; omega) | omega)]; first | (go_simp; done) | assumption); have hsw25 : w1.heap.size < w2.heap.size := Nat.lt_of_lt_of_le (by first | (simp; done) | (simp; omega) | omega) hb.size; have hnw25 : ¬ w1.heap.size = w2.heap.size := (by omega); have hmw25 : ¬ w2.heap.size = w1.heap.size := (by omega); have hlw25_0 : w1.heap.size ≤ w2.heap.size := (by omega); have hlw25_1 : w1.heap.size ≤ w2.heap.size + 1 := (by omega); have hlw25_2 : w1.heap.size ≤ w2.heap.size + 1 + 1 := (by omega); have hkw25 : w2.cell? ⟨w1.heap.size, 0, none⟩ = some (.int .i64 r) := (by rw [hb.cell (p := ⟨w1.heap.size, 0, none⟩) (by first | (simp; done) | (simp; omega) | omega)]; first | (go_simp; done) | assumption); have hkw26 : w2.cell? ⟨w1.heap.size, 1, none⟩ = some (.int .i64 rd) := (by rw [hb.cell (p := ⟨w1.heap.size, 1, none⟩) (by first | (simp; done) | (simp; omega) | omega)]; first | (go_simp; done) | assumption); clear hb hB_w1 hlw10_0 hlw10_1 hlw10_2 hkw10 hkw11 hlw12_0 hlw12_1 hlw12_2 hkw12 hkw13 hkw14
        go_wp2_with fail
        refine (C3.out _ _ _ HR2.out).mono ?_
        rintro e w3 ⟨rfl, hb⟩
        have hB_w3 : Below w.heap.size w w3 := (by repeat (first | exact Below.refl _ _ | assumption | refine Below.setCell ?_ (by first | (simp; done) | (simp; omega) | omega) _ | refine Below.drew ?_ | refine below_drewN ?_ _ | refine Below.alloc ?_ (by first | (simp; done) | (simp; omega) | omega) _ | refine below_alloc ?_ _ | refine below_step ?_ (by assumption))); have hz_w3 := hB_w3.size; have hsw30 : w.heap.size < w3.heap.size := Nat.lt_of_lt_of_le (by first | (simp; done) | (simp; omega) | omega) hb.size; have hnw30 : ¬ w.heap.size = w3.heap.size := (by omega); have hmw30 : ¬ w3.heap.size = w.heap.size := (by omega); have hlw30_0 : w.heap.size ≤ w3.heap.size := (by omega); have hlw30_1 : w.heap.size ≤ w3.heap.size + 1 := (by omega); have hlw30_2 : w.heap.size ≤ w3.heap.size + 1 + 1 := (by omega); have hkw30 : w3.cell? ⟨w.heap.size, 0, none⟩ = some (.int .i64 n) := (by rw [hb.cell (p := ⟨w.heap.size, 0, none⟩) (by first | (simp; done) | (simp; omega) | omega)]; first | (go_simp; done) | assumption); have hkw31 : w3.cell? ⟨w.heap.size, 1, none⟩ = some (.slice A len cap) := (by rw [hb.cell (p := ⟨w.heap.size, 1, none⟩) (by first | (simp; done) | (simp; omega) | omega)]; first | (go_simp; done) | assumption); have hsw32 : w.heap.size + 1 < w3.heap.size := Nat.lt_of_lt_of_le (by first | (simp; done) | (simp; omega) | omega) hb.size; have hnw32 : ¬ w.heap.size + 1 = w3.heap.size := (by omega); have hmw32 : ¬ w3.heap.size = w.heap.size + 1 := (by omega); have hlw32_0 : w.heap.size + 1 ≤ w3.heap.size := (by omega); have hlw32_1 : w.heap.size + 1 ≤ w3.heap.size + 1 := (by omega); have hlw32_2 : w.heap.size + 1 ≤ w3.heap.size + 1 + 1 := (by omega); have hkw32 : w3.cell? ⟨w.heap.size + 1, 0, none⟩ = some (.int .i64 x) := (by rw [hb.cell (p := ⟨w.heap.size + 1, 0, none⟩) (by first | (simp; done) | (simp; omega) | omega)]; first | (go_simp; done) | assumption); have hkw33 : w3.cell? ⟨w.heap.size + 1, 1, none⟩ = some (.int .i64 y) := (by rw [hb.cell (p := ⟨w.heap.size + 1, 1, none⟩) (by first | (simp; done) | (simp; omega) | omega)]; first | (go_simp; done) | assumption); have hkw34 : w3.cell? ⟨w.heap.size + 1, 2, none⟩ = some (.int .i64 k) := (by rw [hb.cell (p := ⟨w.heap.size + 1, 2, none⟩) (by first | (simp; done) | (simp; omega) | omega)]; first | (go_simp; done) | assumption); have hsw35 : w1.heap.size < w3.heap.size := Nat.lt_of_lt_of_le (by first | (simp; done) | (simp; omega) | omega) hb.size; have hnw35 : ¬ w1.heap.size = w3.heap.size := (by omega); have hmw35 : ¬ w3.heap.size = w1.heap.size := (by omega); have hlw35_0 : w1.heap.size ≤ w3.heap.size := (by omega); have hlw35_1 : w1.heap.size ≤ w3.heap.size + 1 := (by omega); have hlw35_2 : w1.heap.size ≤ w3.heap.size + 1 + 1 := (by omega); have hkw35 : w3.cell? ⟨w1.heap.size, 0, none⟩ = some (.int .i64 r) := (by rw [hb.cell (p := ⟨w1.heap.size, 0, none⟩) (by first | (simp; done) | (simp; omega) | omega)]; first | (go_simp; done) | assumption); have hkw36 : w3.cell? ⟨w1.heap.size, 1, none⟩ = some (.int .i64 rd) := (by rw [hb.cell (p := ⟨w1.heap.size, 1, none⟩) (by first | (simp; done) | (simp; omega) | omega)]; first | (go_simp; done) | assumption); clear hb hB_w2 hlw20_0 hlw20_1 hlw20_2 hkw20 hkw21 hlw22_0 hlw22_1 hlw22_2 hkw22 hkw23 hkw24 hlw25_0 hlw25_1 hlw25_2 hkw25 hkw26
        go_upto_region 10 with fail
        go_cut [75] (fun s75 wq => s75 = .bool false ∧ Below (w3.alloc (.cells #[.int .i64 s, .int .i64 sd] 29)).heap.size (w3.alloc (.cells #[.int .i64 s, .int .i64 sd] 29)) wq)
        case first =>
          rcases l2 with l2 | l2
          · have hcc : decide (cc < 0) = false := decide_eq_false (by have := HL3.out l2; omega)
            subst l2
            go_wp2_with fail
            refine (C6.out (by trivial) _).mono ?_
            rintro e w4 ⟨rfl, hb⟩
            go_wp2_with fail
            go_meet
            case rel => exact ⟨rfl, hb⟩
          · subst l2
            go_wp2_with fail
            go_meet
            case rel => exact ⟨rfl, Below.refl _ _⟩
        case rest =>
        obtain ⟨rfl, hb⟩ := hcut
        obtain ⟨wq, hwq⟩ : ∃ q, q = wc := ⟨_, rfl⟩
        subst hwq
        have hB_wq : Below w.heap.size w wq := (by repeat (first | exact Below.refl _ _ | assumption | refine Below.setCell ?_ (by first | (simp; done) | (simp; omega) | omega) _ | refine Below.drew ?_ | refine below_drewN ?_ _ | refine Below.alloc ?_ (by first | (simp; done) | (simp; omega) | omega) _ | refine below_alloc ?_ _ | refine below_step ?_ (by assumption))); have hz_wq := hB_wq.size; have hswq0 : w.heap.size < wq.heap.size := Nat.lt_of_lt_of_le (by first | (simp; done) | (simp; omega) | omega) hb.size; have hnwq0 : ¬ w.heap.size = wq.heap.size := (by omega); have hmwq0 : ¬ wq.heap.size = w.heap.size := (by omega); have hlwq0_0 : w.heap.size ≤ wq.heap.size := (by omega); have hlwq0_1 : w.heap.size ≤ wq.heap.size + 1 := (by omega); have hlwq0_2 : w.heap.size ≤ wq.heap.size + 1 + 1 := (by omega); have hkwq0 : wq.cell? ⟨w.heap.size, 0, none⟩ = some (.int .i64 n) := (by rw [hb.cell (p := ⟨w.heap.size, 0, none⟩) (by first | (simp; done) | (simp; omega) | omega)]; first | (go_simp; done) | assumption); have hkwq1 : wq.cell? ⟨w.heap.size, 1, none⟩ = some (.slice A len cap) := (by rw [hb.cell (p := ⟨w.heap.size, 1, none⟩) (by first | (simp; done) | (simp; omega) | omega)]; first | (go_simp; done) | assumption); have hswq2 : w.heap.size + 1 < wq.heap.size := Nat.lt_of_lt_of_le (by first | (simp; done) | (simp; omega) | omega) hb.size; have hnwq2 : ¬ w.heap.size + 1 = wq.heap.size := (by omega); have hmwq2 : ¬ wq.heap.size = w.heap.size + 1 := (by omega); have hlwq2_0 : w.heap.size + 1 ≤ wq.heap.size := (by omega); have hlwq2_1 : w.heap.size + 1 ≤ wq.heap.size + 1 := (by omega); have hlwq2_2 : w.heap.size + 1 ≤ wq.heap.size + 1 + 1 := (by omega); have hkwq2 : wq.cell? ⟨w.heap.size + 1, 0, none⟩ = some (.int .i64 x) := (by rw [hb.cell (p := ⟨w.heap.size + 1, 0, none⟩) (by first | (simp; done) | (simp; omega) | omega)]; first | (go_simp; done) | assumption); have hkwq3 : wq.cell? ⟨w.heap.size + 1, 1, none⟩ = some (.int .i64 y) := (by rw [hb.cell (p := ⟨w.heap.size + 1, 1, none⟩) (by first | (simp; done) | (simp; omega) | omega)]; first | (go_simp; done) | assumption); have hkwq4 : wq.cell? ⟨w.heap.size + 1, 2, none⟩ = some (.int .i64 k) := (by rw [hb.cell (p := ⟨w.heap.size + 1, 2, none⟩) (by first | (simp; done) | (simp; omega) | omega)]; first | (go_simp; done) | assumption); have hswq5 : w1.heap.size < wq.heap.size := Nat.lt_of_lt_of_le (by first | (simp; done) | (simp; omega) | omega) hb.size; have hnwq5 : ¬ w1.heap.size = wq.heap.size := (by omega); have hmwq5 : ¬ wq.heap.size = w1.heap.size := (by omega); have hlwq5_0 : w1.heap.size ≤ wq.heap.size := (by omega); have hlwq5_1 : w1.heap.size ≤ wq.heap.size + 1 := (by omega); have hlwq5_2 : w1.heap.size ≤ wq.heap.size + 1 + 1 := (by omega); have hkwq5 : wq.cell? ⟨w1.heap.size, 0, none⟩ = some (.int .i64 r) := (by rw [hb.cell (p := ⟨w1.heap.size, 0, none⟩) (by first | (simp; done) | (simp; omega) | omega)]; first | (go_simp; done) | assumption); have hkwq6 : wq.cell? ⟨w1.heap.size, 1, none⟩ = some (.int .i64 rd) := (by rw [hb.cell (p := ⟨w1.heap.size, 1, none⟩) (by first | (simp; done) | (simp; omega) | omega)]; first | (go_simp; done) | assumption); clear hb hB_w3 hlw30_0 hlw30_1 hlw30_2 hkw30 hkw31 hlw32_0 hlw32_1 hlw32_2 hkw32 hkw33 hkw34 hlw35_0 hlw35_1 hlw35_2 hkw35 hkw36
        obtain ⟨b0, off, rfl, hb0, hc1, hc2, hc3⟩ := rows_tp (HX.out.below hB_wq) k hlt
        generalize tpA l k = T at *
        go_wp2_with fail
        refine (C4.out _ (by repeat (first | exact Below.refl _ _ | assumption | refine Below.setCell ?_ (by first | (simp; done) | (simp; omega) | omega) _ | refine Below.drew ?_ | refine below_drewN ?_ _ | refine Below.alloc ?_ (by first | (simp; done) | (simp; omega) | omega) _ | refine below_alloc ?_ _ | refine below_step ?_ (by assumption)))).mono ?_
        rintro e w6 ⟨⟨v6, rfl, ho6⟩, hb⟩
        obtain ⟨A3, cap3, rfl, -, -, hR3, -⟩ := own_tapes ho6
        have HR3 := Lib.hid hR3
        clear hR3 ho6
        have hB_w6 : Below w.heap.size w w6 := (by repeat (first | exact Below.refl _ _ | assumption | refine Below.setCell ?_ (by first | (simp; done) | (simp; omega) | omega) _ | refine Below.drew ?_ | refine below_drewN ?_ _ | refine Below.alloc ?_ (by first | (simp; done) | (simp; omega) | omega) _ | refine below_alloc ?_ _ | refine below_step ?_ (by assumption))); have hz_w6 := hB_w6.size; have hsw60 : w.heap.size < w6.heap.size := Nat.lt_of_lt_of_le (by first | (simp; done) | (simp; omega) | omega) hb.size; have hnw60 : ¬ w.heap.size = w6.heap.size := (by omega); have hmw60 : ¬ w6.heap.size = w.heap.size := (by omega); have hlw60_0 : w.heap.size ≤ w6.heap.size := (by omega); have hlw60_1 : w.heap.size ≤ w6.heap.size + 1 := (by omega); have hlw60_2 : w.heap.size ≤ w6.heap.size + 1 + 1 := (by omega); have hkw60 : w6.cell? ⟨w.heap.size, 0, none⟩ = some (.int .i64 n) := (by rw [hb.cell (p := ⟨w.heap.size, 0, none⟩) (by first | (simp; done) | (simp; omega) | omega)]; first | (go_simp; done) | assumption); have hkw61 : w6.cell? ⟨w.heap.size, 1, none⟩ = some (.slice (some ⟨b0, off, none⟩) len cap) := (by rw [hb.cell (p := ⟨w.heap.size, 1, none⟩) (by first | (simp; done) | (simp; omega) | omega)]; first | (go_simp; done) | assumption); have hsw62 : w.heap.size + 1 < w6.heap.size := Nat.lt_of_lt_of_le (by first | (simp; done) | (simp; omega) | omega) hb.size; have hnw62 : ¬ w.heap.size + 1 = w6.heap.size := (by omega); have hmw62 : ¬ w6.heap.size = w.heap.size + 1 := (by omega); have hlw62_0 : w.heap.size + 1 ≤ w6.heap.size := (by omega); have hlw62_1 : w.heap.size + 1 ≤ w6.heap.size + 1 := (by omega); have hlw62_2 : w.heap.size + 1 ≤ w6.heap.size + 1 + 1 := (by omega); have hkw62 : w6.cell? ⟨w.heap.size + 1, 0, none⟩ = some (.int .i64 x) := (by rw [hb.cell (p := ⟨w.heap.size + 1, 0, none⟩) (by first | (simp; done) | (simp; omega) | omega)]; first | (go_simp; done) | assumption); have hkw63 : w6.cell? ⟨w.heap.size + 1, 1, none⟩ = some (.int .i64 y) := (by rw [hb.cell (p := ⟨w.heap.size + 1, 1, none⟩) (by first | (simp; done) | (simp; omega) | omega)]; first | (go_simp; done) | assumption); have hkw64 : w6.cell? ⟨w.heap.size + 1, 2, none⟩ = some (.int .i64 k) := (by rw [hb.cell (p := ⟨w.heap.size + 1, 2, none⟩) (by first | (simp; done) | (simp; omega) | omega)]; first | (go_simp; done) | assumption); have hsw65 : w1.heap.size < w6.heap.size := Nat.lt_of_lt_of_le (by first | (simp; done) | (simp; omega) | omega) hb.size; have hnw65 : ¬ w1.heap.size = w6.heap.size := (by omega); have hmw65 : ¬ w6.heap.size = w1.heap.size := (by omega); have hlw65_0 : w1.heap.size ≤ w6.heap.size := (by omega); have hlw65_1 : w1.heap.size ≤ w6.heap.size + 1 := (by omega); have hlw65_2 : w1.heap.size ≤ w6.heap.size + 1 + 1 := (by omega); have hkw65 : w6.cell? ⟨w1.heap.size, 0, none⟩ = some (.int .i64 r) := (by rw [hb.cell (p := ⟨w1.heap.size, 0, none⟩) (by first | (simp; done) | (simp; omega) | omega)]; first | (go_simp; done) | assumption); have hkw66 : w6.cell? ⟨w1.heap.size, 1, none⟩ = some (.int .i64 rd) := (by rw [hb.cell (p := ⟨w1.heap.size, 1, none⟩) (by first | (simp; done) | (simp; omega) | omega)]; first | (go_simp; done) | assumption); have hsw67 : wq.heap.size < w6.heap.size := Nat.lt_of_lt_of_le (by first | (simp; done) | (simp; omega) | omega) hb.size; have hnw67 : ¬ wq.heap.size = w6.heap.size := (by omega); have hmw67 : ¬ w6.heap.size = wq.heap.size := (by omega); have hlw67_0 : wq.heap.size ≤ w6.heap.size := (by omega); have hlw67_1 : wq.heap.size ≤ w6.heap.size + 1 := (by omega); have hlw67_2 : wq.heap.size ≤ w6.heap.size + 1 + 1 := (by omega); have hkw67 : w6.cell? ⟨wq.heap.size, 0, none⟩ = some (.int .i64 T.1) := (by rw [hb.cell (p := ⟨wq.heap.size, 0, none⟩) (by first | (simp; done) | (simp; omega) | omega)]; first | (go_simp; done) | assumption); have hkw68 : w6.cell? ⟨wq.heap.size, 1, none⟩ = some (.int .i64 T.2.1) := (by rw [hb.cell (p := ⟨wq.heap.size, 1, none⟩) (by first | (simp; done) | (simp; omega) | omega)]; first | (go_simp; done) | assumption); have hkw69 : w6.cell? ⟨wq.heap.size, 2, none⟩ = some (.int .i64 T.2.2) := (by rw [hb.cell (p := ⟨wq.heap.size, 2, none⟩) (by first | (simp; done) | (simp; omega) | omega)]; first | (go_simp; done) | assumption); clear hb hB_wq hlwq0_0 hlwq0_1 hlwq0_2 hkwq0 hkwq1 hlwq2_0 hlwq2_1 hlwq2_2 hkwq2 hkwq3 hkwq4 hlwq5_0 hlwq5_1 hlwq5_2 hkwq5 hkwq6
        go_upto_region 18 with fail
        go_cut [15, 16] (fun s t wc => ∃ ub, isPt s ub ∧ t = .int .i64 0 ∧ UJ w6 u ud ub wc)
        case first =>
          refine wp_region_mix (by kernel_rfl) (by kernel_rfl) ?_
          refine wpC_take (f := 9) (by kernel_rfl) (by kernel_rfl) ⟨⟨_, (Below.refl _ _).drew⟩, rfl⟩ [0, 1, 2, 3, 4, 6, 7, 8] _ _ (by kernel_rfl) ?_
          simp only [List.map_cons, List.map_nil, List.getElem?_toArray, List.getElem?_cons_succ, List.getElem?_cons_zero, Option.getD_some]
          repeat (go_big_quiet_step (fail))
          refine wpQuiet_nil ?_
          have hB : Below w6.heap.size w6 w6.drew := (Below.refl _ _).drew
          refine wpC_all (rs := [5, 14]) (by kernel_rfl) (by decide) ?_
          intro i hi
          simp only [List.mem_cons, List.not_mem_nil, or_false] at hi
          rcases hi with rfl | rfl
          · refine ⟨_, rfl, ?_⟩
            go_simp
            refine (CP.out _ _ (by assumption)).mono ?_
            rintro e WW0 ⟨rfl, hb⟩
            replace hB := below_step hB hb
            refine ⟨⟨⟨_, hB⟩, rfl⟩, ?_⟩
            go_simp
            clear hb
            refine wpC_all (rs := [9, 14]) (by kernel_rfl) (by decide) ?_
            intro i hi
            simp only [List.mem_cons, List.not_mem_nil, or_false] at hi
            rcases hi with rfl | rfl
            · refine ⟨_, rfl, ?_⟩
              go_simp
              refine (CP.out _ _ (by assumption)).mono ?_
              rintro e WW1 ⟨rfl, hb⟩
              replace hB := below_step hB hb
              refine ⟨⟨⟨_, hB⟩, rfl⟩, ?_⟩
              go_simp
              clear hb
              refine wpC_all (rs := [10, 14]) (by kernel_rfl) (by decide) ?_
              intro i hi
              simp only [List.mem_cons, List.not_mem_nil, or_false] at hi
              rcases hi with rfl | rfl
              · refine ⟨_, rfl, ?_⟩
                go_simp
                refine (C5.out _ _ _ ((HR3.out.below hB).more hB.size)).mono ?_
                rintro e WW2 ⟨rfl, hb⟩
                replace hB := below_step hB hb
                refine ⟨⟨⟨_, hB⟩, rfl⟩, ?_⟩
                go_simp
                clear hb
                refine wpC_take (f := 3) (by kernel_rfl) (by kernel_rfl) ⟨⟨_, hB⟩, rfl⟩ [11, 12, 13] _ _ (by kernel_rfl) ?_
                simp only [List.map_cons, List.map_nil, List.getElem?_toArray, List.getElem?_cons_succ, List.getElem?_cons_zero, Option.getD_some]
                repeat (go_big_quiet_step (fail))
                refine wpQuiet_nil ?_
                refine wpC_all (rs := [14]) (by kernel_rfl) (by decide) ?_
                intro i hi
                simp only [List.mem_cons, List.not_mem_nil, or_false] at hi
                subst hi
                refine ⟨_, rfl, ?_⟩
                go_simp
                obtain ⟨WW3, hWn⟩ : ∃ q, q = WW2.alloc (.cells #[.int .i64 0, .int .i64 0] 29) := ⟨_, rfl⟩
                have hu : Blk WW3 WW2.heap.size #[.int .i64 0, .int .i64 0] 29 := by rw [hWn]; exact Blk.new _ _ _
                have h0u : w6.heap.size ≤ WW2.heap.size := hB.size
                replace hB : Below w6.heap.size w6 WW3 := by rw [hWn]; exact hB.alloc hB.size _

                rw [← hWn]
                clear hWn
                refine ⟨⟨⟨_, hB⟩, rfl⟩, ?_⟩
                refine wpC_all (rs := [15]) (by kernel_rfl) (by decide) ?_
                intro i hi
                simp only [List.mem_cons, List.not_mem_nil, or_false] at hi
                subst hi
                refine ⟨_, rfl, ?_⟩
                obtain ⟨hq1, hq2⟩ := hu.cell 0
                obtain ⟨hq3, hq4⟩ := hu.cell 1
                simp at hq1 hq3
                have hJ := UJ.store (X := u) (Y := ud) hB h0u hu
                go_simp
                refine ⟨⟨⟨_, hJ.1⟩, rfl⟩, ?_⟩
                replace hB := hJ.1
                refine wpC_take (f := 0) (by kernel_rfl) (by kernel_rfl) ⟨⟨_, hB⟩, rfl⟩ [16] _ _ (by kernel_rfl) ?_
                simp only [List.map_cons, List.map_nil, List.getElem?_toArray, List.getElem?_cons_succ, List.getElem?_cons_zero, Option.getD_some]
                repeat (go_big_quiet_step (fail))
                refine wpQuiet_nil ?_
                refine wpC_done (by kernel_rfl) ?_
                go_wp2_with fail
                go_meet
                case rel => exact ⟨_, rfl, rfl, hJ⟩
              · refine ⟨_, rfl, ?_⟩
                go_simp
                obtain ⟨WW2, hWn⟩ : ∃ q, q = WW1.alloc (.cells #[.int .i64 0, .int .i64 0] 29) := ⟨_, rfl⟩
                have hu : Blk WW2 WW1.heap.size #[.int .i64 0, .int .i64 0] 29 := by rw [hWn]; exact Blk.new _ _ _
                have h0u : w6.heap.size ≤ WW1.heap.size := hB.size
                replace hB : Below w6.heap.size w6 WW2 := by rw [hWn]; exact hB.alloc hB.size _

                rw [← hWn]
                clear hWn
                refine ⟨⟨⟨_, hB⟩, rfl⟩, ?_⟩
                refine wpC_all (rs := [10]) (by kernel_rfl) (by decide) ?_
                intro i hi
                simp only [List.mem_cons, List.not_mem_nil, or_false] at hi
                subst hi
                refine ⟨_, rfl, ?_⟩
                go_simp
                refine (C5.out _ _ _ ((HR3.out.below hB).more hB.size)).mono ?_
                rintro e WW3 ⟨rfl, hb⟩
                replace hB := below_step hB hb
                replace hu := hu.later hb
                refine ⟨⟨⟨_, hB⟩, rfl⟩, ?_⟩
                go_simp
                clear hb
                refine wpC_take (f := 2) (by kernel_rfl) (by kernel_rfl) ⟨⟨_, hB⟩, rfl⟩ [11, 12, 13] _ _ (by kernel_rfl) ?_
                simp only [List.map_cons, List.map_nil, List.getElem?_toArray, List.getElem?_cons_succ, List.getElem?_cons_zero, Option.getD_some]
                repeat (go_big_quiet_step (fail))
                refine wpQuiet_nil ?_
                refine wpC_all (rs := [15]) (by kernel_rfl) (by decide) ?_
                intro i hi
                simp only [List.mem_cons, List.not_mem_nil, or_false] at hi
                subst hi
                refine ⟨_, rfl, ?_⟩
                obtain ⟨hq1, hq2⟩ := hu.cell 0
                obtain ⟨hq3, hq4⟩ := hu.cell 1
                simp at hq1 hq3
                have hJ := UJ.store (X := u) (Y := ud) hB h0u hu
                go_simp
                refine ⟨⟨⟨_, hJ.1⟩, rfl⟩, ?_⟩
                replace hB := hJ.1
                refine wpC_take (f := 0) (by kernel_rfl) (by kernel_rfl) ⟨⟨_, hB⟩, rfl⟩ [16] _ _ (by kernel_rfl) ?_
                simp only [List.map_cons, List.map_nil, List.getElem?_toArray, List.getElem?_cons_succ, List.getElem?_cons_zero, Option.getD_some]
                repeat (go_big_quiet_step (fail))
                refine wpQuiet_nil ?_
                refine wpC_done (by kernel_rfl) ?_
                go_wp2_with fail
                go_meet
                case rel => exact ⟨_, rfl, rfl, hJ⟩
            · refine ⟨_, rfl, ?_⟩
              go_simp
              obtain ⟨WW1, hWn⟩ : ∃ q, q = WW0.alloc (.cells #[.int .i64 0, .int .i64 0] 29) := ⟨_, rfl⟩
              have hu : Blk WW1 WW0.heap.size #[.int .i64 0, .int .i64 0] 29 := by rw [hWn]; exact Blk.new _ _ _
              have h0u : w6.heap.size ≤ WW0.heap.size := hB.size
              replace hB : Below w6.heap.size w6 WW1 := by rw [hWn]; exact hB.alloc hB.size _

              rw [← hWn]
              clear hWn
              refine ⟨⟨⟨_, hB⟩, rfl⟩, ?_⟩
              refine wpC_all (rs := [9]) (by kernel_rfl) (by decide) ?_
              intro i hi
              simp only [List.mem_cons, List.not_mem_nil, or_false] at hi
              subst hi
              refine ⟨_, rfl, ?_⟩
              go_simp
              refine (CP.out _ _ (by assumption)).mono ?_
              rintro e WW2 ⟨rfl, hb⟩
              replace hB := below_step hB hb
              replace hu := hu.later hb
              refine ⟨⟨⟨_, hB⟩, rfl⟩, ?_⟩
              go_simp
              clear hb
              refine wpC_all (rs := [10]) (by kernel_rfl) (by decide) ?_
              intro i hi
              simp only [List.mem_cons, List.not_mem_nil, or_false] at hi
              subst hi
              refine ⟨_, rfl, ?_⟩
              go_simp
              refine (C5.out _ _ _ ((HR3.out.below hB).more hB.size)).mono ?_
              rintro e WW3 ⟨rfl, hb⟩
              replace hB := below_step hB hb
              replace hu := hu.later hb
              refine ⟨⟨⟨_, hB⟩, rfl⟩, ?_⟩
              go_simp
              clear hb
              refine wpC_take (f := 2) (by kernel_rfl) (by kernel_rfl) ⟨⟨_, hB⟩, rfl⟩ [11, 12, 13] _ _ (by kernel_rfl) ?_
              simp only [List.map_cons, List.map_nil, List.getElem?_toArray, List.getElem?_cons_succ, List.getElem?_cons_zero, Option.getD_some]
              repeat (go_big_quiet_step (fail))
              refine wpQuiet_nil ?_
              refine wpC_all (rs := [15]) (by kernel_rfl) (by decide) ?_
              intro i hi
              simp only [List.mem_cons, List.not_mem_nil, or_false] at hi
              subst hi
              refine ⟨_, rfl, ?_⟩
              obtain ⟨hq1, hq2⟩ := hu.cell 0
              obtain ⟨hq3, hq4⟩ := hu.cell 1
              simp at hq1 hq3
              have hJ := UJ.store (X := u) (Y := ud) hB h0u hu
              go_simp
              refine ⟨⟨⟨_, hJ.1⟩, rfl⟩, ?_⟩
              replace hB := hJ.1
              refine wpC_take (f := 0) (by kernel_rfl) (by kernel_rfl) ⟨⟨_, hB⟩, rfl⟩ [16] _ _ (by kernel_rfl) ?_
              simp only [List.map_cons, List.map_nil, List.getElem?_toArray, List.getElem?_cons_succ, List.getElem?_cons_zero, Option.getD_some]
              repeat (go_big_quiet_step (fail))
              refine wpQuiet_nil ?_
              refine wpC_done (by kernel_rfl) ?_
              go_wp2_with fail
              go_meet
              case rel => exact ⟨_, rfl, rfl, hJ⟩
          · refine ⟨_, rfl, ?_⟩
            go_simp
            have hu : Blk (w6.alloc (.cells #[.int .i64 0, .int .i64 0] 29)).drew w6.heap.size #[.int .i64 0, .int .i64 0] 29 := (Blk.new w6 #[.int .i64 0, .int .i64 0] 29).later (Below.refl _ _).drew
            have h0u : w6.heap.size ≤ w6.heap.size := Nat.le_refl _
            have hB : Below w6.heap.size w6 (w6.alloc (.cells #[.int .i64 0, .int .i64 0] 29)).drew := ((Below.refl _ w6).alloc (Nat.le_refl _) _).drew
            generalize (w6.alloc (.cells #[.int .i64 0, .int .i64 0] 29)).drew = WW0 at *
            refine ⟨⟨⟨_, hB⟩, rfl⟩, ?_⟩
            refine wpC_all (rs := [5]) (by kernel_rfl) (by decide) ?_
            intro i hi
            simp only [List.mem_cons, List.not_mem_nil, or_false] at hi
            subst hi
            refine ⟨_, rfl, ?_⟩
            go_simp
            refine (CP.out _ _ (by assumption)).mono ?_
            rintro e WW1 ⟨rfl, hb⟩
            replace hB := below_step hB hb
            replace hu := hu.later hb
            refine ⟨⟨⟨_, hB⟩, rfl⟩, ?_⟩
            go_simp
            clear hb
            refine wpC_all (rs := [9]) (by kernel_rfl) (by decide) ?_
            intro i hi
            simp only [List.mem_cons, List.not_mem_nil, or_false] at hi
            subst hi
            refine ⟨_, rfl, ?_⟩
            go_simp
            refine (CP.out _ _ (by assumption)).mono ?_
            rintro e WW2 ⟨rfl, hb⟩
            replace hB := below_step hB hb
            replace hu := hu.later hb
            refine ⟨⟨⟨_, hB⟩, rfl⟩, ?_⟩
            go_simp
            clear hb
            refine wpC_all (rs := [10]) (by kernel_rfl) (by decide) ?_
            intro i hi
            simp only [List.mem_cons, List.not_mem_nil, or_false] at hi
            subst hi
            refine ⟨_, rfl, ?_⟩
            go_simp
            refine (C5.out _ _ _ ((HR3.out.below hB).more hB.size)).mono ?_
            rintro e WW3 ⟨rfl, hb⟩
            replace hB := below_step hB hb
            replace hu := hu.later hb
            refine ⟨⟨⟨_, hB⟩, rfl⟩, ?_⟩
            go_simp
            clear hb
            refine wpC_take (f := 2) (by kernel_rfl) (by kernel_rfl) ⟨⟨_, hB⟩, rfl⟩ [11, 12, 13] _ _ (by kernel_rfl) ?_
            simp only [List.map_cons, List.map_nil, List.getElem?_toArray, List.getElem?_cons_succ, List.getElem?_cons_zero, Option.getD_some]
            repeat (go_big_quiet_step (fail))
            refine wpQuiet_nil ?_
            refine wpC_all (rs := [15]) (by kernel_rfl) (by decide) ?_
            intro i hi
            simp only [List.mem_cons, List.not_mem_nil, or_false] at hi
            subst hi
            refine ⟨_, rfl, ?_⟩
            obtain ⟨hq1, hq2⟩ := hu.cell 0
            obtain ⟨hq3, hq4⟩ := hu.cell 1
            simp at hq1 hq3
            have hJ := UJ.store (X := u) (Y := ud) hB h0u hu
            go_simp
            refine ⟨⟨⟨_, hJ.1⟩, rfl⟩, ?_⟩
            replace hB := hJ.1
            refine wpC_take (f := 0) (by kernel_rfl) (by kernel_rfl) ⟨⟨_, hB⟩, rfl⟩ [16] _ _ (by kernel_rfl) ?_
            simp only [List.map_cons, List.map_nil, List.getElem?_toArray, List.getElem?_cons_succ, List.getElem?_cons_zero, Option.getD_some]
            repeat (go_big_quiet_step (fail))
            refine wpQuiet_nil ?_
            refine wpC_done (by kernel_rfl) ?_
            go_wp2_with fail
            go_meet
            case rel => exact ⟨_, rfl, rfl, hJ⟩
        case rest =>
          obtain ⟨ub, hp, rfl, hbu, hu1, hu2, hu3, hu4⟩ := hcut
          unfold isPt at hp
          subst hp
          have hBc := hB_w6.trans (hbu.mono hz_w6)
          have hr0 : wc.cell? ⟨w1.heap.size, 0, none⟩ = some (.int .i64 r) := (hbu.cell (p := ⟨w1.heap.size, 0, none⟩) (by show w1.heap.size < _; omega)).trans (by assumption)
          have hr1 : wc.cell? ⟨w1.heap.size, 1, none⟩ = some (.int .i64 rd) := (hbu.cell (p := ⟨w1.heap.size, 1, none⟩) (by show w1.heap.size < _; omega)).trans (by assumption)
          clear hbu
          go_wp2_with fail
          refine (C7.out _).mono ?_
          rintro e w7 ⟨rfl, hb7⟩
          have hB7 := below_step hBc hb7
          go_wp2_with (go_at_call 23; refine (tawake_any _).mono ?_; rintro e w8 ⟨rfl, hb1⟩)
          go_ret
          exact ⟨rfl, below_step hB7 hb1⟩
      · have h2' : (woE n l z == 0) = false := by simpa using h2
        generalize woE n l z = E2 at *
        generalize woL n l z = L2 at *
        generalize rsN n l x y = r at *
        generalize rsD n l x y = rd at *
        have C0 := Lib.hid c0
        have C1 := Lib.hid c1
        have C2 := Lib.hid c2
        clear c0 c1 c2 hx hs h1 h2
        go_enter Try.func12, Try.ntmps12
        go_wp2_with fail
        refine (C0.out _).mono ?_
        rintro e w0 ⟨rfl, hb⟩
        have hB_w0 : Below w.heap.size w w0 := (by repeat (first | exact Below.refl _ _ | assumption | refine Below.setCell ?_ (by first | (simp; done) | (simp; omega) | omega) _ | refine Below.drew ?_ | refine below_drewN ?_ _ | refine Below.alloc ?_ (by first | (simp; done) | (simp; omega) | omega) _ | refine below_alloc ?_ _ | refine below_step ?_ (by assumption))); have hz_w0 := hB_w0.size; have hsw00 : w.heap.size < w0.heap.size := Nat.lt_of_lt_of_le (by first | (simp; done) | (simp; omega) | omega) hb.size; have hnw00 : ¬ w.heap.size = w0.heap.size := (by omega); have hmw00 : ¬ w0.heap.size = w.heap.size := (by omega); have hlw00_0 : w.heap.size ≤ w0.heap.size := (by omega); have hlw00_1 : w.heap.size ≤ w0.heap.size + 1 := (by omega); have hlw00_2 : w.heap.size ≤ w0.heap.size + 1 + 1 := (by omega); have hkw00 : w0.cell? ⟨w.heap.size, 0, none⟩ = some (.int .i64 n) := (by rw [hb.cell (p := ⟨w.heap.size, 0, none⟩) (by first | (simp; done) | (simp; omega) | omega)]; first | (go_simp; done) | assumption); have hkw01 : w0.cell? ⟨w.heap.size, 1, none⟩ = some (.slice A len cap) := (by rw [hb.cell (p := ⟨w.heap.size, 1, none⟩) (by first | (simp; done) | (simp; omega) | omega)]; first | (go_simp; done) | assumption); have hsw02 : w.heap.size + 1 < w0.heap.size := Nat.lt_of_lt_of_le (by first | (simp; done) | (simp; omega) | omega) hb.size; have hnw02 : ¬ w.heap.size + 1 = w0.heap.size := (by omega); have hmw02 : ¬ w0.heap.size = w.heap.size + 1 := (by omega); have hlw02_0 : w.heap.size + 1 ≤ w0.heap.size := (by omega); have hlw02_1 : w.heap.size + 1 ≤ w0.heap.size + 1 := (by omega); have hlw02_2 : w.heap.size + 1 ≤ w0.heap.size + 1 + 1 := (by omega); have hkw02 : w0.cell? ⟨w.heap.size + 1, 0, none⟩ = some (.int .i64 x) := (by rw [hb.cell (p := ⟨w.heap.size + 1, 0, none⟩) (by first | (simp; done) | (simp; omega) | omega)]; first | (go_simp; done) | assumption); have hkw03 : w0.cell? ⟨w.heap.size + 1, 1, none⟩ = some (.int .i64 y) := (by rw [hb.cell (p := ⟨w.heap.size + 1, 1, none⟩) (by first | (simp; done) | (simp; omega) | omega)]; first | (go_simp; done) | assumption); have hkw04 : w0.cell? ⟨w.heap.size + 1, 2, none⟩ = some (.int .i64 z) := (by rw [hb.cell (p := ⟨w.heap.size + 1, 2, none⟩) (by first | (simp; done) | (simp; omega) | omega)]; first | (go_simp; done) | assumption); clear hb
        go_wp2_with fail
        refine (C1.out _ (by repeat (first | exact Below.refl _ _ | assumption | refine Below.setCell ?_ (by first | (simp; done) | (simp; omega) | omega) _ | refine Below.drew ?_ | refine below_drewN ?_ _ | refine Below.alloc ?_ (by first | (simp; done) | (simp; omega) | omega) _ | refine below_alloc ?_ _ | refine below_step ?_ (by assumption)))).mono ?_
        rintro e w1 ⟨rfl, hb⟩
        have hB_w1 : Below w.heap.size w w1 := (by repeat (first | exact Below.refl _ _ | assumption | refine Below.setCell ?_ (by first | (simp; done) | (simp; omega) | omega) _ | refine Below.drew ?_ | refine below_drewN ?_ _ | refine Below.alloc ?_ (by first | (simp; done) | (simp; omega) | omega) _ | refine below_alloc ?_ _ | refine below_step ?_ (by assumption))); have hz_w1 := hB_w1.size; have hsw10 : w.heap.size < w1.heap.size := Nat.lt_of_lt_of_le (by first | (simp; done) | (simp; omega) | omega) hb.size; have hnw10 : ¬ w.heap.size = w1.heap.size := (by omega); have hmw10 : ¬ w1.heap.size = w.heap.size := (by omega); have hlw10_0 : w.heap.size ≤ w1.heap.size := (by omega); have hlw10_1 : w.heap.size ≤ w1.heap.size + 1 := (by omega); have hlw10_2 : w.heap.size ≤ w1.heap.size + 1 + 1 := (by omega); have hkw10 : w1.cell? ⟨w.heap.size, 0, none⟩ = some (.int .i64 n) := (by rw [hb.cell (p := ⟨w.heap.size, 0, none⟩) (by first | (simp; done) | (simp; omega) | omega)]; first | (go_simp; done) | assumption); have hkw11 : w1.cell? ⟨w.heap.size, 1, none⟩ = some (.slice A len cap) := (by rw [hb.cell (p := ⟨w.heap.size, 1, none⟩) (by first | (simp; done) | (simp; omega) | omega)]; first | (go_simp; done) | assumption); have hsw12 : w.heap.size + 1 < w1.heap.size := Nat.lt_of_lt_of_le (by first | (simp; done) | (simp; omega) | omega) hb.size; have hnw12 : ¬ w.heap.size + 1 = w1.heap.size := (by omega); have hmw12 : ¬ w1.heap.size = w.heap.size + 1 := (by omega); have hlw12_0 : w.heap.size + 1 ≤ w1.heap.size := (by omega); have hlw12_1 : w.heap.size + 1 ≤ w1.heap.size + 1 := (by omega); have hlw12_2 : w.heap.size + 1 ≤ w1.heap.size + 1 + 1 := (by omega); have hkw12 : w1.cell? ⟨w.heap.size + 1, 0, none⟩ = some (.int .i64 x) := (by rw [hb.cell (p := ⟨w.heap.size + 1, 0, none⟩) (by first | (simp; done) | (simp; omega) | omega)]; first | (go_simp; done) | assumption); have hkw13 : w1.cell? ⟨w.heap.size + 1, 1, none⟩ = some (.int .i64 y) := (by rw [hb.cell (p := ⟨w.heap.size + 1, 1, none⟩) (by first | (simp; done) | (simp; omega) | omega)]; first | (go_simp; done) | assumption); have hkw14 : w1.cell? ⟨w.heap.size + 1, 2, none⟩ = some (.int .i64 z) := (by rw [hb.cell (p := ⟨w.heap.size + 1, 2, none⟩) (by first | (simp; done) | (simp; omega) | omega)]; first | (go_simp; done) | assumption); clear hb hB_w0 hlw00_0 hlw00_1 hlw00_2 hkw00 hkw01 hlw02_0 hlw02_1 hlw02_2 hkw02 hkw03 hkw04
        go_wp2_with fail
        refine (C2.out _ (by repeat (first | exact Below.refl _ _ | assumption | refine Below.setCell ?_ (by first | (simp; done) | (simp; omega) | omega) _ | refine Below.drew ?_ | refine below_drewN ?_ _ | refine Below.alloc ?_ (by first | (simp; done) | (simp; omega) | omega) _ | refine below_alloc ?_ _ | refine below_step ?_ (by assumption)))).mono ?_
        rintro e w2 ⟨⟨v2, rfl, ho2⟩, hb⟩
        obtain ⟨A2, cap2, rfl, -, -, hR2, -⟩ := own_tapes ho2
        have HR2 := Lib.hid hR2
        clear hR2 ho2
        have hB_w2 : Below w.heap.size w w2 := (by repeat (first | exact Below.refl _ _ | assumption | refine Below.setCell ?_ (by first | (simp; done) | (simp; omega) | omega) _ | refine Below.drew ?_ | refine below_drewN ?_ _ | refine Below.alloc ?_ (by first | (simp; done) | (simp; omega) | omega) _ | refine below_alloc ?_ _ | refine below_step ?_ (by assumption))); have hz_w2 := hB_w2.size; have hsw20 : w.heap.size < w2.heap.size := Nat.lt_of_lt_of_le (by first | (simp; done) | (simp; omega) | omega) hb.size; have hnw20 : ¬ w.heap.size = w2.heap.size := (by omega); have hmw20 : ¬ w2.heap.size = w.heap.size := (by omega); have hlw20_0 : w.heap.size ≤ w2.heap.size := (by omega); have hlw20_1 : w.heap.size ≤ w2.heap.size + 1 := (by omega); have hlw20_2 : w.heap.size ≤ w2.heap.size + 1 + 1 := (by omega); have hkw20 : w2.cell? ⟨w.heap.size, 0, none⟩ = some (.int .i64 n) := (by rw [hb.cell (p := ⟨w.heap.size, 0, none⟩) (by first | (simp; done) | (simp; omega) | omega)]; first | (go_simp; done) | assumption); have hkw21 : w2.cell? ⟨w.heap.size, 1, none⟩ = some (.slice A len cap) := (by rw [hb.cell (p := ⟨w.heap.size, 1, none⟩) (by first | (simp; done) | (simp; omega) | omega)]; first | (go_simp; done) | assumption); have hsw22 : w.heap.size + 1 < w2.heap.size := Nat.lt_of_lt_of_le (by first | (simp; done) | (simp; omega) | omega) hb.size; have hnw22 : ¬ w.heap.size + 1 = w2.heap.size := (by omega); have hmw22 : ¬ w2.heap.size = w.heap.size + 1 := (by omega); have hlw22_0 : w.heap.size + 1 ≤ w2.heap.size := (by omega); have hlw22_1 : w.heap.size + 1 ≤ w2.heap.size + 1 := (by omega); have hlw22_2 : w.heap.size + 1 ≤ w2.heap.size + 1 + 1 := (by omega); have hkw22 : w2.cell? ⟨w.heap.size + 1, 0, none⟩ = some (.int .i64 x) := (by rw [hb.cell (p := ⟨w.heap.size + 1, 0, none⟩) (by first | (simp; done) | (simp; omega) | omega)]; first | (go_simp; done) | assumption); have hkw23 : w2.cell? ⟨w.heap.size + 1, 1, none⟩ = some (.int .i64 y) := (by rw [hb.cell (p := ⟨w.heap.size + 1, 1, none⟩) (by first | (simp; done) | (simp; omega) | omega)]; first | (go_simp; done) | assumption); have hkw24 : w2.cell? ⟨w.heap.size + 1, 2, none⟩ = some (.int .i64 z) := (by rw [hb.cell (p := ⟨w.heap.size + 1, 2, none⟩) (by first | (simp; done) | (simp; omega) | omega)]; first | (go_simp; done) | assumption); have hsw25 : w1.heap.size < w2.heap.size := Nat.lt_of_lt_of_le (by first | (simp; done) | (simp; omega) | omega) hb.size; have hnw25 : ¬ w1.heap.size = w2.heap.size := (by omega); have hmw25 : ¬ w2.heap.size = w1.heap.size := (by omega); have hlw25_0 : w1.heap.size ≤ w2.heap.size := (by omega); have hlw25_1 : w1.heap.size ≤ w2.heap.size + 1 := (by omega); have hlw25_2 : w1.heap.size ≤ w2.heap.size + 1 + 1 := (by omega); have hkw25 : w2.cell? ⟨w1.heap.size, 0, none⟩ = some (.int .i64 r) := (by rw [hb.cell (p := ⟨w1.heap.size, 0, none⟩) (by first | (simp; done) | (simp; omega) | omega)]; first | (go_simp; done) | assumption); have hkw26 : w2.cell? ⟨w1.heap.size, 1, none⟩ = some (.int .i64 rd) := (by rw [hb.cell (p := ⟨w1.heap.size, 1, none⟩) (by first | (simp; done) | (simp; omega) | omega)]; first | (go_simp; done) | assumption); clear hb hB_w1 hlw10_0 hlw10_1 hlw10_2 hkw10 hkw11 hlw12_0 hlw12_1 hlw12_2 hkw12 hkw13 hkw14
        go_wp2_with (go_at_call 23; refine (tawake_any _).mono ?_; rintro e w8 ⟨rfl, hb1⟩)
        go_ret
        exact ⟨rfl, (by repeat (first | exact Below.refl _ _ | assumption | refine Below.setCell ?_ (by first | (simp; done) | (simp; omega) | omega) _ | refine Below.drew ?_ | refine below_drewN ?_ _ | refine Below.alloc ?_ (by first | (simp; done) | (simp; omega) | omega) _ | refine below_alloc ?_ _ | refine below_step ?_ (by assumption)))⟩
    · have h1' : (resE n l x y == 0) = false := by simpa using h1
      generalize resE n l x y = E1 at *
      have C0 := Lib.hid c0
      have C1 := Lib.hid c1
      clear c0 c1 hx hs h1
      go_enter Try.func12, Try.ntmps12
      go_wp2_with fail
      refine (C0.out _).mono ?_
      rintro e w0 ⟨rfl, hb⟩
      have hB_w0 : Below w.heap.size w w0 := (by repeat (first | exact Below.refl _ _ | assumption | refine Below.setCell ?_ (by first | (simp; done) | (simp; omega) | omega) _ | refine Below.drew ?_ | refine below_drewN ?_ _ | refine Below.alloc ?_ (by first | (simp; done) | (simp; omega) | omega) _ | refine below_alloc ?_ _ | refine below_step ?_ (by assumption))); have hz_w0 := hB_w0.size; have hsw00 : w.heap.size < w0.heap.size := Nat.lt_of_lt_of_le (by first | (simp; done) | (simp; omega) | omega) hb.size; have hnw00 : ¬ w.heap.size = w0.heap.size := (by omega); have hmw00 : ¬ w0.heap.size = w.heap.size := (by omega); have hlw00_0 : w.heap.size ≤ w0.heap.size := (by omega); have hlw00_1 : w.heap.size ≤ w0.heap.size + 1 := (by omega); have hlw00_2 : w.heap.size ≤ w0.heap.size + 1 + 1 := (by omega); have hkw00 : w0.cell? ⟨w.heap.size, 0, none⟩ = some (.int .i64 n) := (by rw [hb.cell (p := ⟨w.heap.size, 0, none⟩) (by first | (simp; done) | (simp; omega) | omega)]; first | (go_simp; done) | assumption); have hkw01 : w0.cell? ⟨w.heap.size, 1, none⟩ = some (.slice A len cap) := (by rw [hb.cell (p := ⟨w.heap.size, 1, none⟩) (by first | (simp; done) | (simp; omega) | omega)]; first | (go_simp; done) | assumption); have hsw02 : w.heap.size + 1 < w0.heap.size := Nat.lt_of_lt_of_le (by first | (simp; done) | (simp; omega) | omega) hb.size; have hnw02 : ¬ w.heap.size + 1 = w0.heap.size := (by omega); have hmw02 : ¬ w0.heap.size = w.heap.size + 1 := (by omega); have hlw02_0 : w.heap.size + 1 ≤ w0.heap.size := (by omega); have hlw02_1 : w.heap.size + 1 ≤ w0.heap.size + 1 := (by omega); have hlw02_2 : w.heap.size + 1 ≤ w0.heap.size + 1 + 1 := (by omega); have hkw02 : w0.cell? ⟨w.heap.size + 1, 0, none⟩ = some (.int .i64 x) := (by rw [hb.cell (p := ⟨w.heap.size + 1, 0, none⟩) (by first | (simp; done) | (simp; omega) | omega)]; first | (go_simp; done) | assumption); have hkw03 : w0.cell? ⟨w.heap.size + 1, 1, none⟩ = some (.int .i64 y) := (by rw [hb.cell (p := ⟨w.heap.size + 1, 1, none⟩) (by first | (simp; done) | (simp; omega) | omega)]; first | (go_simp; done) | assumption); have hkw04 : w0.cell? ⟨w.heap.size + 1, 2, none⟩ = some (.int .i64 z) := (by rw [hb.cell (p := ⟨w.heap.size + 1, 2, none⟩) (by first | (simp; done) | (simp; omega) | omega)]; first | (go_simp; done) | assumption); clear hb
      go_wp2_with fail
      refine (C1.out _ (by repeat (first | exact Below.refl _ _ | assumption | refine Below.setCell ?_ (by first | (simp; done) | (simp; omega) | omega) _ | refine Below.drew ?_ | refine below_drewN ?_ _ | refine Below.alloc ?_ (by first | (simp; done) | (simp; omega) | omega) _ | refine below_alloc ?_ _ | refine below_step ?_ (by assumption)))).mono ?_
      rintro e w1 ⟨rfl, hb⟩
      have hB_w1 : Below w.heap.size w w1 := (by repeat (first | exact Below.refl _ _ | assumption | refine Below.setCell ?_ (by first | (simp; done) | (simp; omega) | omega) _ | refine Below.drew ?_ | refine below_drewN ?_ _ | refine Below.alloc ?_ (by first | (simp; done) | (simp; omega) | omega) _ | refine below_alloc ?_ _ | refine below_step ?_ (by assumption))); have hz_w1 := hB_w1.size; have hsw10 : w.heap.size < w1.heap.size := Nat.lt_of_lt_of_le (by first | (simp; done) | (simp; omega) | omega) hb.size; have hnw10 : ¬ w.heap.size = w1.heap.size := (by omega); have hmw10 : ¬ w1.heap.size = w.heap.size := (by omega); have hlw10_0 : w.heap.size ≤ w1.heap.size := (by omega); have hlw10_1 : w.heap.size ≤ w1.heap.size + 1 := (by omega); have hlw10_2 : w.heap.size ≤ w1.heap.size + 1 + 1 := (by omega); have hkw10 : w1.cell? ⟨w.heap.size, 0, none⟩ = some (.int .i64 n) := (by rw [hb.cell (p := ⟨w.heap.size, 0, none⟩) (by first | (simp; done) | (simp; omega) | omega)]; first | (go_simp; done) | assumption); have hkw11 : w1.cell? ⟨w.heap.size, 1, none⟩ = some (.slice A len cap) := (by rw [hb.cell (p := ⟨w.heap.size, 1, none⟩) (by first | (simp; done) | (simp; omega) | omega)]; first | (go_simp; done) | assumption); have hsw12 : w.heap.size + 1 < w1.heap.size := Nat.lt_of_lt_of_le (by first | (simp; done) | (simp; omega) | omega) hb.size; have hnw12 : ¬ w.heap.size + 1 = w1.heap.size := (by omega); have hmw12 : ¬ w1.heap.size = w.heap.size + 1 := (by omega); have hlw12_0 : w.heap.size + 1 ≤ w1.heap.size := (by omega); have hlw12_1 : w.heap.size + 1 ≤ w1.heap.size + 1 := (by omega); have hlw12_2 : w.heap.size + 1 ≤ w1.heap.size + 1 + 1 := (by omega); have hkw12 : w1.cell? ⟨w.heap.size + 1, 0, none⟩ = some (.int .i64 x) := (by rw [hb.cell (p := ⟨w.heap.size + 1, 0, none⟩) (by first | (simp; done) | (simp; omega) | omega)]; first | (go_simp; done) | assumption); have hkw13 : w1.cell? ⟨w.heap.size + 1, 1, none⟩ = some (.int .i64 y) := (by rw [hb.cell (p := ⟨w.heap.size + 1, 1, none⟩) (by first | (simp; done) | (simp; omega) | omega)]; first | (go_simp; done) | assumption); have hkw14 : w1.cell? ⟨w.heap.size + 1, 2, none⟩ = some (.int .i64 z) := (by rw [hb.cell (p := ⟨w.heap.size + 1, 2, none⟩) (by first | (simp; done) | (simp; omega) | omega)]; first | (go_simp; done) | assumption); clear hb hB_w0 hlw00_0 hlw00_1 hlw00_2 hkw00 hkw01 hlw02_0 hlw02_1 hlw02_2 hkw02 hkw03 hkw04
      go_wp2_with (go_at_call 23; refine (tawake_any _).mono ?_; rintro e w8 ⟨rfl, hb1⟩)
      go_ret
      exact ⟨rfl, (by repeat (first | exact Below.refl _ _ | assumption | refine Below.setCell ?_ (by first | (simp; done) | (simp; omega) | omega) _ | refine Below.drew ?_ | refine below_drewN ?_ _ | refine Below.alloc ?_ (by first | (simp; done) | (simp; omega) | omega) _ | refine below_alloc ?_ _ | refine below_step ?_ (by assumption)))⟩
  · have hs' : decide (len ≤ 30) = false := by simpa using hs
    rw [hs'] at c0
    have C0 := Lib.hid c0
    clear c0 hx hs hs'
    go_enter Try.func12, Try.ntmps12
    go_wp2_with fail
    refine (C0.out _).mono ?_
    rintro e w0 ⟨rfl, hb⟩
    have hB_w0 : Below w.heap.size w w0 := (by repeat (first | exact Below.refl _ _ | assumption | refine Below.setCell ?_ (by first | (simp; done) | (simp; omega) | omega) _ | refine Below.drew ?_ | refine below_drewN ?_ _ | refine Below.alloc ?_ (by first | (simp; done) | (simp; omega) | omega) _ | refine below_alloc ?_ _ | refine below_step ?_ (by assumption))); have hz_w0 := hB_w0.size; have hsw00 : w.heap.size < w0.heap.size := Nat.lt_of_lt_of_le (by first | (simp; done) | (simp; omega) | omega) hb.size; have hnw00 : ¬ w.heap.size = w0.heap.size := (by omega); have hmw00 : ¬ w0.heap.size = w.heap.size := (by omega); have hlw00_0 : w.heap.size ≤ w0.heap.size := (by omega); have hlw00_1 : w.heap.size ≤ w0.heap.size + 1 := (by omega); have hlw00_2 : w.heap.size ≤ w0.heap.size + 1 + 1 := (by omega); have hkw00 : w0.cell? ⟨w.heap.size, 0, none⟩ = some (.int .i64 n) := (by rw [hb.cell (p := ⟨w.heap.size, 0, none⟩) (by first | (simp; done) | (simp; omega) | omega)]; first | (go_simp; done) | assumption); have hkw01 : w0.cell? ⟨w.heap.size, 1, none⟩ = some (.slice A len cap) := (by rw [hb.cell (p := ⟨w.heap.size, 1, none⟩) (by first | (simp; done) | (simp; omega) | omega)]; first | (go_simp; done) | assumption); have hsw02 : w.heap.size + 1 < w0.heap.size := Nat.lt_of_lt_of_le (by first | (simp; done) | (simp; omega) | omega) hb.size; have hnw02 : ¬ w.heap.size + 1 = w0.heap.size := (by omega); have hmw02 : ¬ w0.heap.size = w.heap.size + 1 := (by omega); have hlw02_0 : w.heap.size + 1 ≤ w0.heap.size := (by omega); have hlw02_1 : w.heap.size + 1 ≤ w0.heap.size + 1 := (by omega); have hlw02_2 : w.heap.size + 1 ≤ w0.heap.size + 1 + 1 := (by omega); have hkw02 : w0.cell? ⟨w.heap.size + 1, 0, none⟩ = some (.int .i64 x) := (by rw [hb.cell (p := ⟨w.heap.size + 1, 0, none⟩) (by first | (simp; done) | (simp; omega) | omega)]; first | (go_simp; done) | assumption); have hkw03 : w0.cell? ⟨w.heap.size + 1, 1, none⟩ = some (.int .i64 y) := (by rw [hb.cell (p := ⟨w.heap.size + 1, 1, none⟩) (by first | (simp; done) | (simp; omega) | omega)]; first | (go_simp; done) | assumption); have hkw04 : w0.cell? ⟨w.heap.size + 1, 2, none⟩ = some (.int .i64 z) := (by rw [hb.cell (p := ⟨w.heap.size + 1, 2, none⟩) (by first | (simp; done) | (simp; omega) | omega)]; first | (go_simp; done) | assumption); clear hb
    go_wp2_with (go_at_call 23; refine (tawake_any _).mono ?_; rintro e w8 ⟨rfl, hb1⟩)
    go_ret
    exact ⟨rfl, (by repeat (first | exact Below.refl _ _ | assumption | refine Below.setCell ?_ (by first | (simp; done) | (simp; omega) | omega) _ | refine Below.drew ?_ | refine below_drewN ?_ _ | refine Below.alloc ?_ (by first | (simp; done) | (simp; omega) | omega) _ | refine below_alloc ?_ _ | refine below_step ?_ (by assumption)))⟩
end Go.Proofs.Ytcpnipnaidihaaa
