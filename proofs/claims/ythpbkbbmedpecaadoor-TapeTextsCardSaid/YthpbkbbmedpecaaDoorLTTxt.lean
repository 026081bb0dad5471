/- TapeTexts: the walk of the statement. -/
import Derived.Test.YthpbkbbmedpecaaDoorTpP
import Derived.Test.YthpbkbbmedpecaaDoorSameT
import Derived.Test.YthpbkbbmedpecaaDoorTape9
set_option linter.unusedSimpArgs false
set_option linter.unusedVariables false
namespace Go.Proofs.YthpbkbbmedpecaaDoor
open Go.RowKit
attribute [local go_sem] Later.cell

theorem TabA.b {w W : World} (h : TabA w) (hb : Below w.heap.size w W) : TabA W := h.below hb
theorem bnil {y : List UInt8} (h : y ≠ []) : y.isEmpty = false := by
  cases y with
  | nil => exact absurd rfl h
  | cons c r => rfl
set_option maxRecDepth 20000 in
set_option maxHeartbeats 8000000 in
theorem texts_walk (n : Int) (A : Option Addr) (len cap : Nat) (l : List Tp) (b : List UInt8) (w : World) (htab : TabA w) (hm : len ≤ cap ∧ cap ≤ 9223372036854775807) (hx : Rows 3 int3 (0,0,0) w w.heap.size A len l) (hb47 : b.length ≤ 9223372036854775807) :
    Calls Tryd.prog 3 #[.agg #[.int .i64 n, .slice A len cap], .string ⟨b.toArray⟩] w fun e w' => e = .returned (.bool true) ∧ Below w.heap.size w w' := by
  have C0 := Lib.hid (fun W => tsmall_any n A len cap W)
  by_cases h1 : len ≤ 30
  · rw [decide_eq_true h1] at C0
    have C1 := Lib.hid (fun W (h : Below w.heap.size w W) => Parse_any b W (htab.b h) hb47)
    have C2 := Lib.hid (fun W => rParse_any b W hb47)
    have C3 := Lib.hid (fun W (h : Below w.heap.size w W) => Format_any n A len cap l W (htab.b h).tab (by omega) ((hx.below h).more h.size))
    have C4 := Lib.hid (fun W (h : Below w.heap.size w W) => rFormat_any n A len cap l W (by omega) ((hx.below h).more h.size))
    have HQ := Lib.hid (rpT_back (b := b))
    have HX := Lib.hid hx
    have HT := Lib.hid htab
    clear hx htab
    generalize rpT b = P at *
    obtain ⟨N, V, K, E⟩ := P
    dsimp only at *
    go_enter Tryd.func3, Tryd.ntmps3
    go_wp2_with fail
    refine (C0.out _).mono ?_
    rintro e w0 ⟨rfl, hb⟩
    have hB_w0 : Below w.heap.size w w0 := (by repeat (first | exact Below.refl _ _ | assumption | refine Below.setCell ?_ (by first | (simp; done) | (simp; omega) | omega) _ | refine Below.drew ?_ | refine below_drewN ?_ _ | refine Below.alloc ?_ (by first | (simp; done) | (simp; omega) | omega) _ | refine below_alloc ?_ _ | refine below_step ?_ (by assumption))); have hz_w0 := hB_w0.size; have hsw00 : w.heap.size < w0.heap.size := Nat.lt_of_lt_of_le (by first | (simp; done) | (simp; omega) | omega) hb.size; have hnw00 : ¬ w.heap.size = w0.heap.size := (by omega); have hmw00 : ¬ w0.heap.size = w.heap.size := (by omega); have hlw00_0 : w.heap.size ≤ w0.heap.size := (by omega); have hlw00_1 : w.heap.size ≤ w0.heap.size + 1 := (by omega); have hlw00_2 : w.heap.size ≤ w0.heap.size + 1 + 1 := (by omega); have hkw00 : w0.cell? ⟨w.heap.size, 0, none⟩ = some (.int .i64 n) := (by rw [hb.cell (p := ⟨w.heap.size, 0, none⟩) (by first | (simp; done) | (simp; omega) | omega)]; first | (go_simp; done) | assumption); have hkw01 : w0.cell? ⟨w.heap.size, 1, none⟩ = some (.slice A len cap) := (by rw [hb.cell (p := ⟨w.heap.size, 1, none⟩) (by first | (simp; done) | (simp; omega) | omega)]; first | (go_simp; done) | assumption); clear hb
    go_wp2_with fail
    refine (C1.out _ hB_w0).mono ?_
    rintro e w1 ⟨⟨v1, rfl, ho1⟩, hb⟩
    obtain ⟨A1, k1, rfl, hm1, hm2, hR1⟩ := own_tapes1 ho1
    have HR1 := Lib.hid hR1
    clear ho1 hR1 C0 C1
    have hB_w1 : Below w.heap.size w w1 := (by repeat (first | exact Below.refl _ _ | assumption | refine Below.setCell ?_ (by first | (simp; done) | (simp; omega) | omega) _ | refine Below.drew ?_ | refine below_drewN ?_ _ | refine Below.alloc ?_ (by first | (simp; done) | (simp; omega) | omega) _ | refine below_alloc ?_ _ | refine below_step ?_ (by assumption))); have hz_w1 := hB_w1.size; have hsw10 : w.heap.size < w1.heap.size := Nat.lt_of_lt_of_le (by first | (simp; done) | (simp; omega) | omega) hb.size; have hnw10 : ¬ w.heap.size = w1.heap.size := (by omega); have hmw10 : ¬ w1.heap.size = w.heap.size := (by omega); have hlw10_0 : w.heap.size ≤ w1.heap.size := (by omega); have hlw10_1 : w.heap.size ≤ w1.heap.size + 1 := (by omega); have hlw10_2 : w.heap.size ≤ w1.heap.size + 1 + 1 := (by omega); have hkw10 : w1.cell? ⟨w.heap.size, 0, none⟩ = some (.int .i64 n) := (by rw [hb.cell (p := ⟨w.heap.size, 0, none⟩) (by first | (simp; done) | (simp; omega) | omega)]; first | (go_simp; done) | assumption); have hkw11 : w1.cell? ⟨w.heap.size, 1, none⟩ = some (.slice A len cap) := (by rw [hb.cell (p := ⟨w.heap.size, 1, none⟩) (by first | (simp; done) | (simp; omega) | omega)]; first | (go_simp; done) | assumption); clear hb hB_w0 hlw00_0 hlw00_1 hlw00_2 hkw00 hkw01
    go_wp2_with fail
    refine (C2.out _).mono ?_
    rintro e w2 ⟨⟨v2, rfl, ho2⟩, hb⟩
    obtain ⟨A2, k2, rfl, hm3, hm4, hR2⟩ := own_tapes1 ho2
    have HR2 := Lib.hid hR2
    have HR3 := Lib.hid ((HR1.out.below hb).more hb.size)
    clear ho2 hR2 HR1 C2
    have hB_w2 : Below w.heap.size w w2 := (by repeat (first | exact Below.refl _ _ | assumption | refine Below.setCell ?_ (by first | (simp; done) | (simp; omega) | omega) _ | refine Below.drew ?_ | refine below_drewN ?_ _ | refine Below.alloc ?_ (by first | (simp; done) | (simp; omega) | omega) _ | refine below_alloc ?_ _ | refine below_step ?_ (by assumption))); have hz_w2 := hB_w2.size; have hsw20 : w.heap.size < w2.heap.size := Nat.lt_of_lt_of_le (by first | (simp; done) | (simp; omega) | omega) hb.size; have hnw20 : ¬ w.heap.size = w2.heap.size := (by omega); have hmw20 : ¬ w2.heap.size = w.heap.size := (by omega); have hlw20_0 : w.heap.size ≤ w2.heap.size := (by omega); have hlw20_1 : w.heap.size ≤ w2.heap.size + 1 := (by omega); have hlw20_2 : w.heap.size ≤ w2.heap.size + 1 + 1 := (by omega); have hkw20 : w2.cell? ⟨w.heap.size, 0, none⟩ = some (.int .i64 n) := (by rw [hb.cell (p := ⟨w.heap.size, 0, none⟩) (by first | (simp; done) | (simp; omega) | omega)]; first | (go_simp; done) | assumption); have hkw21 : w2.cell? ⟨w.heap.size, 1, none⟩ = some (.slice A len cap) := (by rw [hb.cell (p := ⟨w.heap.size, 1, none⟩) (by first | (simp; done) | (simp; omega) | omega)]; first | (go_simp; done) | assumption); clear hb hB_w1 hlw10_0 hlw10_1 hlw10_2 hkw10 hkw11
    have hVl : V.length ≤ 9223372036854775807 := by unfold maxLen at hm2; omega
    have CS := Lib.hid (rSameT_any A1 V.length k1 A2 k2 V w2 hVl HR3.out HR2.out)
    go_wp2_with fail
    refine CS.out.mono ?_
    rintro e w3 ⟨rfl, hb⟩
    have HR4 := Lib.hid ((HR3.out.below hb).more hb.size)
    clear CS HR3 HR2
    have hB_w3 : Below w.heap.size w w3 := (by repeat (first | exact Below.refl _ _ | assumption | refine Below.setCell ?_ (by first | (simp; done) | (simp; omega) | omega) _ | refine Below.drew ?_ | refine below_drewN ?_ _ | refine Below.alloc ?_ (by first | (simp; done) | (simp; omega) | omega) _ | refine below_alloc ?_ _ | refine below_step ?_ (by assumption))); have hz_w3 := hB_w3.size; have hsw30 : w.heap.size < w3.heap.size := Nat.lt_of_lt_of_le (by first | (simp; done) | (simp; omega) | omega) hb.size; have hnw30 : ¬ w.heap.size = w3.heap.size := (by omega); have hmw30 : ¬ w3.heap.size = w.heap.size := (by omega); have hlw30_0 : w.heap.size ≤ w3.heap.size := (by omega); have hlw30_1 : w.heap.size ≤ w3.heap.size + 1 := (by omega); have hlw30_2 : w.heap.size ≤ w3.heap.size + 1 + 1 := (by omega); have hkw30 : w3.cell? ⟨w.heap.size, 0, none⟩ = some (.int .i64 n) := (by rw [hb.cell (p := ⟨w.heap.size, 0, none⟩) (by first | (simp; done) | (simp; omega) | omega)]; first | (go_simp; done) | assumption); have hkw31 : w3.cell? ⟨w.heap.size, 1, none⟩ = some (.slice A len cap) := (by rw [hb.cell (p := ⟨w.heap.size, 1, none⟩) (by first | (simp; done) | (simp; omega) | omega)]; first | (go_simp; done) | assumption); clear hb hB_w2 hlw20_0 hlw20_1 hlw20_2 hkw20 hkw21
    by_cases hE : E = 0
    · have hF := HQ.out hE
      have CF := Lib.hid (Format_any N A1 V.length k1 V w3 (HT.out.b hB_w3).tab hVl HR4.out)
      rw [hF] at CF
      subst hE
      clear hF HQ
      go_wp2_with fail
      refine CF.out.mono ?_
      rintro e w4 ⟨rfl, hb⟩
      clear CF HR4
      have hB_w4 : Below w.heap.size w w4 := (by repeat (first | exact Below.refl _ _ | assumption | refine Below.setCell ?_ (by first | (simp; done) | (simp; omega) | omega) _ | refine Below.drew ?_ | refine below_drewN ?_ _ | refine Below.alloc ?_ (by first | (simp; done) | (simp; omega) | omega) _ | refine below_alloc ?_ _ | refine below_step ?_ (by assumption))); have hz_w4 := hB_w4.size; have hsw40 : w.heap.size < w4.heap.size := Nat.lt_of_lt_of_le (by first | (simp; done) | (simp; omega) | omega) hb.size; have hnw40 : ¬ w.heap.size = w4.heap.size := (by omega); have hmw40 : ¬ w4.heap.size = w.heap.size := (by omega); have hlw40_0 : w.heap.size ≤ w4.heap.size := (by omega); have hlw40_1 : w.heap.size ≤ w4.heap.size + 1 := (by omega); have hlw40_2 : w.heap.size ≤ w4.heap.size + 1 + 1 := (by omega); have hkw40 : w4.cell? ⟨w.heap.size, 0, none⟩ = some (.int .i64 n) := (by rw [hb.cell (p := ⟨w.heap.size, 0, none⟩) (by first | (simp; done) | (simp; omega) | omega)]; first | (go_simp; done) | assumption); have hkw41 : w4.cell? ⟨w.heap.size, 1, none⟩ = some (.slice A len cap) := (by rw [hb.cell (p := ⟨w.heap.size, 1, none⟩) (by first | (simp; done) | (simp; omega) | omega)]; first | (go_simp; done) | assumption); clear hb hB_w3 hlw30_0 hlw30_1 hlw30_2 hkw30 hkw31
      go_wp2_with fail
      refine (C3.out _ hB_w4).mono ?_
      rintro e w5 ⟨rfl, hb⟩
      clear C3
      have hB_w5 : Below w.heap.size w w5 := (by repeat (first | exact Below.refl _ _ | assumption | refine Below.setCell ?_ (by first | (simp; done) | (simp; omega) | omega) _ | refine Below.drew ?_ | refine below_drewN ?_ _ | refine Below.alloc ?_ (by first | (simp; done) | (simp; omega) | omega) _ | refine below_alloc ?_ _ | refine below_step ?_ (by assumption))); have hz_w5 := hB_w5.size; have hsw50 : w.heap.size < w5.heap.size := Nat.lt_of_lt_of_le (by first | (simp; done) | (simp; omega) | omega) hb.size; have hnw50 : ¬ w.heap.size = w5.heap.size := (by omega); have hmw50 : ¬ w5.heap.size = w.heap.size := (by omega); have hlw50_0 : w.heap.size ≤ w5.heap.size := (by omega); have hlw50_1 : w.heap.size ≤ w5.heap.size + 1 := (by omega); have hlw50_2 : w.heap.size ≤ w5.heap.size + 1 + 1 := (by omega); have hkw50 : w5.cell? ⟨w.heap.size, 0, none⟩ = some (.int .i64 n) := (by rw [hb.cell (p := ⟨w.heap.size, 0, none⟩) (by first | (simp; done) | (simp; omega) | omega)]; first | (go_simp; done) | assumption); have hkw51 : w5.cell? ⟨w.heap.size, 1, none⟩ = some (.slice A len cap) := (by rw [hb.cell (p := ⟨w.heap.size, 1, none⟩) (by first | (simp; done) | (simp; omega) | omega)]; first | (go_simp; done) | assumption); clear hb hB_w4 hlw40_0 hlw40_1 hlw40_2 hkw40 hkw41
      go_wp2_with fail
      refine (C4.out _ hB_w5).mono ?_
      rintro e w6 ⟨rfl, hb⟩
      clear C4
      have hB_w6 : Below w.heap.size w w6 := (by repeat (first | exact Below.refl _ _ | assumption | refine Below.setCell ?_ (by first | (simp; done) | (simp; omega) | omega) _ | refine Below.drew ?_ | refine below_drewN ?_ _ | refine Below.alloc ?_ (by first | (simp; done) | (simp; omega) | omega) _ | refine below_alloc ?_ _ | refine below_step ?_ (by assumption))); have hz_w6 := hB_w6.size; have hsw60 : w.heap.size < w6.heap.size := Nat.lt_of_lt_of_le (by first | (simp; done) | (simp; omega) | omega) hb.size; have hnw60 : ¬ w.heap.size = w6.heap.size := (by omega); have hmw60 : ¬ w6.heap.size = w.heap.size := (by omega); have hlw60_0 : w.heap.size ≤ w6.heap.size := (by omega); have hlw60_1 : w.heap.size ≤ w6.heap.size + 1 := (by omega); have hlw60_2 : w.heap.size ≤ w6.heap.size + 1 + 1 := (by omega); have hkw60 : w6.cell? ⟨w.heap.size, 0, none⟩ = some (.int .i64 n) := (by rw [hb.cell (p := ⟨w.heap.size, 0, none⟩) (by first | (simp; done) | (simp; omega) | omega)]; first | (go_simp; done) | assumption); have hkw61 : w6.cell? ⟨w.heap.size, 1, none⟩ = some (.slice A len cap) := (by rw [hb.cell (p := ⟨w.heap.size, 1, none⟩) (by first | (simp; done) | (simp; omega) | omega)]; first | (go_simp; done) | assumption); clear hb hB_w5 hlw50_0 hlw50_1 hlw50_2 hkw50 hkw51
      by_cases hv : vNet n l = true
      · have r1 := rpT_fmt hv
        have r2 := fmtNet_len n l
        have c6 := fun W (h : TabA W) => Parse_any (fmtNet n l) W h (by omega)
        rw [r1] at c6
        dsimp only at c6
        have C6 := Lib.hid c6
        have HT6 := Lib.hid (HT.out.b hB_w6)
        have HX6 := Lib.hid ((HX.out.below hB_w6).more hB_w6.size)
        have hln : l.length = len := HX.out.1
        have hne : fmtNet n l ≠ [] := fun h => by rw [fmtNet_ne.1 h] at hv; exact absurd hv (by simp)
        have hni := bnil hne
        clear c6 r1 r2 hv
        generalize fmtNet n l = F at *
        go_wp2_with fail
        refine (C6.out _ HT6.out).mono ?_
        rintro e w8 ⟨⟨v8, rfl, ho8⟩, hb⟩
        rw [hln] at ho8
        obtain ⟨A8, k8, rfl, hm5, hm6, hR8⟩ := own_tapes1 ho8
        have C8 := Lib.hid (rSameT_any A8 len k8 A cap l w8 (by omega) hR8 ((HX6.out.below hb).more hb.size))
        clear ho8 hR8 hln HX6 HT6 C6
        have hB_w8 : Below w.heap.size w w8 := (by repeat (first | exact Below.refl _ _ | assumption | refine Below.setCell ?_ (by first | (simp; done) | (simp; omega) | omega) _ | refine Below.drew ?_ | refine below_drewN ?_ _ | refine Below.alloc ?_ (by first | (simp; done) | (simp; omega) | omega) _ | refine below_alloc ?_ _ | refine below_step ?_ (by assumption))); have hz_w8 := hB_w8.size; have hsw80 : w.heap.size < w8.heap.size := Nat.lt_of_lt_of_le (by first | (simp; done) | (simp; omega) | omega) hb.size; have hnw80 : ¬ w.heap.size = w8.heap.size := (by omega); have hmw80 : ¬ w8.heap.size = w.heap.size := (by omega); have hlw80_0 : w.heap.size ≤ w8.heap.size := (by omega); have hlw80_1 : w.heap.size ≤ w8.heap.size + 1 := (by omega); have hlw80_2 : w.heap.size ≤ w8.heap.size + 1 + 1 := (by omega); have hkw80 : w8.cell? ⟨w.heap.size, 0, none⟩ = some (.int .i64 n) := (by rw [hb.cell (p := ⟨w.heap.size, 0, none⟩) (by first | (simp; done) | (simp; omega) | omega)]; first | (go_simp; done) | assumption); have hkw81 : w8.cell? ⟨w.heap.size, 1, none⟩ = some (.slice A len cap) := (by rw [hb.cell (p := ⟨w.heap.size, 1, none⟩) (by first | (simp; done) | (simp; omega) | omega)]; first | (go_simp; done) | assumption); clear hb hB_w6 hlw60_0 hlw60_1 hlw60_2 hkw60 hkw61
        go_wp2_with fail
        refine C8.out.mono ?_
        rintro e w9 ⟨rfl, hb⟩
        clear C8
        have hB_w9 : Below w.heap.size w w9 := (by repeat (first | exact Below.refl _ _ | assumption | refine Below.setCell ?_ (by first | (simp; done) | (simp; omega) | omega) _ | refine Below.drew ?_ | refine below_drewN ?_ _ | refine Below.alloc ?_ (by first | (simp; done) | (simp; omega) | omega) _ | refine below_alloc ?_ _ | refine below_step ?_ (by assumption))); have hz_w9 := hB_w9.size; have hsw90 : w.heap.size < w9.heap.size := Nat.lt_of_lt_of_le (by first | (simp; done) | (simp; omega) | omega) hb.size; have hnw90 : ¬ w.heap.size = w9.heap.size := (by omega); have hmw90 : ¬ w9.heap.size = w.heap.size := (by omega); have hlw90_0 : w.heap.size ≤ w9.heap.size := (by omega); have hlw90_1 : w.heap.size ≤ w9.heap.size + 1 := (by omega); have hlw90_2 : w.heap.size ≤ w9.heap.size + 1 + 1 := (by omega); have hkw90 : w9.cell? ⟨w.heap.size, 0, none⟩ = some (.int .i64 n) := (by rw [hb.cell (p := ⟨w.heap.size, 0, none⟩) (by first | (simp; done) | (simp; omega) | omega)]; first | (go_simp; done) | assumption); have hkw91 : w9.cell? ⟨w.heap.size, 1, none⟩ = some (.slice A len cap) := (by rw [hb.cell (p := ⟨w.heap.size, 1, none⟩) (by first | (simp; done) | (simp; omega) | omega)]; first | (go_simp; done) | assumption); clear hb hB_w8 hlw80_0 hlw80_1 hlw80_2 hkw80 hkw81
        go_wp2_with fail
        refine (tawake_any _).mono ?_
        rintro e w10 ⟨rfl, hb⟩
        go_wp2
        go_ret
        exact ⟨rfl, (by repeat (first | exact Below.refl _ _ | assumption | refine Below.setCell ?_ (by first | (simp; done) | (simp; omega) | omega) _ | refine Below.drew ?_ | refine below_drewN ?_ _ | refine Below.alloc ?_ (by first | (simp; done) | (simp; omega) | omega) _ | refine below_alloc ?_ _ | refine below_step ?_ (by assumption)))⟩
      · have hv : vNet n l = false := by simpa using hv
        rw [fmtNet_ne.2 hv]
        go_wp2_with fail
        refine (tawake_any _).mono ?_
        rintro e w8 ⟨rfl, hb⟩
        go_wp2
        go_ret
        exact ⟨rfl, (by repeat (first | exact Below.refl _ _ | assumption | refine Below.setCell ?_ (by first | (simp; done) | (simp; omega) | omega) _ | refine Below.drew ?_ | refine below_drewN ?_ _ | refine Below.alloc ?_ (by first | (simp; done) | (simp; omega) | omega) _ | refine below_alloc ?_ _ | refine below_step ?_ (by assumption)))⟩
    · have hEb : (E == 0) = false := by rw [beq_eq_false_iff_ne]; exact hE
      clear HR4 HQ
      go_wp2_with fail
      refine (C3.out _ hB_w3).mono ?_
      rintro e w5 ⟨rfl, hb⟩
      clear C3
      have hB_w5 : Below w.heap.size w w5 := (by repeat (first | exact Below.refl _ _ | assumption | refine Below.setCell ?_ (by first | (simp; done) | (simp; omega) | omega) _ | refine Below.drew ?_ | refine below_drewN ?_ _ | refine Below.alloc ?_ (by first | (simp; done) | (simp; omega) | omega) _ | refine below_alloc ?_ _ | refine below_step ?_ (by assumption))); have hz_w5 := hB_w5.size; have hsw50 : w.heap.size < w5.heap.size := Nat.lt_of_lt_of_le (by first | (simp; done) | (simp; omega) | omega) hb.size; have hnw50 : ¬ w.heap.size = w5.heap.size := (by omega); have hmw50 : ¬ w5.heap.size = w.heap.size := (by omega); have hlw50_0 : w.heap.size ≤ w5.heap.size := (by omega); have hlw50_1 : w.heap.size ≤ w5.heap.size + 1 := (by omega); have hlw50_2 : w.heap.size ≤ w5.heap.size + 1 + 1 := (by omega); have hkw50 : w5.cell? ⟨w.heap.size, 0, none⟩ = some (.int .i64 n) := (by rw [hb.cell (p := ⟨w.heap.size, 0, none⟩) (by first | (simp; done) | (simp; omega) | omega)]; first | (go_simp; done) | assumption); have hkw51 : w5.cell? ⟨w.heap.size, 1, none⟩ = some (.slice A len cap) := (by rw [hb.cell (p := ⟨w.heap.size, 1, none⟩) (by first | (simp; done) | (simp; omega) | omega)]; first | (go_simp; done) | assumption); clear hb hB_w3 hlw30_0 hlw30_1 hlw30_2 hkw30 hkw31
      go_wp2_with fail
      refine (C4.out _ hB_w5).mono ?_
      rintro e w6 ⟨rfl, hb⟩
      clear C4
      have hB_w6 : Below w.heap.size w w6 := (by repeat (first | exact Below.refl _ _ | assumption | refine Below.setCell ?_ (by first | (simp; done) | (simp; omega) | omega) _ | refine Below.drew ?_ | refine below_drewN ?_ _ | refine Below.alloc ?_ (by first | (simp; done) | (simp; omega) | omega) _ | refine below_alloc ?_ _ | refine below_step ?_ (by assumption))); have hz_w6 := hB_w6.size; have hsw60 : w.heap.size < w6.heap.size := Nat.lt_of_lt_of_le (by first | (simp; done) | (simp; omega) | omega) hb.size; have hnw60 : ¬ w.heap.size = w6.heap.size := (by omega); have hmw60 : ¬ w6.heap.size = w.heap.size := (by omega); have hlw60_0 : w.heap.size ≤ w6.heap.size := (by omega); have hlw60_1 : w.heap.size ≤ w6.heap.size + 1 := (by omega); have hlw60_2 : w.heap.size ≤ w6.heap.size + 1 + 1 := (by omega); have hkw60 : w6.cell? ⟨w.heap.size, 0, none⟩ = some (.int .i64 n) := (by rw [hb.cell (p := ⟨w.heap.size, 0, none⟩) (by first | (simp; done) | (simp; omega) | omega)]; first | (go_simp; done) | assumption); have hkw61 : w6.cell? ⟨w.heap.size, 1, none⟩ = some (.slice A len cap) := (by rw [hb.cell (p := ⟨w.heap.size, 1, none⟩) (by first | (simp; done) | (simp; omega) | omega)]; first | (go_simp; done) | assumption); clear hb hB_w5 hlw50_0 hlw50_1 hlw50_2 hkw50 hkw51
      by_cases hv : vNet n l = true
      · have r1 := rpT_fmt hv
        have r2 := fmtNet_len n l
        have c6 := fun W (h : TabA W) => Parse_any (fmtNet n l) W h (by omega)
        rw [r1] at c6
        dsimp only at c6
        have C6 := Lib.hid c6
        have HT6 := Lib.hid (HT.out.b hB_w6)
        have HX6 := Lib.hid ((HX.out.below hB_w6).more hB_w6.size)
        have hln : l.length = len := HX.out.1
        have hne : fmtNet n l ≠ [] := fun h => by rw [fmtNet_ne.1 h] at hv; exact absurd hv (by simp)
        have hni := bnil hne
        clear c6 r1 r2 hv
        generalize fmtNet n l = F at *
        go_wp2_with fail
        refine (C6.out _ HT6.out).mono ?_
        rintro e w8 ⟨⟨v8, rfl, ho8⟩, hb⟩
        rw [hln] at ho8
        obtain ⟨A8, k8, rfl, hm5, hm6, hR8⟩ := own_tapes1 ho8
        have C8 := Lib.hid (rSameT_any A8 len k8 A cap l w8 (by omega) hR8 ((HX6.out.below hb).more hb.size))
        clear ho8 hR8 hln HX6 HT6 C6
        have hB_w8 : Below w.heap.size w w8 := (by repeat (first | exact Below.refl _ _ | assumption | refine Below.setCell ?_ (by first | (simp; done) | (simp; omega) | omega) _ | refine Below.drew ?_ | refine below_drewN ?_ _ | refine Below.alloc ?_ (by first | (simp; done) | (simp; omega) | omega) _ | refine below_alloc ?_ _ | refine below_step ?_ (by assumption))); have hz_w8 := hB_w8.size; have hsw80 : w.heap.size < w8.heap.size := Nat.lt_of_lt_of_le (by first | (simp; done) | (simp; omega) | omega) hb.size; have hnw80 : ¬ w.heap.size = w8.heap.size := (by omega); have hmw80 : ¬ w8.heap.size = w.heap.size := (by omega); have hlw80_0 : w.heap.size ≤ w8.heap.size := (by omega); have hlw80_1 : w.heap.size ≤ w8.heap.size + 1 := (by omega); have hlw80_2 : w.heap.size ≤ w8.heap.size + 1 + 1 := (by omega); have hkw80 : w8.cell? ⟨w.heap.size, 0, none⟩ = some (.int .i64 n) := (by rw [hb.cell (p := ⟨w.heap.size, 0, none⟩) (by first | (simp; done) | (simp; omega) | omega)]; first | (go_simp; done) | assumption); have hkw81 : w8.cell? ⟨w.heap.size, 1, none⟩ = some (.slice A len cap) := (by rw [hb.cell (p := ⟨w.heap.size, 1, none⟩) (by first | (simp; done) | (simp; omega) | omega)]; first | (go_simp; done) | assumption); clear hb hB_w6 hlw60_0 hlw60_1 hlw60_2 hkw60 hkw61
        go_wp2_with fail
        refine C8.out.mono ?_
        rintro e w9 ⟨rfl, hb⟩
        clear C8
        have hB_w9 : Below w.heap.size w w9 := (by repeat (first | exact Below.refl _ _ | assumption | refine Below.setCell ?_ (by first | (simp; done) | (simp; omega) | omega) _ | refine Below.drew ?_ | refine below_drewN ?_ _ | refine Below.alloc ?_ (by first | (simp; done) | (simp; omega) | omega) _ | refine below_alloc ?_ _ | refine below_step ?_ (by assumption))); have hz_w9 := hB_w9.size; have hsw90 : w.heap.size < w9.heap.size := Nat.lt_of_lt_of_le (by first | (simp; done) | (simp; omega) | omega) hb.size; have hnw90 : ¬ w.heap.size = w9.heap.size := (by omega); have hmw90 : ¬ w9.heap.size = w.heap.size := (by omega); have hlw90_0 : w.heap.size ≤ w9.heap.size := (by omega); have hlw90_1 : w.heap.size ≤ w9.heap.size + 1 := (by omega); have hlw90_2 : w.heap.size ≤ w9.heap.size + 1 + 1 := (by omega); have hkw90 : w9.cell? ⟨w.heap.size, 0, none⟩ = some (.int .i64 n) := (by rw [hb.cell (p := ⟨w.heap.size, 0, none⟩) (by first | (simp; done) | (simp; omega) | omega)]; first | (go_simp; done) | assumption); have hkw91 : w9.cell? ⟨w.heap.size, 1, none⟩ = some (.slice A len cap) := (by rw [hb.cell (p := ⟨w.heap.size, 1, none⟩) (by first | (simp; done) | (simp; omega) | omega)]; first | (go_simp; done) | assumption); clear hb hB_w8 hlw80_0 hlw80_1 hlw80_2 hkw80 hkw81
        go_wp2_with fail
        refine (tawake_any _).mono ?_
        rintro e w10 ⟨rfl, hb⟩
        go_wp2
        go_ret
        exact ⟨rfl, (by repeat (first | exact Below.refl _ _ | assumption | refine Below.setCell ?_ (by first | (simp; done) | (simp; omega) | omega) _ | refine Below.drew ?_ | refine below_drewN ?_ _ | refine Below.alloc ?_ (by first | (simp; done) | (simp; omega) | omega) _ | refine below_alloc ?_ _ | refine below_step ?_ (by assumption)))⟩
      · have hv : vNet n l = false := by simpa using hv
        rw [fmtNet_ne.2 hv]
        go_wp2_with fail
        refine (tawake_any _).mono ?_
        rintro e w8 ⟨rfl, hb⟩
        go_wp2
        go_ret
        exact ⟨rfl, (by repeat (first | exact Below.refl _ _ | assumption | refine Below.setCell ?_ (by first | (simp; done) | (simp; omega) | omega) _ | refine Below.drew ?_ | refine below_drewN ?_ _ | refine Below.alloc ?_ (by first | (simp; done) | (simp; omega) | omega) _ | refine below_alloc ?_ _ | refine below_step ?_ (by assumption)))⟩
  · rw [decide_eq_false h1] at C0
    clear hx htab
    go_enter Tryd.func3, Tryd.ntmps3
    go_wp2_with fail
    refine (C0.out _).mono ?_
    rintro e w0 ⟨rfl, hb⟩
    have hB_w0 : Below w.heap.size w w0 := (by repeat (first | exact Below.refl _ _ | assumption | refine Below.setCell ?_ (by first | (simp; done) | (simp; omega) | omega) _ | refine Below.drew ?_ | refine below_drewN ?_ _ | refine Below.alloc ?_ (by first | (simp; done) | (simp; omega) | omega) _ | refine below_alloc ?_ _ | refine below_step ?_ (by assumption))); have hz_w0 := hB_w0.size; have hsw00 : w.heap.size < w0.heap.size := Nat.lt_of_lt_of_le (by first | (simp; done) | (simp; omega) | omega) hb.size; have hnw00 : ¬ w.heap.size = w0.heap.size := (by omega); have hmw00 : ¬ w0.heap.size = w.heap.size := (by omega); have hlw00_0 : w.heap.size ≤ w0.heap.size := (by omega); have hlw00_1 : w.heap.size ≤ w0.heap.size + 1 := (by omega); have hlw00_2 : w.heap.size ≤ w0.heap.size + 1 + 1 := (by omega); have hkw00 : w0.cell? ⟨w.heap.size, 0, none⟩ = some (.int .i64 n) := (by rw [hb.cell (p := ⟨w.heap.size, 0, none⟩) (by first | (simp; done) | (simp; omega) | omega)]; first | (go_simp; done) | assumption); have hkw01 : w0.cell? ⟨w.heap.size, 1, none⟩ = some (.slice A len cap) := (by rw [hb.cell (p := ⟨w.heap.size, 1, none⟩) (by first | (simp; done) | (simp; omega) | omega)]; first | (go_simp; done) | assumption); clear hb
    go_wp2_with fail
    refine (tawake_any _).mono ?_
    rintro e w1 ⟨rfl, hb⟩
    go_wp2
    go_ret
    exact ⟨rfl, (by repeat (first | exact Below.refl _ _ | assumption | refine Below.setCell ?_ (by first | (simp; done) | (simp; omega) | omega) _ | refine Below.drew ?_ | refine below_drewN ?_ _ | refine Below.alloc ?_ (by first | (simp; done) | (simp; omega) | omega) _ | refine below_alloc ?_ _ | refine below_step ?_ (by assumption)))⟩
theorem texts_row (n : Int) (A : Option Addr) (len cap : Nat) (l : List Tp) (s : ByteArray) (w : World) (_ : -9223372036854775808 ≤ n ∧ n ≤ 9223372036854775807) (hm : len ≤ cap ∧ cap ≤ 9223372036854775807) (hx : Rows 3 int3 (0,0,0) w w.heap.size A len l)
    (_ : ∀ x ∈ l, (-9223372036854775808 ≤ x.1 ∧ x.1 ≤ 9223372036854775807) ∧ (-9223372036854775808 ≤ x.2.1 ∧ x.2.1 ≤ 9223372036854775807) ∧ (-9223372036854775808 ≤ x.2.2 ∧ x.2.2 ≤ 9223372036854775807)) (hs : s.size ≤ 9223372036854775807) (htab : TabA w) :
    Calls Tryd.prog 3 #[.agg #[.int .i64 n, .slice A len cap], .string s] w fun e w' => e = .returned (.bool true) ∧ Below w.heap.size w w' := by
  have e : s = ⟨s.data.toList.toArray⟩ := by simp
  have hl : s.data.toList.length = s.size := by show s.data.toList.length = s.data.size; simp
  rw [e]
  exact texts_walk n A len cap l s.data.toList w htab hm hx (by omega)
end Go.Proofs.YthpbkbbmedpecaaDoor
