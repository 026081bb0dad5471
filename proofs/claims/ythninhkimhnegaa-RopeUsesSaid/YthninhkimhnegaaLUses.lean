/- RopeUses: the walk of the statement. -/
import Derived.Test.YthninhkimhnegaaUsed
import Derived.Test.YthninhkimhnegaaWrong
import Derived.Test.YthninhkimhnegaaAwake4
import Derived.OwnWalk
import Derived.StillTailTactics
set_option linter.unusedSimpArgs false
set_option linter.unusedVariables false
namespace Go.Proofs.Ythninhkimhnegaa
open Go.RowKit
attribute [local go_sem] Later.cell

theorem goodU_nil : goodU [] = true := rfl
theorem goodU_snoc {us : List (Int × Int)} {day ld : Int} (h : goodU us = true) (hl : us.length < 500) (h0 : 0 ≤ day ∧ day ≤ 100000) (h1 : 0 ≤ ld ∧ ld ≤ 1000000) (h2 : ¬ (0 < us.length ∧ day < (us[us.length - 1]?.getD (0,0)).1)) : goodU (us ++ [(day, ld)]) = true := by
  simp only [goodU, Bool.and_eq_true, List.all_eq_true, decide_eq_true_eq, List.length_append, List.length_cons, List.length_nil] at *
  refine ⟨fun i hi => ?_, by omega⟩
  have hi' := List.mem_range.1 hi
  by_cases hlt : i < us.length
  · have := h.1 i (List.mem_range.2 hlt)
    unfold useX at *
    rw [List.getElem?_append_left hlt, List.getElem?_append_left (show i - 1 < us.length by omega)]
    exact this
  · have he : i = us.length := by omega
    subst he
    unfold useX
    rw [List.getElem?_append_right (Nat.le_refl _), Nat.sub_self]
    simp only [List.getElem?_cons_zero, Option.getD_some, useB, Bool.and_eq_true, Bool.or_eq_true, decide_eq_true_eq]
    refine ⟨⟨withinB_iff.2 h0, okLoad_iff.2 h1⟩, ?_⟩
    by_cases hz : us.length = 0
    · left; simp [hz]
    · right
      rw [List.getElem?_append_left (show us.length - 1 < us.length by omega)]
      omega
theorem wrongL_snoc {s d l : Int} {us : List (Int × Int)} {day ld : Int} (h : wrongL s d l us us.length = []) (hm : mayR s d l us day ld = true) : wrongL s d l (us ++ [(day, ld)]) (us ++ [(day, ld)]).length = [] := by
  rw [List.length_append]
  have h1 : wrongL s d l (us ++ [(day, ld)]) us.length = wrongL s d l us us.length := by
    unfold wrongL
    congr 1
    refine List.filter_congr fun i hi => ?_
    have hi' := List.mem_range.1 hi
    unfold wrongP
    rw [List.getElem?_append_left hi', List.take_append_of_le_length (by omega)]
  have h2 : wrongP s d l (us ++ [(day, ld)]) us.length = false := by
    unfold wrongP
    rw [List.getElem?_append_right (Nat.le_refl _), Nat.sub_self, List.take_append_of_le_length (Nat.le_refl _), List.take_length]
    simp only [List.getElem?_cons_zero, Option.getD_some, hm]
    rfl
  show wrongL s d l _ (us.length + 1) = []
  rw [wrongL_no h2, h1, h]
/-- Uses that are added one by one stay valid and right. -/
theorem used_keeps {s d l : Int} {us : List (Int × Int)} {day ld : Int} (h : goodU us = true) (hw : wrongL s d l us us.length = []) (he : usedE s d l us day ld = 0) :
    goodU (usedR s d l us day ld) = true ∧ wrongL s d l (usedR s d l us day ld) (usedR s d l us day ld).length = [] := by
  have hr : usedR s d l us day ld = us ++ [(day, ld)] := if_pos he
  rw [hr]
  unfold usedE at he
  by_cases k1 : errR s d l us day ld = 0
  · rw [if_neg (by rw [k1]; decide)] at he
    by_cases k2 : 0 < us.length ∧ day < (us[us.length - 1]?.getD (0,0)).1
    · rw [if_pos k2] at he; cases he
    · rw [if_neg k2] at he
      by_cases k3 : us.length = 500
      · rw [if_pos k3] at he; cases he
      · rw [if_neg k3] at he
        by_cases k4 : mayR s d l us day ld = false
        · rw [if_pos k4] at he; cases he
        · obtain ⟨g1, g2, g3, g4⟩ := err_spec k1
          have hl := (goodU_spec h).1
          exact ⟨goodU_snoc h (by omega) g3 g4 k2, wrongL_snoc hw (by simpa using k4)⟩
  · rw [if_pos k1] at he
    exact absurd he k1
theorem wrong_none {s d l : Int} {us : List (Int × Int)} (h : goodU us = true) (hw : wrongL s d l us us.length = []) : wrongRes s d l us = [] ∧ askR s d l us 0 = if goodR s d l then 0 else 1 := by
  refine ⟨?_, ?_⟩
  · unfold wrongRes
    split
    · exact hw
    · rfl
  · unfold askR
    rw [h]
    cases goodR s d l <;> rfl

set_option maxRecDepth 100000 in
set_option maxHeartbeats 8000000 in
theorem uses_walk (s d l : Int) (A : Option Addr) (len cap : Nat) (us : List (Int × Int)) (n0 n1 : Int) (w : World)
    (_ : -9223372036854775808 ≤ s ∧ s ≤ 9223372036854775807) (_ : -9223372036854775808 ≤ d ∧ d ≤ 9223372036854775807) (_ : -9223372036854775808 ≤ l ∧ l ≤ 9223372036854775807)
    (hm : len ≤ cap ∧ cap ≤ 9223372036854775807) (hx : Pairs w w.heap.size A len us)
    (_ : ∀ p ∈ us, (-9223372036854775808 ≤ p.1 ∧ p.1 ≤ 9223372036854775807) ∧ -9223372036854775808 ≤ p.2 ∧ p.2 ≤ 9223372036854775807)
    (_ : -9223372036854775808 ≤ n0 ∧ n0 ≤ 9223372036854775807) (_ : -9223372036854775808 ≤ n1 ∧ n1 ≤ 9223372036854775807) :
    Calls Try.prog 13 #[.agg #[.int .i64 s, .int .i64 d, .int .i64 l], .slice A len cap, .agg #[.int .i64 n0, .int .i64 n1]] w fun e w' => e = .returned (.bool true) ∧ Below w.heap.size w w' := by
  by_cases hlen : 700 < len
  · clear hx
    go_enter Try.func13, Try.ntmps13
    go_wp2_with (go_at_call 26; refine (awake_any _).mono ?_; rintro e w1 ⟨rfl, hb1⟩)
    go_ret
    exact ⟨rfl, (by repeat (first | exact Below.refl _ _ | assumption | refine Below.setCell ?_ (by first | (simp; done) | (simp; omega) | omega) _ | refine Below.drew ?_ | refine below_drewN ?_ _ | refine Below.alloc ?_ (by first | (simp; done) | (simp; omega) | omega) _ | refine below_alloc ?_ _ | refine below_step ?_ (by assumption)))⟩
  · have c1 := fun W (h : Below w.heap.size w W) => Used_any s d l A len cap us n0 n1 W hm ((hx.below h).more h.size)
    have c2 := fun W (h : Below w.heap.size w W) => rUsed_any s d l A len cap us n0 n1 W hm ((hx.below h).more h.size)
    have c9 := fun W => rValidRope_any s d l W
    generalize usedR s d l us n0 n1 = UR at *
    generalize usedE s d l us n0 n1 = UE at *
    have C1 := Lib.hid c1
    have C2 := Lib.hid c2
    have C9 := Lib.hid c9
    have HX := Lib.hid hx
    clear c1 c2 c9 hx
    go_enter Try.func13, Try.ntmps13
    go_wp2_with fail
    refine (C1.out _ (by repeat (first | exact Below.refl _ _ | assumption | refine Below.setCell ?_ (by first | (simp; done) | (simp; omega) | omega) _ | refine Below.drew ?_ | refine below_drewN ?_ _ | refine Below.alloc ?_ (by first | (simp; done) | (simp; omega) | omega) _ | refine below_alloc ?_ _ | refine below_step ?_ (by assumption)))).mono ?_
    rintro e w1 ⟨⟨B1, m1, k1, rfl, ⟨hm1, hm2⟩, hI1⟩, hb⟩
    have HI1 := Lib.hid hI1
    clear hI1
    have hB_w1 : Below w.heap.size w w1 := (by repeat (first | exact Below.refl _ _ | assumption | refine Below.setCell ?_ (by first | (simp; done) | (simp; omega) | omega) _ | refine Below.drew ?_ | refine below_drewN ?_ _ | refine Below.alloc ?_ (by first | (simp; done) | (simp; omega) | omega) _ | refine below_alloc ?_ _ | refine below_step ?_ (by assumption))); have hz_w1 := hB_w1.size; have hsw10 : w.heap.size < w1.heap.size := Nat.lt_of_lt_of_le (by first | (simp; done) | (simp; omega) | omega) hb.size; have hnw10 : ¬ w.heap.size = w1.heap.size := (by omega); have hmw10 : ¬ w1.heap.size = w.heap.size := (by omega); have hlw10_0 : w.heap.size ≤ w1.heap.size := (by omega); have hlw10_1 : w.heap.size ≤ w1.heap.size + 1 := (by omega); have hlw10_2 : w.heap.size ≤ w1.heap.size + 1 + 1 := (by omega); have hkw10 : w1.cell? ⟨w.heap.size, 0, none⟩ = some (.int .i64 s) := (by rw [hb.cell (p := ⟨w.heap.size, 0, none⟩) (by first | (simp; done) | (simp; omega) | omega)]; first | (go_simp; done) | assumption); have hkw11 : w1.cell? ⟨w.heap.size, 1, none⟩ = some (.int .i64 d) := (by rw [hb.cell (p := ⟨w.heap.size, 1, none⟩) (by first | (simp; done) | (simp; omega) | omega)]; first | (go_simp; done) | assumption); have hkw12 : w1.cell? ⟨w.heap.size, 2, none⟩ = some (.int .i64 l) := (by rw [hb.cell (p := ⟨w.heap.size, 2, none⟩) (by first | (simp; done) | (simp; omega) | omega)]; first | (go_simp; done) | assumption); have hsw13 : w.heap.size + 1 < w1.heap.size := Nat.lt_of_lt_of_le (by first | (simp; done) | (simp; omega) | omega) hb.size; have hnw13 : ¬ w.heap.size + 1 = w1.heap.size := (by omega); have hmw13 : ¬ w1.heap.size = w.heap.size + 1 := (by omega); have hlw13_0 : w.heap.size + 1 ≤ w1.heap.size := (by omega); have hlw13_1 : w.heap.size + 1 ≤ w1.heap.size + 1 := (by omega); have hlw13_2 : w.heap.size + 1 ≤ w1.heap.size + 1 + 1 := (by omega); have hkw13 : w1.cell? ⟨w.heap.size + 1, 0, none⟩ = some (.int .i64 n0) := (by rw [hb.cell (p := ⟨w.heap.size + 1, 0, none⟩) (by first | (simp; done) | (simp; omega) | omega)]; first | (go_simp; done) | assumption); have hkw14 : w1.cell? ⟨w.heap.size + 1, 1, none⟩ = some (.int .i64 n1) := (by rw [hb.cell (p := ⟨w.heap.size + 1, 1, none⟩) (by first | (simp; done) | (simp; omega) | omega)]; first | (go_simp; done) | assumption); clear hb
    go_wp2_with fail
    refine (C2.out _ (by repeat (first | exact Below.refl _ _ | assumption | refine Below.setCell ?_ (by first | (simp; done) | (simp; omega) | omega) _ | refine Below.drew ?_ | refine below_drewN ?_ _ | refine Below.alloc ?_ (by first | (simp; done) | (simp; omega) | omega) _ | refine below_alloc ?_ _ | refine below_step ?_ (by assumption)))).mono ?_
    rintro e w2 ⟨⟨B2, m2, k2, rfl, ⟨hm3, hm4⟩, hI2⟩, hb⟩
    have HI3 := Lib.hid ((HI1.out.below hb).more hb.size)
    have HI2 := Lib.hid hI2
    clear hI2 HI1
    have hB_w2 : Below w.heap.size w w2 := (by repeat (first | exact Below.refl _ _ | assumption | refine Below.setCell ?_ (by first | (simp; done) | (simp; omega) | omega) _ | refine Below.drew ?_ | refine below_drewN ?_ _ | refine Below.alloc ?_ (by first | (simp; done) | (simp; omega) | omega) _ | refine below_alloc ?_ _ | refine below_step ?_ (by assumption))); have hz_w2 := hB_w2.size; have hsw20 : w.heap.size < w2.heap.size := Nat.lt_of_lt_of_le (by first | (simp; done) | (simp; omega) | omega) hb.size; have hnw20 : ¬ w.heap.size = w2.heap.size := (by omega); have hmw20 : ¬ w2.heap.size = w.heap.size := (by omega); have hlw20_0 : w.heap.size ≤ w2.heap.size := (by omega); have hlw20_1 : w.heap.size ≤ w2.heap.size + 1 := (by omega); have hlw20_2 : w.heap.size ≤ w2.heap.size + 1 + 1 := (by omega); have hkw20 : w2.cell? ⟨w.heap.size, 0, none⟩ = some (.int .i64 s) := (by rw [hb.cell (p := ⟨w.heap.size, 0, none⟩) (by first | (simp; done) | (simp; omega) | omega)]; first | (go_simp; done) | assumption); have hkw21 : w2.cell? ⟨w.heap.size, 1, none⟩ = some (.int .i64 d) := (by rw [hb.cell (p := ⟨w.heap.size, 1, none⟩) (by first | (simp; done) | (simp; omega) | omega)]; first | (go_simp; done) | assumption); have hkw22 : w2.cell? ⟨w.heap.size, 2, none⟩ = some (.int .i64 l) := (by rw [hb.cell (p := ⟨w.heap.size, 2, none⟩) (by first | (simp; done) | (simp; omega) | omega)]; first | (go_simp; done) | assumption); have hsw23 : w.heap.size + 1 < w2.heap.size := Nat.lt_of_lt_of_le (by first | (simp; done) | (simp; omega) | omega) hb.size; have hnw23 : ¬ w.heap.size + 1 = w2.heap.size := (by omega); have hmw23 : ¬ w2.heap.size = w.heap.size + 1 := (by omega); have hlw23_0 : w.heap.size + 1 ≤ w2.heap.size := (by omega); have hlw23_1 : w.heap.size + 1 ≤ w2.heap.size + 1 := (by omega); have hlw23_2 : w.heap.size + 1 ≤ w2.heap.size + 1 + 1 := (by omega); have hkw23 : w2.cell? ⟨w.heap.size + 1, 0, none⟩ = some (.int .i64 n0) := (by rw [hb.cell (p := ⟨w.heap.size + 1, 0, none⟩) (by first | (simp; done) | (simp; omega) | omega)]; first | (go_simp; done) | assumption); have hkw24 : w2.cell? ⟨w.heap.size + 1, 1, none⟩ = some (.int .i64 n1) := (by rw [hb.cell (p := ⟨w.heap.size + 1, 1, none⟩) (by first | (simp; done) | (simp; omega) | omega)]; first | (go_simp; done) | assumption); clear hb hB_w1 hlw10_0 hlw10_1 hlw10_2 hkw10 hkw11 hkw12 hlw13_0 hlw13_1 hlw13_2 hkw13 hkw14
    go_wp2_with fail
    refine (Same_any B1 m1 k1 UR B2 m2 k2 UR _ (by omega) (by omega) HI3.out HI2.out).mono ?_
    rintro e w3 ⟨rfl, hb⟩
    have hRR : decide (UR = UR) = true := by simp
    clear HI3 HI2
    have hB_w3 : Below w.heap.size w w3 := (by repeat (first | exact Below.refl _ _ | assumption | refine Below.setCell ?_ (by first | (simp; done) | (simp; omega) | omega) _ | refine Below.drew ?_ | refine below_drewN ?_ _ | refine Below.alloc ?_ (by first | (simp; done) | (simp; omega) | omega) _ | refine below_alloc ?_ _ | refine below_step ?_ (by assumption))); have hz_w3 := hB_w3.size; have hsw30 : w.heap.size < w3.heap.size := Nat.lt_of_lt_of_le (by first | (simp; done) | (simp; omega) | omega) hb.size; have hnw30 : ¬ w.heap.size = w3.heap.size := (by omega); have hmw30 : ¬ w3.heap.size = w.heap.size := (by omega); have hlw30_0 : w.heap.size ≤ w3.heap.size := (by omega); have hlw30_1 : w.heap.size ≤ w3.heap.size + 1 := (by omega); have hlw30_2 : w.heap.size ≤ w3.heap.size + 1 + 1 := (by omega); have hkw30 : w3.cell? ⟨w.heap.size, 0, none⟩ = some (.int .i64 s) := (by rw [hb.cell (p := ⟨w.heap.size, 0, none⟩) (by first | (simp; done) | (simp; omega) | omega)]; first | (go_simp; done) | assumption); have hkw31 : w3.cell? ⟨w.heap.size, 1, none⟩ = some (.int .i64 d) := (by rw [hb.cell (p := ⟨w.heap.size, 1, none⟩) (by first | (simp; done) | (simp; omega) | omega)]; first | (go_simp; done) | assumption); have hkw32 : w3.cell? ⟨w.heap.size, 2, none⟩ = some (.int .i64 l) := (by rw [hb.cell (p := ⟨w.heap.size, 2, none⟩) (by first | (simp; done) | (simp; omega) | omega)]; first | (go_simp; done) | assumption); clear hb hB_w2 hlw20_0 hlw20_1 hlw20_2 hkw20 hkw21 hkw22 hlw23_0 hlw23_1 hlw23_2 hkw23 hkw24
    by_cases hl4 : 40 < len
    · go_wp2_with (go_at_call 26; refine (awake_any _).mono ?_; rintro e w10 ⟨rfl, hb6⟩)
      go_ret
      exact ⟨rfl, (by repeat (first | exact Below.refl _ _ | assumption | refine Below.setCell ?_ (by first | (simp; done) | (simp; omega) | omega) _ | refine Below.drew ?_ | refine below_drewN ?_ _ | refine Below.alloc ?_ (by first | (simp; done) | (simp; omega) | omega) _ | refine below_alloc ?_ _ | refine below_step ?_ (by assumption)))⟩
    · go_wp2
      go_loopw [11, 12] (fun v i wr => ∃ k : Nat, k ≤ len ∧ i = .int .i64 k ∧ (∃ B n c, ∃ ys : List (Int × Int), v = .slice B n c ∧ (n ≤ c ∧ c ≤ 9223372036854775807) ∧ Pairs wr wr.heap.size B n ys ∧ goodU ys = true ∧ wrongL s d l ys ys.length = []) ∧ Below w3.heap.size w3 wr) (fun _ i _ => len - (intOf i).toNat)
      case atStart => exact ⟨0, Nat.zero_le _, rfl, ⟨none, 0, 0, [], rfl, ⟨by omega, by omega⟩, ⟨rfl, fun h => absurd h (by omega)⟩, rfl, rfl⟩, Below.refl _ _⟩
      case round =>
        obtain ⟨k, hk, rfl, ⟨B, n, c, ys, rfl, ⟨hc1, hc2⟩, hP, hgy, hwy⟩, hb⟩ := hrel
        have hb' := hb
        have HP := Lib.hid hP
        have HGY := Lib.hid hgy
        have HWY := Lib.hid hwy
        clear hP hgy hwy
        have hB_wr : Below w.heap.size w wr := (by repeat (first | exact Below.refl _ _ | assumption | refine Below.setCell ?_ (by first | (simp; done) | (simp; omega) | omega) _ | refine Below.drew ?_ | refine below_drewN ?_ _ | refine Below.alloc ?_ (by first | (simp; done) | (simp; omega) | omega) _ | refine below_alloc ?_ _ | refine below_step ?_ (by assumption))); have hz_wr := hB_wr.size; have hswr0 : w.heap.size < wr.heap.size := Nat.lt_of_lt_of_le (by first | (simp; done) | (simp; omega) | omega) hb.size; have hnwr0 : ¬ w.heap.size = wr.heap.size := (by omega); have hmwr0 : ¬ wr.heap.size = w.heap.size := (by omega); have hlwr0_0 : w.heap.size ≤ wr.heap.size := (by omega); have hlwr0_1 : w.heap.size ≤ wr.heap.size + 1 := (by omega); have hlwr0_2 : w.heap.size ≤ wr.heap.size + 1 + 1 := (by omega); have hkwr0 : wr.cell? ⟨w.heap.size, 0, none⟩ = some (.int .i64 s) := (by rw [hb.cell (p := ⟨w.heap.size, 0, none⟩) (by first | (simp; done) | (simp; omega) | omega)]; first | (go_simp; done) | assumption); have hkwr1 : wr.cell? ⟨w.heap.size, 1, none⟩ = some (.int .i64 d) := (by rw [hb.cell (p := ⟨w.heap.size, 1, none⟩) (by first | (simp; done) | (simp; omega) | omega)]; first | (go_simp; done) | assumption); have hkwr2 : wr.cell? ⟨w.heap.size, 2, none⟩ = some (.int .i64 l) := (by rw [hb.cell (p := ⟨w.heap.size, 2, none⟩) (by first | (simp; done) | (simp; omega) | omega)]; first | (go_simp; done) | assumption); clear hb hB_w3 hlw30_0 hlw30_1 hlw30_2 hkw30 hkw31 hkw32
        have hw3 : w.heap.size ≤ w3.heap.size := hz_w3
        by_cases hlt : k < len
        · obtain ⟨b, off, rfl, hb0, hd1, hd2⟩ := (HX.out.below hB_wr).at_ k hlt
          have hbl : b < wr.heap.size := by omega
          generalize us[k]?.getD (0,0) = X at *
          obtain ⟨X, Y⟩ := X
          dsimp only at hd1 hd2
          have hk1 : (k : Int) < len := by omega
          have hk2 : ¬ len ≤ k := by omega
          have c3 := fun (W : World) (hW : W = wr.drew) => Used_any s d l B n c ys X Y W ⟨hc1, hc2⟩ (by subst hW; exact HP.out.below (Below.refl _ _).drew)
          have hkeep := used_keeps (s := s) (d := d) (l := l) (day := X) (ld := Y) HGY.out HWY.out
          generalize usedR s d l ys X Y = R3 at *
          generalize usedE s d l ys X Y = E3 at *
          have C3 := Lib.hid c3
          have HK := Lib.hid hkeep
          clear c3 hkeep
          go_wp2
          have hbd : Below wr.heap.size wr wr.drew := (Below.refl _ _).drew
          go_region_with (go_at_call 58; refine (C3.out _ rfl).mono ?_; rintro e w5 ⟨⟨B5, m5, k5, rfl, ⟨hm5, hm6⟩, hI5⟩, hb⟩; have hb5 := hbd.trans (hb.mono (by simp)); have hb6 := hb'.trans (hb5.mono hb'.size); have HI5 := Lib.hid hI5; have HP5 := Lib.hid ((HP.out.below hb5).more hb5.size); clear hI5)
          all_goals
            by_cases hE : E3 = 0
            · obtain ⟨q1, q2⟩ := HK.out hE
              have hE' : (E3 == 0) = true := by simpa using hE
              have Q1 := Lib.hid q1
              have Q2 := Lib.hid q2
              clear q1 q2 hE
              go_wp2
              go_roundw
              case rel => exact ⟨k + 1, by omega, by go_num, ⟨B5, m5, k5, R3, rfl, ⟨hm5, hm6⟩, HI5.out, Q1.out, Q2.out⟩, hb6⟩
              case measure => simp [intOf]; omega
            · have hE' : (E3 == 0) = false := by simpa using hE
              clear hE
              go_wp2
              go_roundw
              case rel => exact ⟨k + 1, by omega, by go_num, ⟨B, n, c, ys, rfl, ⟨hc1, hc2⟩, HP5.out, HGY.out, HWY.out⟩, hb6⟩
              case measure => simp [intOf]; omega
        · have c4 := Wrong_any s d l B n c ys wr ⟨hc1, hc2⟩ HP.out
          obtain ⟨hn1, hn2⟩ := wrong_none HGY.out HWY.out
          rw [hn1, hn2] at c4
          have C4 := Lib.hid c4
          clear c4 hn1 hn2
          by_cases hg : goodR s d l = true
          · rw [hg, if_pos rfl] at C4
            go_wp2_with fail
            refine C4.out.mono ?_
            rintro e w5 ⟨⟨B5, m5, k5, rfl, ⟨hm5, hm6⟩, hI5⟩, hb⟩
            obtain rfl : m5 = 0 := hI5.1.symm
            clear hI5
            have hB_w5 : Below w.heap.size w w5 := (by repeat (first | exact Below.refl _ _ | assumption | refine Below.setCell ?_ (by first | (simp; done) | (simp; omega) | omega) _ | refine Below.drew ?_ | refine below_drewN ?_ _ | refine Below.alloc ?_ (by first | (simp; done) | (simp; omega) | omega) _ | refine below_alloc ?_ _ | refine below_step ?_ (by assumption))); have hz_w5 := hB_w5.size; clear hb hB_wr hlwr0_0 hlwr0_1 hlwr0_2 hkwr0 hkwr1 hkwr2
            go_wp2_with (go_at_call 26; refine (awake_any _).mono ?_; rintro e w10 ⟨rfl, hb6⟩)
            go_ret
            exact ⟨rfl, (by repeat (first | exact Below.refl _ _ | assumption | refine Below.setCell ?_ (by first | (simp; done) | (simp; omega) | omega) _ | refine Below.drew ?_ | refine below_drewN ?_ _ | refine Below.alloc ?_ (by first | (simp; done) | (simp; omega) | omega) _ | refine below_alloc ?_ _ | refine below_step ?_ (by assumption)))⟩
          · have hg' : goodR s d l = false := by simpa using hg
            rw [hg'] at C4 C9
            rw [if_neg (by decide)] at C4
            go_wp2_with fail
            refine C4.out.mono ?_
            rintro e w5 ⟨⟨B5, m5, k5, rfl, ⟨hm5, hm6⟩, hI5⟩, hb⟩
            clear hI5
            have hB_w5 : Below w.heap.size w w5 := (by repeat (first | exact Below.refl _ _ | assumption | refine Below.setCell ?_ (by first | (simp; done) | (simp; omega) | omega) _ | refine Below.drew ?_ | refine below_drewN ?_ _ | refine Below.alloc ?_ (by first | (simp; done) | (simp; omega) | omega) _ | refine below_alloc ?_ _ | refine below_step ?_ (by assumption))); have hz_w5 := hB_w5.size; have hsw50 : w.heap.size < w5.heap.size := Nat.lt_of_lt_of_le (by first | (simp; done) | (simp; omega) | omega) hb.size; have hnw50 : ¬ w.heap.size = w5.heap.size := (by omega); have hmw50 : ¬ w5.heap.size = w.heap.size := (by omega); have hlw50_0 : w.heap.size ≤ w5.heap.size := (by omega); have hlw50_1 : w.heap.size ≤ w5.heap.size + 1 := (by omega); have hlw50_2 : w.heap.size ≤ w5.heap.size + 1 + 1 := (by omega); have hkw50 : w5.cell? ⟨w.heap.size, 0, none⟩ = some (.int .i64 s) := (by rw [hb.cell (p := ⟨w.heap.size, 0, none⟩) (by first | (simp; done) | (simp; omega) | omega)]; first | (go_simp; done) | assumption); have hkw51 : w5.cell? ⟨w.heap.size, 1, none⟩ = some (.int .i64 d) := (by rw [hb.cell (p := ⟨w.heap.size, 1, none⟩) (by first | (simp; done) | (simp; omega) | omega)]; first | (go_simp; done) | assumption); have hkw52 : w5.cell? ⟨w.heap.size, 2, none⟩ = some (.int .i64 l) := (by rw [hb.cell (p := ⟨w.heap.size, 2, none⟩) (by first | (simp; done) | (simp; omega) | omega)]; first | (go_simp; done) | assumption); clear hb hB_wr hlwr0_0 hlwr0_1 hlwr0_2 hkwr0 hkwr1 hkwr2
            go_wp2_with fail
            refine (C9.out _).mono ?_
            rintro e w6 ⟨rfl, hb⟩
            have hB_w6 : Below w.heap.size w w6 := (by repeat (first | exact Below.refl _ _ | assumption | refine Below.setCell ?_ (by first | (simp; done) | (simp; omega) | omega) _ | refine Below.drew ?_ | refine below_drewN ?_ _ | refine Below.alloc ?_ (by first | (simp; done) | (simp; omega) | omega) _ | refine below_alloc ?_ _ | refine below_step ?_ (by assumption))); have hz_w6 := hB_w6.size; clear hb hB_w5 hlw50_0 hlw50_1 hlw50_2 hkw50 hkw51 hkw52
            go_wp2_with (go_at_call 26; refine (awake_any _).mono ?_; rintro e w10 ⟨rfl, hb6⟩)
            go_ret
            exact ⟨rfl, (by repeat (first | exact Below.refl _ _ | assumption | refine Below.setCell ?_ (by first | (simp; done) | (simp; omega) | omega) _ | refine Below.drew ?_ | refine below_drewN ?_ _ | refine Below.alloc ?_ (by first | (simp; done) | (simp; omega) | omega) _ | refine below_alloc ?_ _ | refine below_step ?_ (by assumption)))⟩
end Go.Proofs.Ythninhkimhnegaa
