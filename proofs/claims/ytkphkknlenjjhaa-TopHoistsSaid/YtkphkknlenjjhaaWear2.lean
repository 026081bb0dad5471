/- What is left of a rope on a day; its safe load. -/
import Derived.Test.YtkphkknlenjjhaaWear
set_option linter.unusedSimpArgs false
set_option linter.unusedVariables false
namespace Go.Proofs.Ytkphkknlenjjhaa
open Go.RowKit
attribute [local go_sem] Later.cell

set_option maxRecDepth 20000 in
set_option maxHeartbeats 1000000 in
theorem left_any (s d l : Int) (A : Option Addr) (len cap : Nat) (us : List (Int × Int)) (day : Int) (w : World) (hm : len ≤ cap ∧ cap ≤ 9223372036854775807) (hx : Pairs w w.heap.size A len us)
    (hr : goodR s d l = true) (hu : goodU us = true) (h0 : 0 ≤ day) (h1 : day ≤ 100000) :
    Calls Try.prog 39 #[.agg #[.int .i64 s, .int .i64 d, .int .i64 l, .slice A len cap], .int .i64 day] w fun e w' => e = .returned (.int .i64 (leftR s d us day)) ∧ Below w.heap.size w w' := by
  obtain ⟨⟨r1, r2⟩, ⟨r3, r4⟩, r5, r6⟩ := goodR_spec hr
  obtain ⟨u1, u2, u3⟩ := goodU_spec hu
  have hlen := hx.1
  have hC := cutN_le us day len
  have hsum := cut_sum (s := s) (day := day) u3 us.length (Nat.le_refl _)
  rw [List.take_length, hlen] at hsum
  have c1 := fun W (h : Below w.heap.size w W) => until_any s d l A len cap us day W hm ((hx.below h).more h.size)
  have hT := hx.take (cutN us day len) hC
  have hls := lsum_bd r1 u2
  have hR : leftR s d us day = max 0 (1000 - (d * day + lsum s (us.take (cutN us day len)))) := by rw [hsum]; rfl
  rw [hR]
  have hp : 0 ≤ d * day ∧ d * day ≤ 1000 * 100000 := ⟨Int.mul_nonneg r3 h0, Int.mul_le_mul r4 h1 h0 (by decide)⟩
  have u2' : ∀ k, k < cutN us day len → 0 ≤ (us[k]?.getD (0,0)).2 ∧ (us[k]?.getD (0,0)).2 ≤ 1000000 := fun k hk => (u2 k (by omega)).2
  generalize cutN us day len = C at *
  have hgt : ∀ k, k < C → (us.take C)[k]?.getD (0,0) = us[k]?.getD (0,0) := fun k hk => by rw [List.getElem?_take, if_pos hk]
  have hss : ∀ k, k < C → lsum s (us.take (k+1)) = lsum s (us.take k) + cst s (us[k]?.getD (0,0)).2 := fun k hk => by rw [take_sn (by omega), lsum_snoc]
  have HX := Lib.hid hx
  have HT := Lib.hid hT
  have C1 := Lib.hid c1
  have HS := Lib.hid hls
  have HG := Lib.hid hgt
  have HSS := Lib.hid hss
  have HU := Lib.hid u2'
  clear hx hT c1 hls hgt hss u2' u2 u3 hsum hR hr hu
  go_enter Try.func39, Try.ntmps39
  go_wp2_with fail
  refine (C1.out _ (by repeat (first | exact Below.refl _ _ | assumption | refine Below.setCell ?_ (by first | (simp; done) | (simp; omega) | omega) _ | refine Below.drew ?_ | refine below_drewN ?_ _ | refine Below.alloc ?_ (by first | (simp; done) | (simp; omega) | omega) _ | refine below_alloc ?_ _ | refine below_step ?_ (by assumption)))).mono ?_
  rintro e w1 ⟨rfl, hb⟩
  have hB_w1 : Below w.heap.size w w1 := (by repeat (first | exact Below.refl _ _ | assumption | refine Below.setCell ?_ (by first | (simp; done) | (simp; omega) | omega) _ | refine Below.drew ?_ | refine below_drewN ?_ _ | refine Below.alloc ?_ (by first | (simp; done) | (simp; omega) | omega) _ | refine below_alloc ?_ _ | refine below_step ?_ (by assumption))); have hz_w1 := hB_w1.size; have hsw10 : w.heap.size < w1.heap.size := Nat.lt_of_lt_of_le (by first | (simp; done) | (simp; omega) | omega) hb.size; have hnw10 : ¬ w.heap.size = w1.heap.size := (by omega); have hmw10 : ¬ w1.heap.size = w.heap.size := (by omega); have hlw10_0 : w.heap.size ≤ w1.heap.size := (by omega); have hlw10_1 : w.heap.size ≤ w1.heap.size + 1 := (by omega); have hlw10_2 : w.heap.size ≤ w1.heap.size + 1 + 1 := (by omega); have hkw10 : w1.cell? ⟨w.heap.size, 0, none⟩ = some (.int .i64 s) := (by rw [hb.cell (p := ⟨w.heap.size, 0, none⟩) (by first | (simp; done) | (simp; omega) | omega)]; first | (go_simp; done) | assumption); have hkw11 : w1.cell? ⟨w.heap.size, 1, none⟩ = some (.int .i64 d) := (by rw [hb.cell (p := ⟨w.heap.size, 1, none⟩) (by first | (simp; done) | (simp; omega) | omega)]; first | (go_simp; done) | assumption); have hkw12 : w1.cell? ⟨w.heap.size, 2, none⟩ = some (.int .i64 l) := (by rw [hb.cell (p := ⟨w.heap.size, 2, none⟩) (by first | (simp; done) | (simp; omega) | omega)]; first | (go_simp; done) | assumption); have hkw13 : w1.cell? ⟨w.heap.size, 3, none⟩ = some (.slice A len cap) := (by rw [hb.cell (p := ⟨w.heap.size, 3, none⟩) (by first | (simp; done) | (simp; omega) | omega)]; first | (go_simp; done) | assumption); clear hb
  have hfd : ∀ W : World, (Instr.field 74 (.agg #[.int .i64 s, .int .i64 d, .int .i64 l, .slice A C C]) 1).run Try.prog W = .ok (.slice A C C) W := fun _ => by kernel_rfl
  go_wp2_with fail
  clear hfd
  go_loopw [5, 18] (fun t i wr => ∃ k : Nat, k ≤ C ∧ i = .int .i64 k ∧ t = .int .i64 (d * day + lsum s (us.take k)) ∧ Below w1.heap.size w1 wr) (fun _ i _ => C - (intOf i).toNat)
  case atStart => exact ⟨0, Nat.zero_le _, rfl, by simp [lsum], Below.refl _ _⟩
  case round =>
    obtain ⟨k, hk, rfl, rfl, hb⟩ := hrel
    have hbs := hb.size
    have h5 := HS.out k (by omega)
    by_cases hlt : k < C
    · have HT2 := (HT.out.below hB_w1).below (hb.mono hz_w1)
      obtain ⟨b, off, rfl, hb0, hc1, hc2⟩ := HT2.at_ k hlt
      rw [HG.out k hlt] at hc1 hc2
      have h6 := HSS.out k hlt
      have h7 := HU.out k hlt
      have h8 := HS.out (k+1) (by omega)
      rw [h6] at h8
      have H6 := Lib.hid h6
      clear h6 HT2
      generalize us[k]?.getD (0,0) = X at *
      obtain ⟨X, Y⟩ := X
      dsimp only at hc1 hc2 h7 h8 H6
      have hq : Hid (cst s Y = (Y * 100 + s - 1) / s) := rfl
      rw [hq.out] at h8
      have hq2 := cst_bd r1 h7.1 h7.2
      rw [hq.out] at hq2
      generalize lsum s (us.take k) = S at *
      have hb' := hb
      have hB_wr : Below w.heap.size w wr := (by repeat (first | exact Below.refl _ _ | assumption | refine Below.setCell ?_ (by first | (simp; done) | (simp; omega) | omega) _ | refine Below.drew ?_ | refine below_drewN ?_ _ | refine Below.alloc ?_ (by first | (simp; done) | (simp; omega) | omega) _ | refine below_alloc ?_ _ | refine below_step ?_ (by assumption))); have hz_wr := hB_wr.size; have hswr0 : w.heap.size < wr.heap.size := Nat.lt_of_lt_of_le (by first | (simp; done) | (simp; omega) | omega) hb.size; have hnwr0 : ¬ w.heap.size = wr.heap.size := (by omega); have hmwr0 : ¬ wr.heap.size = w.heap.size := (by omega); have hlwr0_0 : w.heap.size ≤ wr.heap.size := (by omega); have hlwr0_1 : w.heap.size ≤ wr.heap.size + 1 := (by omega); have hlwr0_2 : w.heap.size ≤ wr.heap.size + 1 + 1 := (by omega); have hkwr0 : wr.cell? ⟨w.heap.size, 0, none⟩ = some (.int .i64 s) := (by rw [hb.cell (p := ⟨w.heap.size, 0, none⟩) (by first | (simp; done) | (simp; omega) | omega)]; first | (go_simp; done) | assumption); have hkwr1 : wr.cell? ⟨w.heap.size, 1, none⟩ = some (.int .i64 d) := (by rw [hb.cell (p := ⟨w.heap.size, 1, none⟩) (by first | (simp; done) | (simp; omega) | omega)]; first | (go_simp; done) | assumption); have hkwr2 : wr.cell? ⟨w.heap.size, 2, none⟩ = some (.int .i64 l) := (by rw [hb.cell (p := ⟨w.heap.size, 2, none⟩) (by first | (simp; done) | (simp; omega) | omega)]; first | (go_simp; done) | assumption); have hkwr3 : wr.cell? ⟨w.heap.size, 3, none⟩ = some (.slice (some ⟨b, off, none⟩) len cap) := (by rw [hb.cell (p := ⟨w.heap.size, 3, none⟩) (by first | (simp; done) | (simp; omega) | omega)]; first | (go_simp; done) | assumption); clear hb hB_w1 hlw10_0 hlw10_1 hlw10_2 hkw10 hkw11 hkw12 hkw13
      have hnz : ¬ s = 0 := by omega
      have hbl : b < wr.heap.size := by omega
      go_wp2
      go_roundw
      case rel => exact ⟨k + 1, by omega, by go_num, by rw [H6.out, hq.out, Int.add_assoc], (Below.alloc hb' (by omega) _)⟩
      case measure => simp [intOf]; omega
    · have hkC : k = C := by omega
      subst hkC
      have hSv : Hid (lsum s (us.take k) = lsum s (us.take k)) := rfl
      generalize hSS2 : lsum s (us.take k) = S at h5 ⊢
      have HS2 := Lib.hid hSS2
      clear hSS2
      go_wp2
      all_goals
        go_ret
        exact ⟨ret_int (by rw [HS2.out]; omega), (by repeat (first | exact Below.refl _ _ | assumption | refine Below.setCell ?_ (by first | (simp; done) | (simp; omega) | omega) _ | refine Below.drew ?_ | refine below_drewN ?_ _ | refine Below.alloc ?_ (by first | (simp; done) | (simp; omega) | omega) _ | refine below_alloc ?_ _ | refine below_step ?_ (by assumption)))⟩
end Go.Proofs.Ytkphkknlenjjhaa
