/- Parts: the program's and the reference's. -/
import Derived.Test.YthninhkimhnegaaTackle
set_option linter.unusedSimpArgs false
set_option linter.unusedVariables false
namespace Go.Proofs.Ythninhkimhnegaa
open Go.RowKit

/-- The first n from n on, of m numbers, for which f. -/
def firstFrom (f : Nat → Bool) : Nat → Nat → Option Nat
  | 0, _ => none
  | m + 1, n => if f n then some n else firstFrom f m (n + 1)
theorem firstFrom_yes {f : Nat → Bool} {m n : Nat} (h : f n = true) : firstFrom f (m + 1) n = some n := by simp [firstFrom, h]
theorem firstFrom_no {f : Nat → Bool} {m n : Nat} (h : f n = false) : firstFrom f (m + 1) n = firstFrom f m (n + 1) := by simp [firstFrom, h]
def optR : Option Nat → Int × Int
  | some n => (n, 0)
  | none => (0, 8)
def partB (k load most : Int) (n : Nat) : Bool := decide (load * 100 ^ (n - 1) ≤ sumT n k * most)
def partsR (k load most : Int) : Int × Int :=
  if withinB k 1 100 && (okLoad load && okLoad most) then optR (firstFrom (partB k load most) 6 1) else (0, 7)

set_option maxHeartbeats 1000000 in
theorem Parts_any (k load most : Int) (w : World) :
    Calls Try.prog 27 #[.int .i64 k, .int .i64 load, .int .i64 most] w fun e w' => e = .returned (.tuple #[.int .i64 (partsR k load most).1, .int .i64 (partsR k load most).2]) ∧ Below w.heap.size w w' := by
  by_cases hk : withinB k 1 100 = true
  · by_cases hl : (okLoad load && okLoad most) = true
    · have hf : partsR k load most = optR (firstFrom (partB k load most) 6 1) := by simp only [partsR, hk, hl, Bool.and_self, if_true]
      rw [hf]
      obtain ⟨h3, h4⟩ := withinB_iff.1 hk
      have hl' := hl
      rw [Bool.and_eq_true] at hl'
      obtain ⟨h5, h6⟩ := okLoad_iff.1 hl'.1
      obtain ⟨h7, h8⟩ := okLoad_iff.1 hl'.2
      clear hf hl'
      generalize hF : firstFrom (partB k load most) 6 1 = F
      have HF := Lib.hid hF
      clear hF
      go_enter Try.func27, Try.ntmps27
      go_wp2_with (first | (go_at_call 63; refine (within_any _ _ _ _).mono ?_; rintro e w' ⟨rfl, rfl⟩) | (go_at_call 65; refine (loads2_any _ _ _ _).mono ?_; rintro e w' ⟨rfl, rfl⟩))
      go_loopw [8] (fun i wr => ∃ n : Nat, i = .int .i64 n ∧ 1 ≤ n ∧ n ≤ 7 ∧ firstFrom (partB k load most) (7 - n) n = F ∧ Below w.heap.size w wr) (fun i _ => 7 - (intOf i).toNat)
      case atStart => exact ⟨1, rfl, by omega, by omega, HF.out, (by repeat (first | exact Below.refl _ _ | assumption | refine Below.setCell ?_ (by first | (simp; done) | (simp; omega) | omega) _ | refine Below.drew ?_ | refine below_drewN ?_ _ | refine Below.alloc ?_ (by first | (simp; done) | (simp; omega) | omega) _ | refine below_step ?_ (by assumption)))⟩
      case round =>
        obtain ⟨n, rfl, hn1, hn7, hF', hB0⟩ := hrel
        have HF' := Lib.hid hF'
        have hsz0 := hB0.size
        clear HF hF'
        by_cases hlt : n ≤ 6
        · have c1 := fun W => lifted_any n k most W hn1 hlt h3 h4 h7 h8
          have c2 := fun W => unit_any n k W hn1 hlt
          have hp := pow100_le (m := n - 1) (by omega)
          have hsm := sumT_mul hn1 hlt h3 h4 h7 h8
          have hm := load_mul h5 h6 hp.1 hp.2
          have hd : partB k load most n = decide (load * 100 ^ (n - 1) ≤ sumT n k * most) := rfl
          generalize sumT n k * most = S at *
          generalize (100 : Int) ^ (n - 1) = U at *
          have HD := Lib.hid hd
          have C1 := Lib.hid c1
          have C2 := Lib.hid c2
          clear c1 c2 hd
          by_cases ht : load * U ≤ S
          · have hw : IntKind.i64.wrap (load * U) = load * U := IntWalk.i64_in _ (by omega)
            go_wp2_with fail
            go_region_with (first | (go_at_call 67; refine (C1.out _).mono ?_; rintro e w1 ⟨rfl, hb⟩; have hB_w1 : Below w.heap.size w w1 := (by repeat (first | exact Below.refl _ _ | assumption | refine Below.setCell ?_ (by first | (simp; done) | (simp; omega) | omega) _ | refine Below.drew ?_ | refine below_drewN ?_ _ | refine Below.alloc ?_ (by first | (simp; done) | (simp; omega) | omega) _ | refine below_step ?_ (by assumption))); have hsw10 : wr.heap.size < w1.heap.size := Nat.lt_of_lt_of_le (by first | (simp; done) | (simp; omega) | omega) hb.size; have hkw10 : w1.cell? ⟨wr.heap.size, 0, none⟩ = some (.int .i64 n) := (by rw [hb.cell (p := ⟨wr.heap.size, 0, none⟩) (by first | (simp; done) | (simp; omega) | omega)]; first | (go_simp; done) | assumption); have hkw11 : w1.cell? ⟨wr.heap.size, 1, none⟩ = some (.int .i64 k) := (by rw [hb.cell (p := ⟨wr.heap.size, 1, none⟩) (by first | (simp; done) | (simp; omega) | omega)]; first | (go_simp; done) | assumption); clear hb) | (go_at_call 68; refine (C2.out _).mono ?_; rintro e w1 ⟨rfl, hb⟩; have hB_w1 : Below w.heap.size w w1 := (by repeat (first | exact Below.refl _ _ | assumption | refine Below.setCell ?_ (by first | (simp; done) | (simp; omega) | omega) _ | refine Below.drew ?_ | refine below_drewN ?_ _ | refine Below.alloc ?_ (by first | (simp; done) | (simp; omega) | omega) _ | refine below_step ?_ (by assumption))); have hsw10 : wr.heap.size < w1.heap.size := Nat.lt_of_lt_of_le (by first | (simp; done) | (simp; omega) | omega) hb.size; have hkw10 : w1.cell? ⟨wr.heap.size, 0, none⟩ = some (.int .i64 n) := (by rw [hb.cell (p := ⟨wr.heap.size, 0, none⟩) (by first | (simp; done) | (simp; omega) | omega)]; first | (go_simp; done) | assumption); have hkw11 : w1.cell? ⟨wr.heap.size, 1, none⟩ = some (.int .i64 k) := (by rw [hb.cell (p := ⟨wr.heap.size, 1, none⟩) (by first | (simp; done) | (simp; omega) | omega)]; first | (go_simp; done) | assumption); clear hb))
            all_goals
              go_wp2
              go_ret2
              refine ⟨ret1 ?_, (by repeat (first | exact Below.refl _ _ | assumption | refine Below.setCell ?_ (by first | (simp; done) | (simp; omega) | omega) _ | refine Below.drew ?_ | refine below_drewN ?_ _ | refine Below.alloc ?_ (by first | (simp; done) | (simp; omega) | omega) _ | refine below_step ?_ (by assumption)))⟩
              have h := HF'.out
              rw [show 7 - n = (6 - n) + 1 by omega, firstFrom_yes (by rw [HD.out]; simpa using ht)] at h
              rw [← h]; rfl
          · have hw : IntKind.i64.wrap (load * U) = load * U := IntWalk.i64_in _ (by omega)
            go_wp2_with fail
            go_region_with (first | (go_at_call 67; refine (C1.out _).mono ?_; rintro e w1 ⟨rfl, hb⟩; have hB_w1 : Below w.heap.size w w1 := (by repeat (first | exact Below.refl _ _ | assumption | refine Below.setCell ?_ (by first | (simp; done) | (simp; omega) | omega) _ | refine Below.drew ?_ | refine below_drewN ?_ _ | refine Below.alloc ?_ (by first | (simp; done) | (simp; omega) | omega) _ | refine below_step ?_ (by assumption))); have hsw10 : wr.heap.size < w1.heap.size := Nat.lt_of_lt_of_le (by first | (simp; done) | (simp; omega) | omega) hb.size; have hkw10 : w1.cell? ⟨wr.heap.size, 0, none⟩ = some (.int .i64 n) := (by rw [hb.cell (p := ⟨wr.heap.size, 0, none⟩) (by first | (simp; done) | (simp; omega) | omega)]; first | (go_simp; done) | assumption); have hkw11 : w1.cell? ⟨wr.heap.size, 1, none⟩ = some (.int .i64 k) := (by rw [hb.cell (p := ⟨wr.heap.size, 1, none⟩) (by first | (simp; done) | (simp; omega) | omega)]; first | (go_simp; done) | assumption); clear hb) | (go_at_call 68; refine (C2.out _).mono ?_; rintro e w1 ⟨rfl, hb⟩; have hB_w1 : Below w.heap.size w w1 := (by repeat (first | exact Below.refl _ _ | assumption | refine Below.setCell ?_ (by first | (simp; done) | (simp; omega) | omega) _ | refine Below.drew ?_ | refine below_drewN ?_ _ | refine Below.alloc ?_ (by first | (simp; done) | (simp; omega) | omega) _ | refine below_step ?_ (by assumption))); have hsw10 : wr.heap.size < w1.heap.size := Nat.lt_of_lt_of_le (by first | (simp; done) | (simp; omega) | omega) hb.size; have hkw10 : w1.cell? ⟨wr.heap.size, 0, none⟩ = some (.int .i64 n) := (by rw [hb.cell (p := ⟨wr.heap.size, 0, none⟩) (by first | (simp; done) | (simp; omega) | omega)]; first | (go_simp; done) | assumption); have hkw11 : w1.cell? ⟨wr.heap.size, 1, none⟩ = some (.int .i64 k) := (by rw [hb.cell (p := ⟨wr.heap.size, 1, none⟩) (by first | (simp; done) | (simp; omega) | omega)]; first | (go_simp; done) | assumption); clear hb))
            all_goals
              go_wp2
              go_roundw
              case rel =>
                have h := HF'.out
                rw [show 7 - n = (6 - n) + 1 by omega, firstFrom_no (by rw [HD.out]; simp; omega)] at h
                exact ⟨n + 1, by go_num, by omega, by omega, by rw [show 7 - (n + 1) = 6 - n by omega]; exact h, (by repeat (first | exact Below.refl _ _ | assumption | refine Below.setCell ?_ (by first | (simp; done) | (simp; omega) | omega) _ | refine Below.drew ?_ | refine below_drewN ?_ _ | refine Below.alloc ?_ (by first | (simp; done) | (simp; omega) | omega) _ | refine below_step ?_ (by assumption)))⟩
              case measure => simp [intOf]; omega
        · obtain rfl : n = 7 := by omega
          go_wp2
          go_ret2
          refine ⟨ret1 ?_, (by repeat (first | exact Below.refl _ _ | assumption | refine Below.setCell ?_ (by first | (simp; done) | (simp; omega) | omega) _ | refine Below.drew ?_ | refine below_drewN ?_ _ | refine Below.alloc ?_ (by first | (simp; done) | (simp; omega) | omega) _ | refine below_step ?_ (by assumption)))⟩
          rw [← HF'.out]; rfl
    · have hf : partsR k load most = (0, 7) := by simp [partsR, hl]
      rw [hf]
      go_enter Try.func27, Try.ntmps27
      go_wp2_with (first | (go_at_call 63; refine (within_any _ _ _ _).mono ?_; rintro e w' ⟨rfl, rfl⟩) | (go_at_call 65; refine (loads2_any _ _ _ _).mono ?_; rintro e w' ⟨rfl, rfl⟩))
      all_goals go_ret2
      all_goals exact ⟨rfl, (by repeat (first | exact Below.refl _ _ | assumption | refine Below.setCell ?_ (by first | (simp; done) | (simp; omega) | omega) _ | refine Below.drew ?_ | refine below_drewN ?_ _ | refine Below.alloc ?_ (by first | (simp; done) | (simp; omega) | omega) _ | refine below_step ?_ (by assumption)))⟩
  · have hf : partsR k load most = (0, 7) := by simp [partsR, hk]
    rw [hf]
    go_enter Try.func27, Try.ntmps27
    go_wp2_with (first | (go_at_call 63; refine (within_any _ _ _ _).mono ?_; rintro e w' ⟨rfl, rfl⟩) | (go_at_call 65; refine (loads2_any _ _ _ _).mono ?_; rintro e w' ⟨rfl, rfl⟩))
    all_goals go_ret2
    all_goals exact ⟨rfl, (by repeat (first | exact Below.refl _ _ | assumption | refine Below.setCell ?_ (by first | (simp; done) | (simp; omega) | omega) _ | refine Below.drew ?_ | refine below_drewN ?_ _ | refine Below.alloc ?_ (by first | (simp; done) | (simp; omega) | omega) _ | refine below_step ?_ (by assumption)))⟩

set_option maxHeartbeats 1000000 in
theorem rParts_any (k load most : Int) (w : World) :
    Calls Try.prog 28 #[.int .i64 k, .int .i64 load, .int .i64 most] w fun e w' => e = .returned (.tuple #[.int .i64 (partsR k load most).1, .int .i64 (partsR k load most).2]) ∧ Below w.heap.size w w' := by
  by_cases hk : withinB k 1 100 = true
  · by_cases hl : (okLoad load && okLoad most) = true
    · have hf : partsR k load most = optR (firstFrom (partB k load most) 6 1) := by simp only [partsR, hk, hl, Bool.and_self, if_true]
      rw [hf]
      obtain ⟨h3, h4⟩ := withinB_iff.1 hk
      rw [Bool.and_eq_true] at hl
      obtain ⟨h5, h6⟩ := okLoad_iff.1 hl.1
      obtain ⟨h7, h8⟩ := okLoad_iff.1 hl.2
      have hl1 := hl.1
      have hl2 := hl.2
      clear hf hl
      generalize hF : firstFrom (partB k load most) 6 1 = F
      have HF := Lib.hid hF
      clear hF
      go_enter Try.func28, Try.ntmps28
      go_wp2_with (first | (go_at_call 64; refine (rwithin_any _ _ _ _).mono ?_; rintro e w' ⟨rfl, rfl⟩) | (go_at_call 69; refine (okload_any _ _).mono ?_; rintro e w' ⟨rfl, rfl⟩))
      go_loopw [8] (fun i wr => ∃ n : Nat, i = .int .i64 n ∧ 1 ≤ n ∧ n ≤ 7 ∧ firstFrom (partB k load most) (7 - n) n = F ∧ Below w.heap.size w wr) (fun i _ => 7 - (intOf i).toNat)
      case atStart => exact ⟨1, rfl, by omega, by omega, HF.out, (by repeat (first | exact Below.refl _ _ | assumption | refine Below.setCell ?_ (by first | (simp; done) | (simp; omega) | omega) _ | refine Below.drew ?_ | refine below_drewN ?_ _ | refine Below.alloc ?_ (by first | (simp; done) | (simp; omega) | omega) _ | refine below_step ?_ (by assumption)))⟩
      case round =>
        obtain ⟨n, rfl, hn1, hn7, hF', hB0⟩ := hrel
        have HF' := Lib.hid hF'
        have hsz0 := hB0.size
        clear HF hF'
        by_cases hlt : n ≤ 6
        · have c1 := fun W => gain_any n k W hn1 hlt h3 h4
          have hp := pow100_le (m := n - 1) (by omega)
          have hsm := sumT_mul hn1 hlt h3 h4 h7 h8
          have hm := load_mul h5 h6 hp.1 hp.2
          have hd : partB k load most n = decide (load * 100 ^ (n - 1) ≤ sumT n k * most) := rfl
          rw [Int.mul_comm (sumT n k)] at hd hsm
          generalize sumT n k = S at *
          generalize (100 : Int) ^ (n - 1) = U at *
          have HD := Lib.hid hd
          have C1 := Lib.hid c1
          clear c1 hd
          by_cases ht : load * U ≤ most * S
          · go_wp2_with (first | (go_at_call 62; refine (C1.out _).mono ?_; rintro e w1 ⟨rfl, hb⟩; obtain ⟨hc, hf⟩ := bcell hb; have hlt := blt hb; have hz := hb.size; try simp at hz))
            go_ret2
            refine ⟨ret1 ?_, (by repeat (first | exact Below.refl _ _ | assumption | refine Below.setCell ?_ (by first | (simp; done) | (simp; omega) | omega) _ | refine Below.drew ?_ | refine below_drewN ?_ _ | refine Below.alloc ?_ (by first | (simp; done) | (simp; omega) | omega) _ | refine below_step ?_ (by assumption)))⟩
            have h := HF'.out
            rw [show 7 - n = (6 - n) + 1 by omega, firstFrom_yes (by rw [HD.out]; simpa using ht)] at h
            rw [← h]; rfl
          · go_wp2_with (first | (go_at_call 62; refine (C1.out _).mono ?_; rintro e w1 ⟨rfl, hb⟩; obtain ⟨hc, hf⟩ := bcell hb; have hlt := blt hb; have hz := hb.size; try simp at hz))
            go_roundw
            case rel =>
              have h := HF'.out
              rw [show 7 - n = (6 - n) + 1 by omega, firstFrom_no (by rw [HD.out]; simp; omega)] at h
              exact ⟨n + 1, by go_num, by omega, by omega, by rw [show 7 - (n + 1) = 6 - n by omega]; exact h, (by repeat (first | exact Below.refl _ _ | assumption | refine Below.setCell ?_ (by first | (simp; done) | (simp; omega) | omega) _ | refine Below.drew ?_ | refine below_drewN ?_ _ | refine Below.alloc ?_ (by first | (simp; done) | (simp; omega) | omega) _ | refine below_step ?_ (by assumption)))⟩
            case measure => simp [intOf]; omega
        · obtain rfl : n = 7 := by omega
          go_wp2
          go_ret2
          refine ⟨ret1 ?_, (by repeat (first | exact Below.refl _ _ | assumption | refine Below.setCell ?_ (by first | (simp; done) | (simp; omega) | omega) _ | refine Below.drew ?_ | refine below_drewN ?_ _ | refine Below.alloc ?_ (by first | (simp; done) | (simp; omega) | omega) _ | refine below_step ?_ (by assumption)))⟩
          rw [← HF'.out]; rfl
    · have hf : partsR k load most = (0, 7) := by simp [partsR, hl]
      rw [hf]
      by_cases h5 : okLoad load = true
      · have h6 : ¬ okLoad most = true := fun h => hl (by simp [h5, h])
        go_enter Try.func28, Try.ntmps28
        go_wp2_with (first | (go_at_call 64; refine (rwithin_any _ _ _ _).mono ?_; rintro e w' ⟨rfl, rfl⟩) | (go_at_call 69; refine (okload_any _ _).mono ?_; rintro e w' ⟨rfl, rfl⟩))
        go_ret2
        exact ⟨rfl, (by repeat (first | exact Below.refl _ _ | assumption | refine Below.setCell ?_ (by first | (simp; done) | (simp; omega) | omega) _ | refine Below.drew ?_ | refine below_drewN ?_ _ | refine Below.alloc ?_ (by first | (simp; done) | (simp; omega) | omega) _ | refine below_step ?_ (by assumption)))⟩
      · clear hl
        go_enter Try.func28, Try.ntmps28
        go_wp2_with (first | (go_at_call 64; refine (rwithin_any _ _ _ _).mono ?_; rintro e w' ⟨rfl, rfl⟩) | (go_at_call 69; refine (okload_any _ _).mono ?_; rintro e w' ⟨rfl, rfl⟩))
        go_ret2
        exact ⟨rfl, (by repeat (first | exact Below.refl _ _ | assumption | refine Below.setCell ?_ (by first | (simp; done) | (simp; omega) | omega) _ | refine Below.drew ?_ | refine below_drewN ?_ _ | refine Below.alloc ?_ (by first | (simp; done) | (simp; omega) | omega) _ | refine below_step ?_ (by assumption)))⟩
  · have hf : partsR k load most = (0, 7) := by simp [partsR, hk]
    rw [hf]
    go_enter Try.func28, Try.ntmps28
    go_wp2_with (first | (go_at_call 64; refine (rwithin_any _ _ _ _).mono ?_; rintro e w' ⟨rfl, rfl⟩) | (go_at_call 69; refine (okload_any _ _).mono ?_; rintro e w' ⟨rfl, rfl⟩))
    all_goals go_ret2
    all_goals exact ⟨rfl, (by repeat (first | exact Below.refl _ _ | assumption | refine Below.setCell ?_ (by first | (simp; done) | (simp; omega) | omega) _ | refine Below.drew ?_ | refine below_drewN ?_ _ | refine Below.alloc ?_ (by first | (simp; done) | (simp; omega) | omega) _ | refine below_step ?_ (by assumption)))⟩
end Go.Proofs.Ythninhkimhnegaa
