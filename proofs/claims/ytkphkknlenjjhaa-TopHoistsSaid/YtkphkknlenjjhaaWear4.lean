/- Ropes: Left, May, Safe of the program and of the reference. -/
import Derived.Test.YtkphkknlenjjhaaWear3
set_option linter.unusedSimpArgs false
set_option linter.unusedVariables false
namespace Go.Proofs.Ytkphkknlenjjhaa
open Go.RowKit
attribute [local go_sem] Later.cell

theorem err_zero (s d l : Int) (us : List (Int × Int)) (day : Int) : errR s d l us day 0 = askR s d l us day := by
  unfold errR askR
  rw [show okLoad 0 = true by decide, Bool.and_true]
theorem ask_spec {s d l : Int} {us : List (Int × Int)} {day : Int} (h : askR s d l us day = 0) : goodR s d l = true ∧ goodU us = true ∧ 0 ≤ day ∧ day ≤ 100000 := by
  unfold askR at h
  split at h
  · rename_i h1
    rw [Bool.and_eq_true] at h1
    split at h
    · rename_i h2
      exact ⟨h1.1, h1.2, withinB_iff.1 h2⟩
    · cases h
  · cases h
theorem err_spec {s d l : Int} {us : List (Int × Int)} {day ld : Int} (h : errR s d l us day ld = 0) : goodR s d l = true ∧ goodU us = true ∧ (0 ≤ day ∧ day ≤ 100000) ∧ 0 ≤ ld ∧ ld ≤ 1000000 := by
  unfold errR at h
  split at h
  · rename_i h1
    rw [Bool.and_eq_true] at h1
    split at h
    · rename_i h2
      rw [Bool.and_eq_true] at h2
      exact ⟨h1.1, h1.2, withinB_iff.1 h2.1, okLoad_iff.1 h2.2⟩
    · cases h
  · cases h
theorem err_ask {s d l : Int} {us : List (Int × Int)} {day ld : Int} : errR s d l us day ld = if askR s d l us day = 0 then (if okLoad ld then 0 else 7) else askR s d l us day := by
  unfold errR askR
  cases goodR s d l && goodU us <;> cases withinB day 0 100000 <;> cases okLoad ld <;> decide
theorem ask_bd (s d l : Int) (us : List (Int × Int)) (day : Int) : 0 ≤ askR s d l us day ∧ askR s d l us day ≤ 7 := by
  unfold askR
  split
  · split <;> omega
  · omega

def leftV (s d l : Int) (us : List (Int × Int)) (day : Int) : Int := if askR s d l us day = 0 then leftR s d us day else 0
/-- Whether a rope may bear a load. -/
def mayR (s d l : Int) (us : List (Int × Int)) (day ld : Int) : Bool := decide (l ≤ leftR s d us day) && decide (5000 * ld ≤ s * leftR s d us day)
def mayV (s d l : Int) (us : List (Int × Int)) (day ld : Int) : Bool := if errR s d l us day ld = 0 then mayR s d l us day ld else false
def safeE (s d l : Int) (us : List (Int × Int)) (day : Int) : Int := if askR s d l us day = 0 then (if leftR s d us day < l then 10 else 0) else askR s d l us day
def safeV (s d l : Int) (us : List (Int × Int)) (day : Int) : Int := if askR s d l us day = 0 then (if leftR s d us day < l then 0 else s * leftR s d us day / 5000) else 0
theorem safe_may {s d l : Int} {us : List (Int × Int)} {day ld : Int} (h : 0 ≤ ld) : decide (ld ≤ safeR s d l us day) = mayR s d l us day ld := by
  unfold safeR mayR
  by_cases h1 : leftR s d us day < l
  · rw [if_pos h1, decide_eq_false (by omega), decide_eq_false (by omega), Bool.false_and]
  · rw [if_neg h1, decide_eq_true (show l ≤ leftR s d us day by omega), Bool.true_and]
    generalize s * leftR s d us day = x
    exact decide_eq_decide.2 (by omega)

set_option maxHeartbeats 1000000 in
theorem May_any (s d l : Int) (A : Option Addr) (len cap : Nat) (us : List (Int × Int)) (day ld : Int) (w : World) (hm : len ≤ cap ∧ cap ≤ 9223372036854775807) (hx : Pairs w w.heap.size A len us) :
    Calls Try.prog 8 #[.agg #[.int .i64 s, .int .i64 d, .int .i64 l], .slice A len cap, .int .i64 day, .int .i64 ld] w fun e w' => e = .returned (.tuple #[.bool (mayV s d l us day ld), .int .i64 (errR s d l us day ld)]) ∧ Below w.heap.size w w' := by
  have c1 := fun W (h : Below w.heap.size w W) => asked_any s d l A len cap us day W hm ((hx.below h).more h.size)
  have hea := err_ask (s := s) (d := d) (l := l) (us := us) (day := day) (ld := ld)
  by_cases he : askR s d l us day = 0
  · obtain ⟨g1, g2, g3, g4⟩ := ask_spec he
    rw [if_pos he] at hea
    by_cases hl : okLoad ld = true
    · have c2 := fun W (h : Below w.heap.size w W) => safe_any s d l A len cap us day W hm ((hx.below h).more h.size) g1 g2 g3 g4
      rw [if_pos hl] at hea
      have hv : mayV s d l us day ld = decide (ld ≤ safeR s d l us day) := by rw [safe_may (okLoad_iff.1 hl).1]; exact if_pos hea
      rw [hv, hea]
      rw [he] at c1
      clear hv he g1 g2 hea
      generalize safeR s d l us day = L at *
      have C1 := Lib.hid c1
      have C2 := Lib.hid c2
      clear c1 c2 hx
      go_enter Try.func8, Try.ntmps8
      go_wp2_with fail
      refine (C1.out _ (by repeat (first | exact Below.refl _ _ | assumption | refine Below.setCell ?_ (by first | (simp; done) | (simp; omega) | omega) _ | refine Below.drew ?_ | refine below_drewN ?_ _ | refine Below.alloc ?_ (by first | (simp; done) | (simp; omega) | omega) _ | refine below_alloc ?_ _ | refine below_step ?_ (by assumption)))).mono ?_
      rintro e w1 ⟨rfl, hb⟩
      have hB_w1 : Below w.heap.size w w1 := (by repeat (first | exact Below.refl _ _ | assumption | refine Below.setCell ?_ (by first | (simp; done) | (simp; omega) | omega) _ | refine Below.drew ?_ | refine below_drewN ?_ _ | refine Below.alloc ?_ (by first | (simp; done) | (simp; omega) | omega) _ | refine below_alloc ?_ _ | refine below_step ?_ (by assumption))); have hz_w1 := hB_w1.size; have hsw10 : w.heap.size < w1.heap.size := Nat.lt_of_lt_of_le (by first | (simp; done) | (simp; omega) | omega) hb.size; have hnw10 : ¬ w.heap.size = w1.heap.size := (by omega); have hmw10 : ¬ w1.heap.size = w.heap.size := (by omega); have hlw10_0 : w.heap.size ≤ w1.heap.size := (by omega); have hlw10_1 : w.heap.size ≤ w1.heap.size + 1 := (by omega); have hlw10_2 : w.heap.size ≤ w1.heap.size + 1 + 1 := (by omega); have hkw10 : w1.cell? ⟨w.heap.size, 0, none⟩ = some (.int .i64 s) := (by rw [hb.cell (p := ⟨w.heap.size, 0, none⟩) (by first | (simp; done) | (simp; omega) | omega)]; first | (go_simp; done) | assumption); have hkw11 : w1.cell? ⟨w.heap.size, 1, none⟩ = some (.int .i64 d) := (by rw [hb.cell (p := ⟨w.heap.size, 1, none⟩) (by first | (simp; done) | (simp; omega) | omega)]; first | (go_simp; done) | assumption); have hkw12 : w1.cell? ⟨w.heap.size, 2, none⟩ = some (.int .i64 l) := (by rw [hb.cell (p := ⟨w.heap.size, 2, none⟩) (by first | (simp; done) | (simp; omega) | omega)]; first | (go_simp; done) | assumption); clear hb
      go_wp2_with (go_at_call 18; refine (loads1_at _ _ _ _ (by simp)).mono ?_; rintro e w' ⟨rfl, rfl⟩)
      refine (C2.out _ (by repeat (first | exact Below.refl _ _ | assumption | refine Below.setCell ?_ (by first | (simp; done) | (simp; omega) | omega) _ | refine Below.drew ?_ | refine below_drewN ?_ _ | refine Below.alloc ?_ (by first | (simp; done) | (simp; omega) | omega) _ | refine below_alloc ?_ _ | refine below_step ?_ (by assumption)))).mono ?_
      rintro e w2 ⟨rfl, hb⟩
      have hB_w2 : Below w.heap.size w w2 := (by repeat (first | exact Below.refl _ _ | assumption | refine Below.setCell ?_ (by first | (simp; done) | (simp; omega) | omega) _ | refine Below.drew ?_ | refine below_drewN ?_ _ | refine Below.alloc ?_ (by first | (simp; done) | (simp; omega) | omega) _ | refine below_alloc ?_ _ | refine below_step ?_ (by assumption))); have hz_w2 := hB_w2.size; clear hb hB_w1 hlw10_0 hlw10_1 hlw10_2 hkw10 hkw11 hkw12
      go_wp2
      go_ret2
      exact ⟨rfl, (by repeat (first | exact Below.refl _ _ | assumption | refine Below.setCell ?_ (by first | (simp; done) | (simp; omega) | omega) _ | refine Below.drew ?_ | refine below_drewN ?_ _ | refine Below.alloc ?_ (by first | (simp; done) | (simp; omega) | omega) _ | refine below_alloc ?_ _ | refine below_step ?_ (by assumption)))⟩
    · rw [if_neg hl] at hea
      have hv : mayV s d l us day ld = false := if_neg (by rw [hea]; decide)
      rw [hv, hea]
      rw [he] at c1
      have hl' : okLoad ld = false := by simpa using hl
      have C1 := Lib.hid c1
      clear c1 hx hv he g1 g2 hea hl
      go_enter Try.func8, Try.ntmps8
      go_wp2_with fail
      refine (C1.out _ (by repeat (first | exact Below.refl _ _ | assumption | refine Below.setCell ?_ (by first | (simp; done) | (simp; omega) | omega) _ | refine Below.drew ?_ | refine below_drewN ?_ _ | refine Below.alloc ?_ (by first | (simp; done) | (simp; omega) | omega) _ | refine below_alloc ?_ _ | refine below_step ?_ (by assumption)))).mono ?_
      rintro e w1 ⟨rfl, hb⟩
      have hB_w1 : Below w.heap.size w w1 := (by repeat (first | exact Below.refl _ _ | assumption | refine Below.setCell ?_ (by first | (simp; done) | (simp; omega) | omega) _ | refine Below.drew ?_ | refine below_drewN ?_ _ | refine Below.alloc ?_ (by first | (simp; done) | (simp; omega) | omega) _ | refine below_alloc ?_ _ | refine below_step ?_ (by assumption))); have hz_w1 := hB_w1.size; have hsw10 : w.heap.size < w1.heap.size := Nat.lt_of_lt_of_le (by first | (simp; done) | (simp; omega) | omega) hb.size; have hnw10 : ¬ w.heap.size = w1.heap.size := (by omega); have hmw10 : ¬ w1.heap.size = w.heap.size := (by omega); have hlw10_0 : w.heap.size ≤ w1.heap.size := (by omega); have hlw10_1 : w.heap.size ≤ w1.heap.size + 1 := (by omega); have hlw10_2 : w.heap.size ≤ w1.heap.size + 1 + 1 := (by omega); have hkw10 : w1.cell? ⟨w.heap.size, 0, none⟩ = some (.int .i64 s) := (by rw [hb.cell (p := ⟨w.heap.size, 0, none⟩) (by first | (simp; done) | (simp; omega) | omega)]; first | (go_simp; done) | assumption); have hkw11 : w1.cell? ⟨w.heap.size, 1, none⟩ = some (.int .i64 d) := (by rw [hb.cell (p := ⟨w.heap.size, 1, none⟩) (by first | (simp; done) | (simp; omega) | omega)]; first | (go_simp; done) | assumption); have hkw12 : w1.cell? ⟨w.heap.size, 2, none⟩ = some (.int .i64 l) := (by rw [hb.cell (p := ⟨w.heap.size, 2, none⟩) (by first | (simp; done) | (simp; omega) | omega)]; first | (go_simp; done) | assumption); clear hb
      go_wp2_with (go_at_call 18; refine (loads1_at _ _ _ _ (by simp)).mono ?_; rintro e w' ⟨rfl, rfl⟩)
      go_ret2
      exact ⟨rfl, (by repeat (first | exact Below.refl _ _ | assumption | refine Below.setCell ?_ (by first | (simp; done) | (simp; omega) | omega) _ | refine Below.drew ?_ | refine below_drewN ?_ _ | refine Below.alloc ?_ (by first | (simp; done) | (simp; omega) | omega) _ | refine below_alloc ?_ _ | refine below_step ?_ (by assumption)))⟩
  · rw [if_neg he] at hea
    have hv : mayV s d l us day ld = false := if_neg (by rw [hea]; exact he)
    rw [hv, hea]
    clear hv hea
    generalize askR s d l us day = E at *
    have he' : (E == 0) = false := by simpa using he
    have C1 := Lib.hid c1
    clear c1 hx he
    go_enter Try.func8, Try.ntmps8
    go_wp2_with fail
    refine (C1.out _ (by repeat (first | exact Below.refl _ _ | assumption | refine Below.setCell ?_ (by first | (simp; done) | (simp; omega) | omega) _ | refine Below.drew ?_ | refine below_drewN ?_ _ | refine Below.alloc ?_ (by first | (simp; done) | (simp; omega) | omega) _ | refine below_alloc ?_ _ | refine below_step ?_ (by assumption)))).mono ?_
    rintro e w1 ⟨rfl, hb⟩
    have hB_w1 : Below w.heap.size w w1 := (by repeat (first | exact Below.refl _ _ | assumption | refine Below.setCell ?_ (by first | (simp; done) | (simp; omega) | omega) _ | refine Below.drew ?_ | refine below_drewN ?_ _ | refine Below.alloc ?_ (by first | (simp; done) | (simp; omega) | omega) _ | refine below_alloc ?_ _ | refine below_step ?_ (by assumption))); have hz_w1 := hB_w1.size; clear hb
    go_wp2
    go_ret2
    exact ⟨rfl, (by repeat (first | exact Below.refl _ _ | assumption | refine Below.setCell ?_ (by first | (simp; done) | (simp; omega) | omega) _ | refine Below.drew ?_ | refine below_drewN ?_ _ | refine Below.alloc ?_ (by first | (simp; done) | (simp; omega) | omega) _ | refine below_alloc ?_ _ | refine below_step ?_ (by assumption)))⟩

set_option maxHeartbeats 1000000 in
theorem Safe_any (s d l : Int) (A : Option Addr) (len cap : Nat) (us : List (Int × Int)) (day : Int) (w : World) (hm : len ≤ cap ∧ cap ≤ 9223372036854775807) (hx : Pairs w w.heap.size A len us) :
    Calls Try.prog 7 #[.agg #[.int .i64 s, .int .i64 d, .int .i64 l], .slice A len cap, .int .i64 day] w fun e w' => e = .returned (.tuple #[.int .i64 (safeV s d l us day), .int .i64 (safeE s d l us day)]) ∧ Below w.heap.size w w' := by
  have c1 := fun W (h : Below w.heap.size w W) => asked_any s d l A len cap us day W hm ((hx.below h).more h.size)
  by_cases he : askR s d l us day = 0
  · obtain ⟨g1, g2, g3, g4⟩ := ask_spec he
    obtain ⟨⟨r1, r2⟩, ⟨r3, r4⟩, r5, r6⟩ := goodR_spec g1
    have hb := leftR_bd' r1 r3 g2 g3
    have c2 := fun W (h : Below w.heap.size w W) => safe_any s d l A len cap us day W hm ((hx.below h).more h.size) g1 g2 g3 g4
    rw [he] at c1
    by_cases hL : leftR s d us day < l
    · have hv : safeV s d l us day = 0 := by unfold safeV; rw [if_pos he, if_pos hL]
      have hv2 : safeE s d l us day = 10 := by unfold safeE; rw [if_pos he, if_pos hL]
      have hv3 : safeR s d l us day = -1 := by unfold safeR; rw [if_pos hL]
      rw [hv, hv2]
      rw [hv3] at c2
      have C1 := Lib.hid c1
      have C2 := Lib.hid c2
      clear c1 c2 hx hv hv2 hv3 g1 g2 he
      go_enter Try.func7, Try.ntmps7
      go_wp2_with fail
      refine (C1.out _ (by repeat (first | exact Below.refl _ _ | assumption | refine Below.setCell ?_ (by first | (simp; done) | (simp; omega) | omega) _ | refine Below.drew ?_ | refine below_drewN ?_ _ | refine Below.alloc ?_ (by first | (simp; done) | (simp; omega) | omega) _ | refine below_alloc ?_ _ | refine below_step ?_ (by assumption)))).mono ?_
      rintro e w1 ⟨rfl, hb⟩
      have hB_w1 : Below w.heap.size w w1 := (by repeat (first | exact Below.refl _ _ | assumption | refine Below.setCell ?_ (by first | (simp; done) | (simp; omega) | omega) _ | refine Below.drew ?_ | refine below_drewN ?_ _ | refine Below.alloc ?_ (by first | (simp; done) | (simp; omega) | omega) _ | refine below_alloc ?_ _ | refine below_step ?_ (by assumption))); have hz_w1 := hB_w1.size; have hsw10 : w.heap.size < w1.heap.size := Nat.lt_of_lt_of_le (by first | (simp; done) | (simp; omega) | omega) hb.size; have hnw10 : ¬ w.heap.size = w1.heap.size := (by omega); have hmw10 : ¬ w1.heap.size = w.heap.size := (by omega); have hlw10_0 : w.heap.size ≤ w1.heap.size := (by omega); have hlw10_1 : w.heap.size ≤ w1.heap.size + 1 := (by omega); have hlw10_2 : w.heap.size ≤ w1.heap.size + 1 + 1 := (by omega); have hkw10 : w1.cell? ⟨w.heap.size, 0, none⟩ = some (.int .i64 s) := (by rw [hb.cell (p := ⟨w.heap.size, 0, none⟩) (by first | (simp; done) | (simp; omega) | omega)]; first | (go_simp; done) | assumption); have hkw11 : w1.cell? ⟨w.heap.size, 1, none⟩ = some (.int .i64 d) := (by rw [hb.cell (p := ⟨w.heap.size, 1, none⟩) (by first | (simp; done) | (simp; omega) | omega)]; first | (go_simp; done) | assumption); have hkw12 : w1.cell? ⟨w.heap.size, 2, none⟩ = some (.int .i64 l) := (by rw [hb.cell (p := ⟨w.heap.size, 2, none⟩) (by first | (simp; done) | (simp; omega) | omega)]; first | (go_simp; done) | assumption); clear hb
      go_wp2_with fail
      refine (C2.out _ (by repeat (first | exact Below.refl _ _ | assumption | refine Below.setCell ?_ (by first | (simp; done) | (simp; omega) | omega) _ | refine Below.drew ?_ | refine below_drewN ?_ _ | refine Below.alloc ?_ (by first | (simp; done) | (simp; omega) | omega) _ | refine below_alloc ?_ _ | refine below_step ?_ (by assumption)))).mono ?_
      rintro e w2 ⟨rfl, hb⟩
      have hB_w2 : Below w.heap.size w w2 := (by repeat (first | exact Below.refl _ _ | assumption | refine Below.setCell ?_ (by first | (simp; done) | (simp; omega) | omega) _ | refine Below.drew ?_ | refine below_drewN ?_ _ | refine Below.alloc ?_ (by first | (simp; done) | (simp; omega) | omega) _ | refine below_alloc ?_ _ | refine below_step ?_ (by assumption))); have hz_w2 := hB_w2.size; clear hb hB_w1 hlw10_0 hlw10_1 hlw10_2 hkw10 hkw11 hkw12
      go_wp2
      go_ret2
      exact ⟨rfl, (by repeat (first | exact Below.refl _ _ | assumption | refine Below.setCell ?_ (by first | (simp; done) | (simp; omega) | omega) _ | refine Below.drew ?_ | refine below_drewN ?_ _ | refine Below.alloc ?_ (by first | (simp; done) | (simp; omega) | omega) _ | refine below_alloc ?_ _ | refine below_step ?_ (by assumption)))⟩
    · have hv : safeV s d l us day = s * leftR s d us day / 5000 := by unfold safeV; rw [if_pos he, if_neg hL]
      have hv2 : safeE s d l us day = 0 := by unfold safeE; rw [if_pos he, if_neg hL]
      have hv3 : safeR s d l us day = s * leftR s d us day / 5000 := by unfold safeR; rw [if_neg hL]
      rw [hv, hv2]
      rw [hv3] at c2
      have hp : 0 ≤ s * leftR s d us day := Int.mul_nonneg (by omega) hb.1
      have hp2 : 0 ≤ s * leftR s d us day / 5000 := by omega
      generalize s * leftR s d us day / 5000 = R at *
      have C1 := Lib.hid c1
      have C2 := Lib.hid c2
      clear c1 c2 hx hv hv2 hv3 g1 g2 he hp
      go_enter Try.func7, Try.ntmps7
      go_wp2_with fail
      refine (C1.out _ (by repeat (first | exact Below.refl _ _ | assumption | refine Below.setCell ?_ (by first | (simp; done) | (simp; omega) | omega) _ | refine Below.drew ?_ | refine below_drewN ?_ _ | refine Below.alloc ?_ (by first | (simp; done) | (simp; omega) | omega) _ | refine below_alloc ?_ _ | refine below_step ?_ (by assumption)))).mono ?_
      rintro e w1 ⟨rfl, hb⟩
      have hB_w1 : Below w.heap.size w w1 := (by repeat (first | exact Below.refl _ _ | assumption | refine Below.setCell ?_ (by first | (simp; done) | (simp; omega) | omega) _ | refine Below.drew ?_ | refine below_drewN ?_ _ | refine Below.alloc ?_ (by first | (simp; done) | (simp; omega) | omega) _ | refine below_alloc ?_ _ | refine below_step ?_ (by assumption))); have hz_w1 := hB_w1.size; have hsw10 : w.heap.size < w1.heap.size := Nat.lt_of_lt_of_le (by first | (simp; done) | (simp; omega) | omega) hb.size; have hnw10 : ¬ w.heap.size = w1.heap.size := (by omega); have hmw10 : ¬ w1.heap.size = w.heap.size := (by omega); have hlw10_0 : w.heap.size ≤ w1.heap.size := (by omega); have hlw10_1 : w.heap.size ≤ w1.heap.size + 1 := (by omega); have hlw10_2 : w.heap.size ≤ w1.heap.size + 1 + 1 := (by omega); have hkw10 : w1.cell? ⟨w.heap.size, 0, none⟩ = some (.int .i64 s) := (by rw [hb.cell (p := ⟨w.heap.size, 0, none⟩) (by first | (simp; done) | (simp; omega) | omega)]; first | (go_simp; done) | assumption); have hkw11 : w1.cell? ⟨w.heap.size, 1, none⟩ = some (.int .i64 d) := (by rw [hb.cell (p := ⟨w.heap.size, 1, none⟩) (by first | (simp; done) | (simp; omega) | omega)]; first | (go_simp; done) | assumption); have hkw12 : w1.cell? ⟨w.heap.size, 2, none⟩ = some (.int .i64 l) := (by rw [hb.cell (p := ⟨w.heap.size, 2, none⟩) (by first | (simp; done) | (simp; omega) | omega)]; first | (go_simp; done) | assumption); clear hb
      go_wp2_with fail
      refine (C2.out _ (by repeat (first | exact Below.refl _ _ | assumption | refine Below.setCell ?_ (by first | (simp; done) | (simp; omega) | omega) _ | refine Below.drew ?_ | refine below_drewN ?_ _ | refine Below.alloc ?_ (by first | (simp; done) | (simp; omega) | omega) _ | refine below_alloc ?_ _ | refine below_step ?_ (by assumption)))).mono ?_
      rintro e w2 ⟨rfl, hb⟩
      have hB_w2 : Below w.heap.size w w2 := (by repeat (first | exact Below.refl _ _ | assumption | refine Below.setCell ?_ (by first | (simp; done) | (simp; omega) | omega) _ | refine Below.drew ?_ | refine below_drewN ?_ _ | refine Below.alloc ?_ (by first | (simp; done) | (simp; omega) | omega) _ | refine below_alloc ?_ _ | refine below_step ?_ (by assumption))); have hz_w2 := hB_w2.size; clear hb hB_w1 hlw10_0 hlw10_1 hlw10_2 hkw10 hkw11 hkw12
      go_wp2
      go_ret2
      exact ⟨rfl, (by repeat (first | exact Below.refl _ _ | assumption | refine Below.setCell ?_ (by first | (simp; done) | (simp; omega) | omega) _ | refine Below.drew ?_ | refine below_drewN ?_ _ | refine Below.alloc ?_ (by first | (simp; done) | (simp; omega) | omega) _ | refine below_alloc ?_ _ | refine below_step ?_ (by assumption)))⟩
  · have hv : safeV s d l us day = 0 := by unfold safeV; rw [if_neg he]
    have hv2 : safeE s d l us day = askR s d l us day := by unfold safeE; rw [if_neg he]
    rw [hv, hv2]
    generalize askR s d l us day = E at *
    have he' : (E == 0) = false := by simpa using he
    have C1 := Lib.hid c1
    clear c1 hx hv hv2 he
    go_enter Try.func7, Try.ntmps7
    go_wp2_with fail
    refine (C1.out _ (by repeat (first | exact Below.refl _ _ | assumption | refine Below.setCell ?_ (by first | (simp; done) | (simp; omega) | omega) _ | refine Below.drew ?_ | refine below_drewN ?_ _ | refine Below.alloc ?_ (by first | (simp; done) | (simp; omega) | omega) _ | refine below_alloc ?_ _ | refine below_step ?_ (by assumption)))).mono ?_
    rintro e w1 ⟨rfl, hb⟩
    have hB_w1 : Below w.heap.size w w1 := (by repeat (first | exact Below.refl _ _ | assumption | refine Below.setCell ?_ (by first | (simp; done) | (simp; omega) | omega) _ | refine Below.drew ?_ | refine below_drewN ?_ _ | refine Below.alloc ?_ (by first | (simp; done) | (simp; omega) | omega) _ | refine below_alloc ?_ _ | refine below_step ?_ (by assumption))); have hz_w1 := hB_w1.size; clear hb
    go_wp2
    go_ret2
    exact ⟨rfl, (by repeat (first | exact Below.refl _ _ | assumption | refine Below.setCell ?_ (by first | (simp; done) | (simp; omega) | omega) _ | refine Below.drew ?_ | refine below_drewN ?_ _ | refine Below.alloc ?_ (by first | (simp; done) | (simp; omega) | omega) _ | refine below_alloc ?_ _ | refine below_step ?_ (by assumption)))⟩

end Go.Proofs.Ytkphkknlenjjhaa
