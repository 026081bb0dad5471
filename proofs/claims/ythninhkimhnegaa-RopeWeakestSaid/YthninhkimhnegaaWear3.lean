/- Ropes: the reference's left; safe loads; what is asked. -/
import Derived.Test.YthninhkimhnegaaWear2
set_option linter.unusedSimpArgs false
set_option linter.unusedVariables false
namespace Go.Proofs.Ythninhkimhnegaa
open Go.RowKit
attribute [local go_sem] Later.cell

set_option maxRecDepth 20000 in
set_option maxHeartbeats 1000000 in
theorem rleft_any (s d l : Int) (A : Option Addr) (len cap : Nat) (us : List (Int × Int)) (day : Int) (w : World) (hm : len ≤ cap ∧ cap ≤ 9223372036854775807) (hx : Pairs w w.heap.size A len us)
    (hr : goodR s d l = true) (hu : goodU us = true) (h0 : 0 ≤ day) (h1 : day ≤ 100000) :
    Calls Try.prog 77 #[.agg #[.int .i64 s, .int .i64 d, .int .i64 l], .slice A len cap, .int .i64 day] w fun e w' => e = .returned (.int .i64 (leftR s d us day)) ∧ Below w.heap.size w w' := by
  obtain ⟨⟨r1, r2⟩, ⟨r3, r4⟩, r5, r6⟩ := goodR_spec hr
  obtain ⟨u1, u2, u3⟩ := goodU_spec hu
  have hlen := hx.1
  have hls := lsumD_bd (day := day) r1 u2
  have hR : leftR s d us day = max 0 (1000 - (d * day + lsumD s day (us.take us.length))) := by rw [List.take_length]; rfl
  rw [hR]
  have hp : 0 ≤ d * day ∧ d * day ≤ 1000 * 100000 := ⟨Int.mul_nonneg r3 h0, Int.mul_le_mul r4 h1 h0 (by decide)⟩
  have hss : ∀ k, k < us.length → lsumD s day (us.take (k+1)) = lsumD s day (us.take k) + if (us[k]?.getD (0,0)).1 ≤ day then cst s (us[k]?.getD (0,0)).2 else 0 := fun k hk => by rw [take_sn (by omega), lsumD_snoc]
  have HX := Lib.hid hx
  have HS := Lib.hid hls
  have HSS := Lib.hid hss
  have HU := Lib.hid u2
  clear hx hls hss u2 u3 hR hr hu
  rw [hlen]
  go_enter Try.func77, Try.ntmps77
  go_wp2
  go_loopw [7, 8] (fun t i wr => ∃ k : Nat, k ≤ len ∧ i = .int .i64 k ∧ t = .int .i64 (1000 - d * day - lsumD s day (us.take k)) ∧ Below (w.heap.size + 1) (w.alloc (.cells #[.int .i64 s, .int .i64 d, .int .i64 l] 57)) wr) (fun _ i _ => len - (intOf i).toNat)
  case atStart => exact ⟨0, Nat.zero_le _, rfl, by simp [lsumD], Below.refl _ _⟩
  case round =>
    obtain ⟨k, hk, rfl, rfl, hb⟩ := hrel
    have hbs := hb.size
    simp at hbs
    have hB : Below w.heap.size w wr := (Below.alloc (Below.refl _ _) (Nat.le_refl _) _).trans (hb.mono (by omega))
    have hk0 : wr.cell? ⟨w.heap.size, 0, none⟩ = some (.int .i64 s) := by rw [hb.cell (p := ⟨w.heap.size, 0, none⟩) (by simp)]; simp
    have hlw : w.heap.size < wr.heap.size := by omega
    have h5 := HS.out k (by omega)
    by_cases hlt : k < len
    · obtain ⟨b, off, rfl, hb0, hc1, hc2⟩ := (HX.out.below hB).at_ k hlt
      have hbl : b < wr.heap.size := by omega
      have h6 := HSS.out k (by omega)
      have h7 := HU.out k (by omega)
      have h8 := HS.out (k+1) (by omega)
      have H6 := Lib.hid h6
      rw [h6] at h8
      clear h6
      generalize us[k]?.getD (0,0) = X at *
      obtain ⟨X, Y⟩ := X
      dsimp only at hc1 hc2 h7 h8 H6
      have hq2 := cst_bd r1 h7.2.1 h7.2.2
      have c1 := fun W => Floor_any (-100 * Y) s W r1 (by omega) (by omega) (by omega)
      rw [cst_floor r1] at c1
      have C1 := Lib.hid c1
      clear c1
      generalize lsumD s day (us.take k) = S at *
      generalize cst s Y = q at *
      have hwq : IntKind.i64.wrap (-100 * Y) = -100 * Y := IntWalk.i64_in _ (by omega)
      have hwq2 : IntKind.i64.wrap (-(100 * Y)) = -100 * Y := by rw [show -(100 * Y) = -100 * Y by omega]; exact hwq
      by_cases hd : X ≤ day
      · rw [if_pos hd] at h8
        have H6' : Hid (lsumD s day (us.take (k+1)) = S + q) := by have := H6.out; rw [if_pos hd] at this; exact this
        clear H6
        have hwr : IntKind.i64.wrap (1000 - d * day - S + -q) = 1000 - d * day - (S + q) := by rw [show 1000 - d * day - S + -q = 1000 - d * day - (S + q) by omega]; exact IntWalk.i64_in _ (by omega)
        go_wp2
        (refine wp_region_later (by kernel_rfl) (by kernel_rfl) ?_; (repeat (go_big_quiet_step ((go_at_call 70; exact later_same (C1.out _))))); refine wpQuiet_nil ?_)
        intro w3 hb3
        clear hwq hwq2 hwr
        go_wp2
        go_roundw
        case rel => exact ⟨k + 1, by omega, by go_num, by first | (rw [H6'.out]; done) | (rw [H6'.out]; go_num), hb.trans (hb3.mono (by omega))⟩
        case measure => simp [intOf]; omega
      · have H6' : Hid (lsumD s day (us.take (k+1)) = S) := by have := H6.out; rw [if_neg hd] at this; show _ = _; omega
        clear H6
        go_wp2
        go_roundw
        case rel => exact ⟨k + 1, by omega, by go_num, by rw [H6'.out], hb⟩
        case measure => simp [intOf]; omega
    · have hkC : k = len := by omega
      subst hkC
      generalize hSS2 : lsumD s day (us.take k) = S at h5 ⊢
      have HS2 := Lib.hid hSS2
      clear hSS2
      go_wp2
      all_goals
        go_ret
        exact ⟨ret_int (by rw [HS2.out]; omega), (by repeat (first | exact Below.refl _ _ | assumption | refine Below.setCell ?_ (by first | (simp; done) | (simp; omega) | omega) _ | refine Below.drew ?_ | refine below_drewN ?_ _ | refine Below.alloc ?_ (by first | (simp; done) | (simp; omega) | omega) _ | refine below_alloc ?_ _ | refine below_step ?_ (by assumption)))⟩

/-- The greatest load that a rope may bear; -1 where too little is left. -/
def safeR (s d l : Int) (us : List (Int × Int)) (day : Int) : Int := if leftR s d us day < l then -1 else s * leftR s d us day / 5000
theorem safe_any (s d l : Int) (A : Option Addr) (len cap : Nat) (us : List (Int × Int)) (day : Int) (w : World) (hm : len ≤ cap ∧ cap ≤ 9223372036854775807) (hx : Pairs w w.heap.size A len us)
    (hr : goodR s d l = true) (hu : goodU us = true) (h0 : 0 ≤ day) (h1 : day ≤ 100000) :
    Calls Try.prog 76 #[.agg #[.int .i64 s, .int .i64 d, .int .i64 l, .slice A len cap], .int .i64 day] w fun e w' => e = .returned (.int .i64 (safeR s d l us day)) ∧ Below w.heap.size w w' := by
  obtain ⟨⟨r1, r2⟩, ⟨r3, r4⟩, r5, r6⟩ := goodR_spec hr
  have hb := leftR_bd' r1 r3 hu h0
  have c1 := fun W (h : Below w.heap.size w W) => left_any s d l A len cap us day W hm ((hx.below h).more h.size) hr hu h0 h1
  have hR : safeR s d l us day = if leftR s d us day < l then -1 else s * leftR s d us day / 5000 := rfl
  rw [hR]
  clear hR
  generalize leftR s d us day = L at *
  have hp : 0 ≤ s * L ∧ s * L ≤ 1000000 * 1000 := ⟨Int.mul_nonneg (by omega) hb.1, Int.mul_le_mul r2 hb.2 hb.1 (by decide)⟩
  have C1 := Lib.hid c1
  clear c1 hx hr hu
  by_cases hL : L < l
  · rw [if_pos hL]
    go_enter Try.func76, Try.ntmps76
    go_wp2_with fail
    refine (C1.out _ (by repeat (first | exact Below.refl _ _ | assumption | refine Below.setCell ?_ (by first | (simp; done) | (simp; omega) | omega) _ | refine Below.drew ?_ | refine below_drewN ?_ _ | refine Below.alloc ?_ (by first | (simp; done) | (simp; omega) | omega) _ | refine below_alloc ?_ _ | refine below_step ?_ (by assumption)))).mono ?_
    rintro e w1 ⟨rfl, hb⟩
    have hB_w1 : Below w.heap.size w w1 := (by repeat (first | exact Below.refl _ _ | assumption | refine Below.setCell ?_ (by first | (simp; done) | (simp; omega) | omega) _ | refine Below.drew ?_ | refine below_drewN ?_ _ | refine Below.alloc ?_ (by first | (simp; done) | (simp; omega) | omega) _ | refine below_alloc ?_ _ | refine below_step ?_ (by assumption))); have hz_w1 := hB_w1.size; have hsw10 : w.heap.size < w1.heap.size := Nat.lt_of_lt_of_le (by first | (simp; done) | (simp; omega) | omega) hb.size; have hnw10 : ¬ w.heap.size = w1.heap.size := (by omega); have hmw10 : ¬ w1.heap.size = w.heap.size := (by omega); have hlw10_0 : w.heap.size ≤ w1.heap.size := (by omega); have hlw10_1 : w.heap.size ≤ w1.heap.size + 1 := (by omega); have hlw10_2 : w.heap.size ≤ w1.heap.size + 1 + 1 := (by omega); have hkw10 : w1.cell? ⟨w.heap.size, 0, none⟩ = some (.int .i64 s) := (by rw [hb.cell (p := ⟨w.heap.size, 0, none⟩) (by first | (simp; done) | (simp; omega) | omega)]; first | (go_simp; done) | assumption); have hkw11 : w1.cell? ⟨w.heap.size, 1, none⟩ = some (.int .i64 d) := (by rw [hb.cell (p := ⟨w.heap.size, 1, none⟩) (by first | (simp; done) | (simp; omega) | omega)]; first | (go_simp; done) | assumption); have hkw12 : w1.cell? ⟨w.heap.size, 2, none⟩ = some (.int .i64 l) := (by rw [hb.cell (p := ⟨w.heap.size, 2, none⟩) (by first | (simp; done) | (simp; omega) | omega)]; first | (go_simp; done) | assumption); clear hb
    go_wp2
    go_ret
    exact ⟨rfl, (by repeat (first | exact Below.refl _ _ | assumption | refine Below.setCell ?_ (by first | (simp; done) | (simp; omega) | omega) _ | refine Below.drew ?_ | refine below_drewN ?_ _ | refine Below.alloc ?_ (by first | (simp; done) | (simp; omega) | omega) _ | refine below_alloc ?_ _ | refine below_step ?_ (by assumption)))⟩
  · rw [if_neg hL]
    go_enter Try.func76, Try.ntmps76
    go_wp2_with fail
    refine (C1.out _ (by repeat (first | exact Below.refl _ _ | assumption | refine Below.setCell ?_ (by first | (simp; done) | (simp; omega) | omega) _ | refine Below.drew ?_ | refine below_drewN ?_ _ | refine Below.alloc ?_ (by first | (simp; done) | (simp; omega) | omega) _ | refine below_alloc ?_ _ | refine below_step ?_ (by assumption)))).mono ?_
    rintro e w1 ⟨rfl, hb⟩
    have hB_w1 : Below w.heap.size w w1 := (by repeat (first | exact Below.refl _ _ | assumption | refine Below.setCell ?_ (by first | (simp; done) | (simp; omega) | omega) _ | refine Below.drew ?_ | refine below_drewN ?_ _ | refine Below.alloc ?_ (by first | (simp; done) | (simp; omega) | omega) _ | refine below_alloc ?_ _ | refine below_step ?_ (by assumption))); have hz_w1 := hB_w1.size; have hsw10 : w.heap.size < w1.heap.size := Nat.lt_of_lt_of_le (by first | (simp; done) | (simp; omega) | omega) hb.size; have hnw10 : ¬ w.heap.size = w1.heap.size := (by omega); have hmw10 : ¬ w1.heap.size = w.heap.size := (by omega); have hlw10_0 : w.heap.size ≤ w1.heap.size := (by omega); have hlw10_1 : w.heap.size ≤ w1.heap.size + 1 := (by omega); have hlw10_2 : w.heap.size ≤ w1.heap.size + 1 + 1 := (by omega); have hkw10 : w1.cell? ⟨w.heap.size, 0, none⟩ = some (.int .i64 s) := (by rw [hb.cell (p := ⟨w.heap.size, 0, none⟩) (by first | (simp; done) | (simp; omega) | omega)]; first | (go_simp; done) | assumption); have hkw11 : w1.cell? ⟨w.heap.size, 1, none⟩ = some (.int .i64 d) := (by rw [hb.cell (p := ⟨w.heap.size, 1, none⟩) (by first | (simp; done) | (simp; omega) | omega)]; first | (go_simp; done) | assumption); have hkw12 : w1.cell? ⟨w.heap.size, 2, none⟩ = some (.int .i64 l) := (by rw [hb.cell (p := ⟨w.heap.size, 2, none⟩) (by first | (simp; done) | (simp; omega) | omega)]; first | (go_simp; done) | assumption); clear hb
    go_wp2
    go_ret
    exact ⟨rfl, (by repeat (first | exact Below.refl _ _ | assumption | refine Below.setCell ?_ (by first | (simp; done) | (simp; omega) | omega) _ | refine Below.drew ?_ | refine below_drewN ?_ _ | refine Below.alloc ?_ (by first | (simp; done) | (simp; omega) | omega) _ | refine below_alloc ?_ _ | refine below_step ?_ (by assumption)))⟩

/-- The first error of a rope, its uses and a day, a load. -/
def errR (s d l : Int) (us : List (Int × Int)) (day ld : Int) : Int := if goodR s d l && goodU us then (if withinB day 0 100000 && okLoad ld then 0 else 7) else 1
def askR (s d l : Int) (us : List (Int × Int)) (day : Int) : Int := if goodR s d l && goodU us then (if withinB day 0 100000 then 0 else 7) else 1
set_option maxHeartbeats 1000000 in
theorem asked_any (s d l : Int) (A : Option Addr) (len cap : Nat) (us : List (Int × Int)) (day : Int) (w : World) (hm : len ≤ cap ∧ cap ≤ 9223372036854775807) (hx : Pairs w w.heap.size A len us) :
    Calls Try.prog 75 #[.agg #[.int .i64 s, .int .i64 d, .int .i64 l], .slice A len cap, .int .i64 day] w fun e w' => e = .returned (.int .i64 (askR s d l us day)) ∧ Below w.heap.size w w' := by
  have c1 := fun W => ValidRope_any s d l W
  have c2 := fun W (h : Below w.heap.size w W) => ValidUses_any A len cap us W (by omega) ((hx.below h).more h.size)
  have hR : askR s d l us day = if goodR s d l && goodU us then (if withinB day 0 100000 then 0 else 7) else 1 := rfl
  rw [hR]
  clear hR
  have C1 := Lib.hid c1
  have C2 := Lib.hid c2
  clear c1 c2 hx
  by_cases g1 : goodR s d l = true
  · rw [g1] at C1
    by_cases g2 : goodU us = true
    · rw [g2] at C2
      by_cases g3 : withinB day 0 100000 = true
      all_goals
        simp only [g1, g2, g3]
        go_enter Try.func75, Try.ntmps75
        go_wp2_with fail
        refine (C1.out _).mono ?_
        rintro e w1 ⟨rfl, hb⟩
        have hB_w1 : Below w.heap.size w w1 := (by repeat (first | exact Below.refl _ _ | assumption | refine Below.setCell ?_ (by first | (simp; done) | (simp; omega) | omega) _ | refine Below.drew ?_ | refine below_drewN ?_ _ | refine Below.alloc ?_ (by first | (simp; done) | (simp; omega) | omega) _ | refine below_alloc ?_ _ | refine below_step ?_ (by assumption))); have hz_w1 := hB_w1.size; clear hb
        go_wp2_with fail
        refine (C2.out _ (by repeat (first | exact Below.refl _ _ | assumption | refine Below.setCell ?_ (by first | (simp; done) | (simp; omega) | omega) _ | refine Below.drew ?_ | refine below_drewN ?_ _ | refine Below.alloc ?_ (by first | (simp; done) | (simp; omega) | omega) _ | refine below_alloc ?_ _ | refine below_step ?_ (by assumption)))).mono ?_
        rintro e w2 ⟨rfl, hb⟩
        have hB_w2 : Below w.heap.size w w2 := (by repeat (first | exact Below.refl _ _ | assumption | refine Below.setCell ?_ (by first | (simp; done) | (simp; omega) | omega) _ | refine Below.drew ?_ | refine below_drewN ?_ _ | refine Below.alloc ?_ (by first | (simp; done) | (simp; omega) | omega) _ | refine below_alloc ?_ _ | refine below_step ?_ (by assumption))); have hz_w2 := hB_w2.size; clear hb hB_w1
        go_wp2_with (go_at_call 63; refine (within_any _ _ _ _).mono ?_; rintro e w' ⟨rfl, rfl⟩)
        go_ret
        exact ⟨rfl, (by repeat (first | exact Below.refl _ _ | assumption | refine Below.setCell ?_ (by first | (simp; done) | (simp; omega) | omega) _ | refine Below.drew ?_ | refine below_drewN ?_ _ | refine Below.alloc ?_ (by first | (simp; done) | (simp; omega) | omega) _ | refine below_alloc ?_ _ | refine below_step ?_ (by assumption)))⟩
    · have g2' : goodU us = false := by simpa using g2
      rw [g2'] at C2
      simp only [g1, g2']
      go_enter Try.func75, Try.ntmps75
      go_wp2_with fail
      refine (C1.out _).mono ?_
      rintro e w1 ⟨rfl, hb⟩
      have hB_w1 : Below w.heap.size w w1 := (by repeat (first | exact Below.refl _ _ | assumption | refine Below.setCell ?_ (by first | (simp; done) | (simp; omega) | omega) _ | refine Below.drew ?_ | refine below_drewN ?_ _ | refine Below.alloc ?_ (by first | (simp; done) | (simp; omega) | omega) _ | refine below_alloc ?_ _ | refine below_step ?_ (by assumption))); have hz_w1 := hB_w1.size; clear hb
      go_wp2_with fail
      refine (C2.out _ (by repeat (first | exact Below.refl _ _ | assumption | refine Below.setCell ?_ (by first | (simp; done) | (simp; omega) | omega) _ | refine Below.drew ?_ | refine below_drewN ?_ _ | refine Below.alloc ?_ (by first | (simp; done) | (simp; omega) | omega) _ | refine below_alloc ?_ _ | refine below_step ?_ (by assumption)))).mono ?_
      rintro e w2 ⟨rfl, hb⟩
      have hB_w2 : Below w.heap.size w w2 := (by repeat (first | exact Below.refl _ _ | assumption | refine Below.setCell ?_ (by first | (simp; done) | (simp; omega) | omega) _ | refine Below.drew ?_ | refine below_drewN ?_ _ | refine Below.alloc ?_ (by first | (simp; done) | (simp; omega) | omega) _ | refine below_alloc ?_ _ | refine below_step ?_ (by assumption))); have hz_w2 := hB_w2.size; clear hb hB_w1
      go_wp2
      go_ret
      exact ⟨rfl, (by repeat (first | exact Below.refl _ _ | assumption | refine Below.setCell ?_ (by first | (simp; done) | (simp; omega) | omega) _ | refine Below.drew ?_ | refine below_drewN ?_ _ | refine Below.alloc ?_ (by first | (simp; done) | (simp; omega) | omega) _ | refine below_alloc ?_ _ | refine below_step ?_ (by assumption)))⟩
  · have g1' : goodR s d l = false := by simpa using g1
    rw [g1'] at C1
    simp only [g1']
    go_enter Try.func75, Try.ntmps75
    go_wp2_with fail
    refine (C1.out _).mono ?_
    rintro e w1 ⟨rfl, hb⟩
    have hB_w1 : Below w.heap.size w w1 := (by repeat (first | exact Below.refl _ _ | assumption | refine Below.setCell ?_ (by first | (simp; done) | (simp; omega) | omega) _ | refine Below.drew ?_ | refine below_drewN ?_ _ | refine Below.alloc ?_ (by first | (simp; done) | (simp; omega) | omega) _ | refine below_alloc ?_ _ | refine below_step ?_ (by assumption))); have hz_w1 := hB_w1.size; clear hb
    go_wp2
    go_ret
    exact ⟨rfl, (by repeat (first | exact Below.refl _ _ | assumption | refine Below.setCell ?_ (by first | (simp; done) | (simp; omega) | omega) _ | refine Below.drew ?_ | refine below_drewN ?_ _ | refine Below.alloc ?_ (by first | (simp; done) | (simp; omega) | omega) _ | refine below_alloc ?_ _ | refine below_step ?_ (by assumption)))⟩
set_option maxHeartbeats 1000000 in
theorem ropeError_any (s d l : Int) (A : Option Addr) (len cap : Nat) (us : List (Int × Int)) (day ld : Int) (w : World) (hm : len ≤ cap ∧ cap ≤ 9223372036854775807) (hx : Pairs w w.heap.size A len us) :
    Calls Try.prog 79 #[.agg #[.int .i64 s, .int .i64 d, .int .i64 l], .slice A len cap, .int .i64 day, .int .i64 ld] w fun e w' => e = .returned (.int .i64 (errR s d l us day ld)) ∧ Below w.heap.size w w' := by
  have c1 := fun W => rValidRope_any s d l W
  have c2 := fun W (h : Below w.heap.size w W) => rValidUses_any A len cap us W (by omega) ((hx.below h).more h.size)
  have hR : errR s d l us day ld = if goodR s d l && goodU us then (if withinB day 0 100000 && okLoad ld then 0 else 7) else 1 := rfl
  rw [hR]
  clear hR
  have C1 := Lib.hid c1
  have C2 := Lib.hid c2
  clear c1 c2 hx
  by_cases g1 : goodR s d l = true
  · rw [g1] at C1
    by_cases g2 : goodU us = true
    · rw [g2] at C2
      by_cases g3 : withinB day 0 100000 = true
      · by_cases g4 : okLoad ld = true
        all_goals
          simp only [g1, g2, g3, g4]
          go_enter Try.func79, Try.ntmps79
          go_wp2_with fail
          refine (C1.out _).mono ?_
          rintro e w1 ⟨rfl, hb⟩
          have hB_w1 : Below w.heap.size w w1 := (by repeat (first | exact Below.refl _ _ | assumption | refine Below.setCell ?_ (by first | (simp; done) | (simp; omega) | omega) _ | refine Below.drew ?_ | refine below_drewN ?_ _ | refine Below.alloc ?_ (by first | (simp; done) | (simp; omega) | omega) _ | refine below_alloc ?_ _ | refine below_step ?_ (by assumption))); have hz_w1 := hB_w1.size; clear hb
          go_wp2_with fail
          refine (C2.out _ (by repeat (first | exact Below.refl _ _ | assumption | refine Below.setCell ?_ (by first | (simp; done) | (simp; omega) | omega) _ | refine Below.drew ?_ | refine below_drewN ?_ _ | refine Below.alloc ?_ (by first | (simp; done) | (simp; omega) | omega) _ | refine below_alloc ?_ _ | refine below_step ?_ (by assumption)))).mono ?_
          rintro e w2 ⟨rfl, hb⟩
          have hB_w2 : Below w.heap.size w w2 := (by repeat (first | exact Below.refl _ _ | assumption | refine Below.setCell ?_ (by first | (simp; done) | (simp; omega) | omega) _ | refine Below.drew ?_ | refine below_drewN ?_ _ | refine Below.alloc ?_ (by first | (simp; done) | (simp; omega) | omega) _ | refine below_alloc ?_ _ | refine below_step ?_ (by assumption))); have hz_w2 := hB_w2.size; clear hb hB_w1
          go_wp2_with (first | (go_at_call 64; refine (rwithin_any _ _ _ _).mono ?_; rintro e w' ⟨rfl, rfl⟩) | (go_at_call 69; refine (okload_any _ _).mono ?_; rintro e w' ⟨rfl, rfl⟩))
          go_ret
          exact ⟨rfl, (by repeat (first | exact Below.refl _ _ | assumption | refine Below.setCell ?_ (by first | (simp; done) | (simp; omega) | omega) _ | refine Below.drew ?_ | refine below_drewN ?_ _ | refine Below.alloc ?_ (by first | (simp; done) | (simp; omega) | omega) _ | refine below_alloc ?_ _ | refine below_step ?_ (by assumption)))⟩
      · have g3' : withinB day 0 100000 = false := by simpa using g3
        simp only [g1, g2, g3']
        go_enter Try.func79, Try.ntmps79
        go_wp2_with fail
        refine (C1.out _).mono ?_
        rintro e w1 ⟨rfl, hb⟩
        have hB_w1 : Below w.heap.size w w1 := (by repeat (first | exact Below.refl _ _ | assumption | refine Below.setCell ?_ (by first | (simp; done) | (simp; omega) | omega) _ | refine Below.drew ?_ | refine below_drewN ?_ _ | refine Below.alloc ?_ (by first | (simp; done) | (simp; omega) | omega) _ | refine below_alloc ?_ _ | refine below_step ?_ (by assumption))); have hz_w1 := hB_w1.size; clear hb
        go_wp2_with fail
        refine (C2.out _ (by repeat (first | exact Below.refl _ _ | assumption | refine Below.setCell ?_ (by first | (simp; done) | (simp; omega) | omega) _ | refine Below.drew ?_ | refine below_drewN ?_ _ | refine Below.alloc ?_ (by first | (simp; done) | (simp; omega) | omega) _ | refine below_alloc ?_ _ | refine below_step ?_ (by assumption)))).mono ?_
        rintro e w2 ⟨rfl, hb⟩
        have hB_w2 : Below w.heap.size w w2 := (by repeat (first | exact Below.refl _ _ | assumption | refine Below.setCell ?_ (by first | (simp; done) | (simp; omega) | omega) _ | refine Below.drew ?_ | refine below_drewN ?_ _ | refine Below.alloc ?_ (by first | (simp; done) | (simp; omega) | omega) _ | refine below_alloc ?_ _ | refine below_step ?_ (by assumption))); have hz_w2 := hB_w2.size; clear hb hB_w1
        go_wp2_with (first | (go_at_call 64; refine (rwithin_any _ _ _ _).mono ?_; rintro e w' ⟨rfl, rfl⟩))
        go_ret
        exact ⟨rfl, (by repeat (first | exact Below.refl _ _ | assumption | refine Below.setCell ?_ (by first | (simp; done) | (simp; omega) | omega) _ | refine Below.drew ?_ | refine below_drewN ?_ _ | refine Below.alloc ?_ (by first | (simp; done) | (simp; omega) | omega) _ | refine below_alloc ?_ _ | refine below_step ?_ (by assumption)))⟩
    · have g2' : goodU us = false := by simpa using g2
      rw [g2'] at C2
      simp only [g1, g2']
      go_enter Try.func79, Try.ntmps79
      go_wp2_with fail
      refine (C1.out _).mono ?_
      rintro e w1 ⟨rfl, hb⟩
      have hB_w1 : Below w.heap.size w w1 := (by repeat (first | exact Below.refl _ _ | assumption | refine Below.setCell ?_ (by first | (simp; done) | (simp; omega) | omega) _ | refine Below.drew ?_ | refine below_drewN ?_ _ | refine Below.alloc ?_ (by first | (simp; done) | (simp; omega) | omega) _ | refine below_alloc ?_ _ | refine below_step ?_ (by assumption))); have hz_w1 := hB_w1.size; clear hb
      go_wp2_with fail
      refine (C2.out _ (by repeat (first | exact Below.refl _ _ | assumption | refine Below.setCell ?_ (by first | (simp; done) | (simp; omega) | omega) _ | refine Below.drew ?_ | refine below_drewN ?_ _ | refine Below.alloc ?_ (by first | (simp; done) | (simp; omega) | omega) _ | refine below_alloc ?_ _ | refine below_step ?_ (by assumption)))).mono ?_
      rintro e w2 ⟨rfl, hb⟩
      have hB_w2 : Below w.heap.size w w2 := (by repeat (first | exact Below.refl _ _ | assumption | refine Below.setCell ?_ (by first | (simp; done) | (simp; omega) | omega) _ | refine Below.drew ?_ | refine below_drewN ?_ _ | refine Below.alloc ?_ (by first | (simp; done) | (simp; omega) | omega) _ | refine below_alloc ?_ _ | refine below_step ?_ (by assumption))); have hz_w2 := hB_w2.size; clear hb hB_w1
      go_wp2
      go_ret
      exact ⟨rfl, (by repeat (first | exact Below.refl _ _ | assumption | refine Below.setCell ?_ (by first | (simp; done) | (simp; omega) | omega) _ | refine Below.drew ?_ | refine below_drewN ?_ _ | refine Below.alloc ?_ (by first | (simp; done) | (simp; omega) | omega) _ | refine below_alloc ?_ _ | refine below_step ?_ (by assumption)))⟩
  · have g1' : goodR s d l = false := by simpa using g1
    rw [g1'] at C1
    simp only [g1']
    go_enter Try.func79, Try.ntmps79
    go_wp2_with fail
    refine (C1.out _).mono ?_
    rintro e w1 ⟨rfl, hb⟩
    have hB_w1 : Below w.heap.size w w1 := (by repeat (first | exact Below.refl _ _ | assumption | refine Below.setCell ?_ (by first | (simp; done) | (simp; omega) | omega) _ | refine Below.drew ?_ | refine below_drewN ?_ _ | refine Below.alloc ?_ (by first | (simp; done) | (simp; omega) | omega) _ | refine below_alloc ?_ _ | refine below_step ?_ (by assumption))); have hz_w1 := hB_w1.size; clear hb
    go_wp2
    go_ret
    exact ⟨rfl, (by repeat (first | exact Below.refl _ _ | assumption | refine Below.setCell ?_ (by first | (simp; done) | (simp; omega) | omega) _ | refine Below.drew ?_ | refine below_drewN ?_ _ | refine Below.alloc ?_ (by first | (simp; done) | (simp; omega) | omega) _ | refine below_alloc ?_ _ | refine below_step ?_ (by assumption)))⟩
end Go.Proofs.Ythninhkimhnegaa
