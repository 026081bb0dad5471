/- Cradles: the reference's Level. -/
import Derived.Test.YthninhkimhnegaaLevelM
set_option linter.unusedSimpArgs false
set_option linter.unusedVariables false
namespace Go.Proofs.Ythninhkimhnegaa
open Go.RowKit
attribute [local go_sem] Later.cell

theorem within_load (wt : Int) : (okLoad wt && !(wt == 0)) = withinB wt 1 1000000 := by
  cases h : withinB wt 1 1000000 with
  | true =>
    have := withinB_iff.1 h
    rw [okLoad_iff.2 ⟨by omega, by omega⟩]
    simp; omega
  | false =>
    cases h2 : okLoad wt with
    | false => rfl
    | true =>
      have h3 := okLoad_iff.1 h2
      have h4 : ¬ (1 ≤ wt ∧ wt ≤ 1000000) := fun h5 => by rw [withinB_iff.2 h5] at h; cases h
      simp; omega

theorem lev_step {f : Int → Int} {k : Nat} {B L : Int} (h : L = f B ∧ FirstMin f k B) : ∀ D, D = f k → (D < L → FirstMin f ((k + 1 : Nat) : Int) k) ∧ (¬ D < L → L = f B ∧ FirstMin f ((k + 1 : Nat) : Int) B) := by
  intro D hD
  have h2 := h.2.next
  refine ⟨fun hl => ?_, fun hl => ⟨h.1, ?_⟩⟩
  · rw [if_pos (by rw [← hD, ← h.1]; exact hl)] at h2; exact h2
  · rw [if_neg (by rw [← hD, ← h.1]; exact hl)] at h2; exact h2

set_option maxRecDepth 20000 in
set_option maxHeartbeats 2000000 in
theorem rLevel_any (span : Int) (A : Option Addr) (len cap : Nat) (xs : List (Int × Int)) (wt : Int) (w : World) (hcap : len ≤ cap ∧ cap ≤ 9223372036854775807) (hx : Pairs w w.heap.size A len xs) :
    Calls Try.prog 52 #[.int .i64 span, .slice A len cap, .int .i64 wt] w fun e w' => e = .returned (.tuple #[.int .i64 (levV span xs wt), .int .i64 (levE span xs wt)]) ∧ Below w.heap.size w w' := by
  have c1 := fun W (h : Below w.heap.size w W) => rValidLoads_any span A len cap xs W (by omega) ((hx.below h).more h.size)
  have hE : levE span xs wt = if goodL span xs then (if okLoad wt && !(wt == 0) then 0 else 7) else 1 := rfl
  rw [within_load] at hE
  by_cases hg : goodL span xs = true
  · rw [if_pos hg] at hE
    rw [hg] at c1
    by_cases ho : withinB wt 1 1000000 = true
    · rw [if_pos ho] at hE
      have hw := withinB_iff.1 ho
      obtain ⟨⟨h1, h2⟩, h3, h4⟩ := goodL_spec hg
      have hlen := hx.1
      obtain ⟨⟨s1, s2⟩, ⟨s3, s4⟩, ⟨s5, s6⟩, s7⟩ := sums_all (n := 20) (by omega) h2 h4 h3
      have c2 := fun W (h : Below w.heap.size w W) => levers_any span A len cap xs W (by omega) ((hx.below h).more h.size) (by omega) h2 h4
      have hfirst := levV_first (span := span) (xs := xs) (by omega) hw.1 hE
      have hoff : ∀ a, offR span xs wt a = max (fsum span xs - msum xs + wt * (span - 2 * a)) (-(fsum span xs - msum xs + wt * (span - 2 * a))) := fun a => by
        have := off_eq span xs wt a
        unfold offR
        rw [s7]
        omega
      rw [hE]
      generalize levV span xs wt = V at *
      generalize offR span xs wt = f at *
      generalize fsum span xs = F at *
      generalize msum xs = M at *
      generalize wsum xs = S at *
      have C1 := Lib.hid c1
      have C2 := Lib.hid c2
      have HF := Lib.hid hfirst
      have HO := Lib.hid hoff
      clear c1 c2 hx hg h4 hfirst hoff s7
      go_enter Try.func52, Try.ntmps52
      go_wp2_with (first | (go_at_call 33; refine (C1.out _ (by repeat (first | exact Below.refl _ _ | assumption | refine Below.setCell ?_ (by first | (simp; done) | (simp; omega) | omega) _ | refine Below.drew ?_ | refine below_drewN ?_ _ | refine Below.alloc ?_ (by first | (simp; done) | (simp; omega) | omega) _ | refine below_alloc ?_ _ | refine below_step ?_ (by assumption)))).mono ?_; rintro e w1 ⟨rfl, hb⟩; have hB_w1 : Below w.heap.size w w1 := (by repeat (first | exact Below.refl _ _ | assumption | refine Below.setCell ?_ (by first | (simp; done) | (simp; omega) | omega) _ | refine Below.drew ?_ | refine below_drewN ?_ _ | refine Below.alloc ?_ (by first | (simp; done) | (simp; omega) | omega) _ | refine below_alloc ?_ _ | refine below_step ?_ (by assumption))); have hz_w1 := hB_w1.size; clear hb) | (go_at_call 64; refine (rwithin_any _ _ _ _).mono ?_; rintro e w' ⟨rfl, rfl⟩))
      refine (C2.out _ (by repeat (first | exact Below.refl _ _ | assumption | refine Below.setCell ?_ (by first | (simp; done) | (simp; omega) | omega) _ | refine Below.drew ?_ | refine below_drewN ?_ _ | refine Below.alloc ?_ (by first | (simp; done) | (simp; omega) | omega) _ | refine below_alloc ?_ _ | refine below_step ?_ (by assumption)))).mono ?_
      rintro e w2 ⟨rfl, hb⟩
      have hB2 : Below w.heap.size w w2 := (by repeat (first | exact Below.refl _ _ | assumption | refine Below.setCell ?_ (by first | (simp; done) | (simp; omega) | omega) _ | refine Below.drew ?_ | refine below_drewN ?_ _ | refine Below.alloc ?_ (by first | (simp; done) | (simp; omega) | omega) _ | refine below_alloc ?_ _ | refine below_step ?_ (by assumption)))
      go_wp2
      go_loop [11, 12, 13] (fun b m x => ∃ (B L : Int) (k : Nat), b = .int .i64 B ∧ m = .int .i64 L ∧ x = .int .i64 k ∧ (k : Int) ≤ span + 1 ∧ Hid (k = 0 ∧ B = 0 ∧ L = 0 ∨ 0 < k ∧ L = f B ∧ FirstMin f k B)) (fun _ _ x => (span + 1 - intOf x).toNat)
      case atStart => exact ⟨0, 0, 0, rfl, rfl, rfl, by omega, Lib.hid (.inl ⟨rfl, rfl, rfl⟩)⟩
      case round =>
        obtain ⟨B, L, k, rfl, rfl, rfl, hk, hinv⟩ := hrel
        by_cases hlt : (k : Int) ≤ span
        · have hfk := HO.out k
          have hp1 : wt * (span - 2 * k) ≤ 1000000 * 100000 := Int.le_trans (Int.mul_le_mul_of_nonneg_left (show span - 2 * (k : Int) ≤ 100000 by omega) (by omega)) (Int.mul_le_mul_of_nonneg_right hw.2 (by decide))
          have hp2 : -(1000000 * 100000) ≤ wt * (span - 2 * k) := by
            have h5 : wt * (2 * k - span) ≤ 1000000 * 100000 := Int.le_trans (Int.mul_le_mul_of_nonneg_left (show 2 * (k : Int) - span ≤ 100000 by omega) (by omega)) (Int.mul_le_mul_of_nonneg_right hw.2 (by decide))
            have h6 : wt * (2 * k - span) = -(wt * (span - 2 * k)) := by rw [← Int.mul_neg]; congr 1; omega
            omega
          by_cases hk0 : k = 0
          · subst hk0
            have hB0 : B = 0 ∧ L = 0 := by rcases hinv.out with h | h; exact h.2; exact absurd h.1 (by omega)
            obtain ⟨rfl, rfl⟩ := hB0
            have H1 : Hid (FirstMin f 1 0) := Lib.hid ⟨by omega, fun y h1 h2 => absurd h2 (by omega), fun y h1 h2 => absurd h2 (by omega)⟩
            rw [show span - 2 * ((0 : Nat) : Int) = span by omega] at hfk hp1 hp2
            rw [show (((0 : Nat) : Int)) = 0 by rfl] at hfk
            have HFK := Lib.hid hfk
            clear hinv hfk
            by_cases hneg : F - M + wt * span < 0
            · go_wp2
              go_round
              case rel => exact ⟨0, -(F - M + wt * span), 1, rfl, rfl, by go_num, by omega, Lib.hid (.inr ⟨by omega, by have := HFK.out; omega, H1.out⟩)⟩
              case measure => simp [intOf]; omega
            · go_wp2
              go_round
              case rel => exact ⟨0, F - M + wt * span, 1, rfl, rfl, by go_num, by omega, Lib.hid (.inr ⟨by omega, by have := HFK.out; omega, H1.out⟩)⟩
              case measure => simp [intOf]; omega
          · have hin : 0 < k ∧ L = f B ∧ FirstMin f k B := by rcases hinv.out with h | h; exact absurd h.1 hk0; exact h
            have hke : ((k : Int) == 0) = false := by simpa using hk0
            have hst := lev_step hin.2
            have HST := Lib.hid (hst _ rfl)
            have HFK := Lib.hid hfk
            clear hinv hfk hst hin
            by_cases hneg : F - M + wt * (span - 2 * k) < 0
            · have e1 : Hid (f k = -(F - M + wt * (span - 2 * k))) := Lib.hid (by have := HFK.out; omega)
              by_cases hL : -(F - M + wt * (span - 2 * k)) < L
              · have hq := HST.out.1 (by rw [e1.out]; exact hL)
                have HQ := Lib.hid hq
                clear hq
                go_wp2
                go_round
                case rel => exact ⟨k, -(F - M + wt * (span - 2 * k)), k + 1, rfl, rfl, by go_num, by omega, Lib.hid (.inr ⟨by omega, e1.out.symm, HQ.out⟩)⟩
                case measure => simp [intOf]; omega
              · have hq := HST.out.2 (by rw [e1.out]; exact hL)
                have HQ := Lib.hid hq
                clear hq
                go_wp2
                go_round
                case rel => exact ⟨B, L, k + 1, rfl, rfl, by go_num, by omega, Lib.hid (.inr ⟨by omega, HQ.out⟩)⟩
                case measure => simp [intOf]; omega
            · have e1 : Hid (f k = F - M + wt * (span - 2 * k)) := Lib.hid (by have := HFK.out; omega)
              by_cases hL : F - M + wt * (span - 2 * k) < L
              · have hq := HST.out.1 (by rw [e1.out]; exact hL)
                have HQ := Lib.hid hq
                clear hq
                go_wp2
                go_round
                case rel => exact ⟨k, F - M + wt * (span - 2 * k), k + 1, rfl, rfl, by go_num, by omega, Lib.hid (.inr ⟨by omega, e1.out.symm, HQ.out⟩)⟩
                case measure => simp [intOf]; omega
              · have hq := HST.out.2 (by rw [e1.out]; exact hL)
                have HQ := Lib.hid hq
                clear hq
                go_wp2
                go_round
                case rel => exact ⟨B, L, k + 1, rfl, rfl, by go_num, by omega, Lib.hid (.inr ⟨by omega, HQ.out⟩)⟩
                case measure => simp [intOf]; omega
        · have hkk : (k : Int) = span + 1 := by omega
          have hBV : B = V := by
            rcases hinv.out with h | h
            · exact absurd h.1 (by omega)
            · have := h.2.2; rw [hkk] at this; exact this.unique HF.out
          subst hBV
          clear hinv hkk
          go_wp2
          go_ret2
          exact ⟨rfl, hB2⟩
    · rw [if_neg ho] at hE
      have hV : levV span xs wt = 0 := if_neg (by rw [hE]; decide)
      rw [hV, hE]
      have ho' : withinB wt 1 1000000 = false := by simpa using ho
      have C1 := Lib.hid c1
      clear c1 hx hE hV hg ho
      go_enter Try.func52, Try.ntmps52
      go_wp2_with (first | (go_at_call 33; refine (C1.out _ (by repeat (first | exact Below.refl _ _ | assumption | refine Below.setCell ?_ (by first | (simp; done) | (simp; omega) | omega) _ | refine Below.drew ?_ | refine below_drewN ?_ _ | refine Below.alloc ?_ (by first | (simp; done) | (simp; omega) | omega) _ | refine below_alloc ?_ _ | refine below_step ?_ (by assumption)))).mono ?_; rintro e w1 ⟨rfl, hb⟩; have hB_w1 : Below w.heap.size w w1 := (by repeat (first | exact Below.refl _ _ | assumption | refine Below.setCell ?_ (by first | (simp; done) | (simp; omega) | omega) _ | refine Below.drew ?_ | refine below_drewN ?_ _ | refine Below.alloc ?_ (by first | (simp; done) | (simp; omega) | omega) _ | refine below_alloc ?_ _ | refine below_step ?_ (by assumption))); have hz_w1 := hB_w1.size; clear hb) | (go_at_call 64; refine (rwithin_any _ _ _ _).mono ?_; rintro e w' ⟨rfl, rfl⟩))
      go_ret2
      exact ⟨rfl, (by repeat (first | exact Below.refl _ _ | assumption | refine Below.setCell ?_ (by first | (simp; done) | (simp; omega) | omega) _ | refine Below.drew ?_ | refine below_drewN ?_ _ | refine Below.alloc ?_ (by first | (simp; done) | (simp; omega) | omega) _ | refine below_alloc ?_ _ | refine below_step ?_ (by assumption)))⟩
  · rw [if_neg hg] at hE
    have hV : levV span xs wt = 0 := if_neg (by rw [hE]; decide)
    rw [hV, hE]
    have hg' : goodL span xs = false := by simpa using hg
    rw [hg'] at c1
    have C1 := Lib.hid c1
    clear c1 hx hE hV hg hg'
    go_enter Try.func52, Try.ntmps52
    go_wp2_with fail
    refine (C1.out _ (by repeat (first | exact Below.refl _ _ | assumption | refine Below.setCell ?_ (by first | (simp; done) | (simp; omega) | omega) _ | refine Below.drew ?_ | refine below_drewN ?_ _ | refine Below.alloc ?_ (by first | (simp; done) | (simp; omega) | omega) _ | refine below_alloc ?_ _ | refine below_step ?_ (by assumption)))).mono ?_
    rintro e w1 ⟨rfl, hb⟩
    have hB_w1 : Below w.heap.size w w1 := (by repeat (first | exact Below.refl _ _ | assumption | refine Below.setCell ?_ (by first | (simp; done) | (simp; omega) | omega) _ | refine Below.drew ?_ | refine below_drewN ?_ _ | refine Below.alloc ?_ (by first | (simp; done) | (simp; omega) | omega) _ | refine below_alloc ?_ _ | refine below_step ?_ (by assumption))); have hz_w1 := hB_w1.size; clear hb
    go_wp2
    go_ret2
    exact ⟨rfl, (by repeat (first | exact Below.refl _ _ | assumption | refine Below.setCell ?_ (by first | (simp; done) | (simp; omega) | omega) _ | refine Below.drew ?_ | refine below_drewN ?_ _ | refine Below.alloc ?_ (by first | (simp; done) | (simp; omega) | omega) _ | refine below_alloc ?_ _ | refine below_step ?_ (by assumption)))⟩
end Go.Proofs.Ythninhkimhnegaa
