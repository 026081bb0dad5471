/- Cradles: the reference's Walk. -/
import Derived.Test.YthninhkimhnegaaWalkM
set_option linter.unusedSimpArgs false
set_option linter.unusedVariables false
namespace Go.Proofs.Ythninhkimhnegaa
open Go.RowKit
attribute [local go_sem] Later.cell

set_option maxRecDepth 20000 in
set_option maxHeartbeats 4000000 in
theorem rWalk_any (span : Int) (A : Option Addr) (len cap : Nat) (xs : List (Int × Int)) (wt lim : Int) (w : World) (hcap : len ≤ cap ∧ cap ≤ 9223372036854775807) (hx : Pairs w w.heap.size A len xs) :
    Calls Try.prog 50 #[.int .i64 span, .slice A len cap, .int .i64 wt, .int .i64 lim] w fun e w' => e = .returned (.tuple #[.int .i64 (walkL span xs wt lim), .int .i64 (walkH span xs wt lim), .int .i64 (walkE span xs wt lim)]) ∧ Below w.heap.size w w' := by
  have c1 := fun W (h : Below w.heap.size w W) => rValidLoads_any span A len cap xs W (by omega) ((hx.below h).more h.size)
  have hE : walkE span xs wt lim = if goodL span xs then (if okLoad wt && okLoad lim then (if highP span xs wt lim < lowP span xs wt lim then 8 else 0) else 7) else 1 := rfl
  have hL : walkL span xs wt lim = if walkE span xs wt lim = 0 then lowP span xs wt lim else 0 := rfl
  have hH : walkH span xs wt lim = if walkE span xs wt lim = 0 then highP span xs wt lim else 0 := rfl
  by_cases hg : goodL span xs = true
  · rw [if_pos hg] at hE
    rw [hg] at c1
    by_cases ho : (okLoad wt && okLoad lim) = true
    · rw [if_pos ho] at hE
      have ho' := ho
      rw [Bool.and_eq_true] at ho'
      obtain ⟨o1, o2⟩ := ho'
      have hw := okLoad_iff.1 o1
      have hl := okLoad_iff.1 o2
      obtain ⟨⟨h1, h2⟩, h3, h4⟩ := goodL_spec hg
      have hlen := hx.1
      obtain ⟨⟨s1, s2⟩, ⟨s3, s4⟩, ⟨s5, s6⟩, s7⟩ := sums_all (n := 20) (by omega) h2 h4 h3
      have c2 := fun W (h : Below w.heap.size w W) => levers_any span A len cap xs W (by omega) ((hx.below h).more h.size) (by omega) h2 h4
      have hp : 0 ≤ lim * span ∧ lim * span ≤ 1000000 * 100000 := ⟨Int.mul_nonneg hl.1 (by omega), Int.mul_le_mul hl.2 h2 (by omega) (by decide)⟩
      by_cases hz : wt = 0
      · subst hz
        rw [lowP_zero (by omega), highP_zero (by omega), ← s7] at hE
        rw [lowP_zero (by omega), ← s7] at hL
        rw [highP_zero (by omega)] at hH
        clear s7
        generalize fsum span xs = F at *
        generalize msum xs = M at *
        generalize wsum xs = S at *
        have C1 := Lib.hid c1
        have C2 := Lib.hid c2
        clear c1 c2 hx hg h4 ho
        by_cases k1 : F ≤ lim * span
        · rw [if_pos k1] at hE hL
          by_cases k2 : lim * span < M
          · rw [if_pos k2] at hE hH
            rw [if_pos (by omega)] at hE
            rw [hE] at hL hH
            rw [if_neg (by decide)] at hL hH
            rw [hE, hL, hH]
            clear hE hL hH
            go_enter Try.func50, Try.ntmps50
            go_wp2_with fail
            refine (C1.out _ (by repeat (first | exact Below.refl _ _ | assumption | refine Below.setCell ?_ (by first | (simp; done) | (simp; omega) | omega) _ | refine Below.drew ?_ | refine below_drewN ?_ _ | refine Below.alloc ?_ (by first | (simp; done) | (simp; omega) | omega) _ | refine below_alloc ?_ _ | refine below_step ?_ (by assumption)))).mono ?_
            rintro e w1 ⟨rfl, hb⟩
            have hB_w1 : Below w.heap.size w w1 := (by repeat (first | exact Below.refl _ _ | assumption | refine Below.setCell ?_ (by first | (simp; done) | (simp; omega) | omega) _ | refine Below.drew ?_ | refine below_drewN ?_ _ | refine Below.alloc ?_ (by first | (simp; done) | (simp; omega) | omega) _ | refine below_alloc ?_ _ | refine below_step ?_ (by assumption))); have hz_w1 := hB_w1.size; clear hb
            go_wp2_with (go_at_call 69; refine (okload_any _ _).mono ?_; rintro e w' ⟨rfl, rfl⟩)
            refine (C2.out _ (by repeat (first | exact Below.refl _ _ | assumption | refine Below.setCell ?_ (by first | (simp; done) | (simp; omega) | omega) _ | refine Below.drew ?_ | refine below_drewN ?_ _ | refine Below.alloc ?_ (by first | (simp; done) | (simp; omega) | omega) _ | refine below_alloc ?_ _ | refine below_step ?_ (by assumption)))).mono ?_
            rintro e w2 ⟨rfl, hb⟩
            have hB_w2 : Below w.heap.size w w2 := (by repeat (first | exact Below.refl _ _ | assumption | refine Below.setCell ?_ (by first | (simp; done) | (simp; omega) | omega) _ | refine Below.drew ?_ | refine below_drewN ?_ _ | refine Below.alloc ?_ (by first | (simp; done) | (simp; omega) | omega) _ | refine below_alloc ?_ _ | refine below_step ?_ (by assumption))); have hz_w2 := hB_w2.size; clear hb hB_w1
            go_wp2
            go_ret3
            exact ⟨rfl, (by repeat (first | exact Below.refl _ _ | assumption | refine Below.setCell ?_ (by first | (simp; done) | (simp; omega) | omega) _ | refine Below.drew ?_ | refine below_drewN ?_ _ | refine Below.alloc ?_ (by first | (simp; done) | (simp; omega) | omega) _ | refine below_alloc ?_ _ | refine below_step ?_ (by assumption)))⟩
          · rw [if_neg k2] at hE hH
            rw [if_neg (by omega)] at hE
            rw [hE] at hL hH
            rw [if_pos rfl] at hL hH
            rw [hE, hL, hH]
            clear hE hL hH
            go_enter Try.func50, Try.ntmps50
            go_wp2_with fail
            refine (C1.out _ (by repeat (first | exact Below.refl _ _ | assumption | refine Below.setCell ?_ (by first | (simp; done) | (simp; omega) | omega) _ | refine Below.drew ?_ | refine below_drewN ?_ _ | refine Below.alloc ?_ (by first | (simp; done) | (simp; omega) | omega) _ | refine below_alloc ?_ _ | refine below_step ?_ (by assumption)))).mono ?_
            rintro e w1 ⟨rfl, hb⟩
            have hB_w1 : Below w.heap.size w w1 := (by repeat (first | exact Below.refl _ _ | assumption | refine Below.setCell ?_ (by first | (simp; done) | (simp; omega) | omega) _ | refine Below.drew ?_ | refine below_drewN ?_ _ | refine Below.alloc ?_ (by first | (simp; done) | (simp; omega) | omega) _ | refine below_alloc ?_ _ | refine below_step ?_ (by assumption))); have hz_w1 := hB_w1.size; clear hb
            go_wp2_with (go_at_call 69; refine (okload_any _ _).mono ?_; rintro e w' ⟨rfl, rfl⟩)
            refine (C2.out _ (by repeat (first | exact Below.refl _ _ | assumption | refine Below.setCell ?_ (by first | (simp; done) | (simp; omega) | omega) _ | refine Below.drew ?_ | refine below_drewN ?_ _ | refine Below.alloc ?_ (by first | (simp; done) | (simp; omega) | omega) _ | refine below_alloc ?_ _ | refine below_step ?_ (by assumption)))).mono ?_
            rintro e w2 ⟨rfl, hb⟩
            have hB_w2 : Below w.heap.size w w2 := (by repeat (first | exact Below.refl _ _ | assumption | refine Below.setCell ?_ (by first | (simp; done) | (simp; omega) | omega) _ | refine Below.drew ?_ | refine below_drewN ?_ _ | refine Below.alloc ?_ (by first | (simp; done) | (simp; omega) | omega) _ | refine below_alloc ?_ _ | refine below_step ?_ (by assumption))); have hz_w2 := hB_w2.size; clear hb hB_w1
            go_wp2
            go_ret3
            exact ⟨rfl, (by repeat (first | exact Below.refl _ _ | assumption | refine Below.setCell ?_ (by first | (simp; done) | (simp; omega) | omega) _ | refine Below.drew ?_ | refine below_drewN ?_ _ | refine Below.alloc ?_ (by first | (simp; done) | (simp; omega) | omega) _ | refine below_alloc ?_ _ | refine below_step ?_ (by assumption)))⟩
        · rw [if_neg k1] at hE hL
          rw [if_pos (by split <;> omega)] at hE
          rw [hE] at hL hH
          rw [if_neg (by decide)] at hL hH
          rw [hE, hL, hH]
          clear hE hL hH
          go_enter Try.func50, Try.ntmps50
          go_wp2_with fail
          refine (C1.out _ (by repeat (first | exact Below.refl _ _ | assumption | refine Below.setCell ?_ (by first | (simp; done) | (simp; omega) | omega) _ | refine Below.drew ?_ | refine below_drewN ?_ _ | refine Below.alloc ?_ (by first | (simp; done) | (simp; omega) | omega) _ | refine below_alloc ?_ _ | refine below_step ?_ (by assumption)))).mono ?_
          rintro e w1 ⟨rfl, hb⟩
          have hB_w1 : Below w.heap.size w w1 := (by repeat (first | exact Below.refl _ _ | assumption | refine Below.setCell ?_ (by first | (simp; done) | (simp; omega) | omega) _ | refine Below.drew ?_ | refine below_drewN ?_ _ | refine Below.alloc ?_ (by first | (simp; done) | (simp; omega) | omega) _ | refine below_alloc ?_ _ | refine below_step ?_ (by assumption))); have hz_w1 := hB_w1.size; clear hb
          go_wp2_with (go_at_call 69; refine (okload_any _ _).mono ?_; rintro e w' ⟨rfl, rfl⟩)
          refine (C2.out _ (by repeat (first | exact Below.refl _ _ | assumption | refine Below.setCell ?_ (by first | (simp; done) | (simp; omega) | omega) _ | refine Below.drew ?_ | refine below_drewN ?_ _ | refine Below.alloc ?_ (by first | (simp; done) | (simp; omega) | omega) _ | refine below_alloc ?_ _ | refine below_step ?_ (by assumption)))).mono ?_
          rintro e w2 ⟨rfl, hb⟩
          have hB_w2 : Below w.heap.size w w2 := (by repeat (first | exact Below.refl _ _ | assumption | refine Below.setCell ?_ (by first | (simp; done) | (simp; omega) | omega) _ | refine Below.drew ?_ | refine below_drewN ?_ _ | refine Below.alloc ?_ (by first | (simp; done) | (simp; omega) | omega) _ | refine below_alloc ?_ _ | refine below_step ?_ (by assumption))); have hz_w2 := hB_w2.size; clear hb hB_w1
          go_wp2
          go_ret3
          exact ⟨rfl, (by repeat (first | exact Below.refl _ _ | assumption | refine Below.setCell ?_ (by first | (simp; done) | (simp; omega) | omega) _ | refine Below.drew ?_ | refine below_drewN ?_ _ | refine Below.alloc ?_ (by first | (simp; done) | (simp; omega) | omega) _ | refine below_alloc ?_ _ | refine below_step ?_ (by assumption)))⟩
      · rw [lowP_pos (by omega) (by omega), highP_pos (by omega) (by omega), ← s7] at hE
        rw [lowP_pos (by omega) (by omega), ← s7] at hL
        rw [highP_pos (by omega) (by omega)] at hH
        clear s7
        generalize fsum span xs = F at *
        generalize msum xs = M at *
        generalize wsum xs = S at *
        have c5 := fun W => Floor_any (lim * span - F) wt W (by omega) (by omega) (by omega) (by omega)
        have c6 := fun W => Floor_any (lim * span - M) wt W (by omega) (by omega) (by omega) (by omega)
        have b1 := ediv_bd (x := lim * span - F) (wt := wt) (K := 2000000000000) (by omega) (by decide) (by omega) (by omega)
        have b2 := ediv_bd (x := lim * span - M) (wt := wt) (K := 2000000000000) (by omega) (by decide) (by omega) (by omega)
        generalize (lim * span - F) / wt = Q1 at *
        generalize (lim * span - M) / wt = Q2 at *
        have C1 := Lib.hid c1
        have C2 := Lib.hid c2
        have C5 := Lib.hid c5
        have C6 := Lib.hid c6
        have hz' : (wt == 0) = false := by simpa using hz
        clear c1 c2 c5 c6 hx hg h4 ho
        by_cases k1 : 0 < -Q1 + span
        · by_cases k2 : Q2 < span
          · by_cases k3 : Q2 < -Q1 + span
            · rw [if_pos (by omega)] at hE
              rw [hE] at hL hH
              rw [if_neg (by decide)] at hL hH
              rw [hE, hL, hH]
              clear hE hL hH
              go_enter Try.func50, Try.ntmps50
              go_wp2_with (first | (go_at_call 33; refine (C1.out _ (by repeat (first | exact Below.refl _ _ | assumption | refine Below.setCell ?_ (by first | (simp; done) | (simp; omega) | omega) _ | refine Below.drew ?_ | refine below_drewN ?_ _ | refine Below.alloc ?_ (by first | (simp; done) | (simp; omega) | omega) _ | refine below_alloc ?_ _ | refine below_step ?_ (by assumption)))).mono ?_; rintro e w1 ⟨rfl, hb⟩; have hB_w1 : Below w.heap.size w w1 := (by repeat (first | exact Below.refl _ _ | assumption | refine Below.setCell ?_ (by first | (simp; done) | (simp; omega) | omega) _ | refine Below.drew ?_ | refine below_drewN ?_ _ | refine Below.alloc ?_ (by first | (simp; done) | (simp; omega) | omega) _ | refine below_alloc ?_ _ | refine below_step ?_ (by assumption))); have hz_w1 := hB_w1.size; clear hb) | (go_at_call 69; refine (okload_any _ _).mono ?_; rintro e w' ⟨rfl, rfl⟩))
              refine (C2.out _ (by repeat (first | exact Below.refl _ _ | assumption | refine Below.setCell ?_ (by first | (simp; done) | (simp; omega) | omega) _ | refine Below.drew ?_ | refine below_drewN ?_ _ | refine Below.alloc ?_ (by first | (simp; done) | (simp; omega) | omega) _ | refine below_alloc ?_ _ | refine below_step ?_ (by assumption)))).mono ?_
              rintro e w2 ⟨rfl, hb⟩
              have hB2 : Below w.heap.size w w2 := (by repeat (first | exact Below.refl _ _ | assumption | refine Below.setCell ?_ (by first | (simp; done) | (simp; omega) | omega) _ | refine Below.drew ?_ | refine below_drewN ?_ _ | refine Below.alloc ?_ (by first | (simp; done) | (simp; omega) | omega) _ | refine below_alloc ?_ _ | refine below_step ?_ (by assumption)))
              go_wp2_with fail
              refine (C5.out _).mono ?_
              rintro e w3 ⟨rfl, rfl⟩
              go_wp2_with fail
              refine (C6.out _).mono ?_
              rintro e w3 ⟨rfl, rfl⟩
              go_wp2
              go_ret3
              exact ⟨rfl, hB2⟩
            · rw [if_neg (by omega)] at hE
              rw [hE] at hL hH
              rw [if_pos rfl] at hL hH
              rw [show max 0 (min (span - Q1) (span + 1)) = -Q1 + span by omega] at hL
              rw [show max (-1) (min span Q2) = Q2 by omega] at hH
              rw [hE, hL, hH]
              clear hE hL hH
              go_enter Try.func50, Try.ntmps50
              go_wp2_with (first | (go_at_call 33; refine (C1.out _ (by repeat (first | exact Below.refl _ _ | assumption | refine Below.setCell ?_ (by first | (simp; done) | (simp; omega) | omega) _ | refine Below.drew ?_ | refine below_drewN ?_ _ | refine Below.alloc ?_ (by first | (simp; done) | (simp; omega) | omega) _ | refine below_alloc ?_ _ | refine below_step ?_ (by assumption)))).mono ?_; rintro e w1 ⟨rfl, hb⟩; have hB_w1 : Below w.heap.size w w1 := (by repeat (first | exact Below.refl _ _ | assumption | refine Below.setCell ?_ (by first | (simp; done) | (simp; omega) | omega) _ | refine Below.drew ?_ | refine below_drewN ?_ _ | refine Below.alloc ?_ (by first | (simp; done) | (simp; omega) | omega) _ | refine below_alloc ?_ _ | refine below_step ?_ (by assumption))); have hz_w1 := hB_w1.size; clear hb) | (go_at_call 69; refine (okload_any _ _).mono ?_; rintro e w' ⟨rfl, rfl⟩))
              refine (C2.out _ (by repeat (first | exact Below.refl _ _ | assumption | refine Below.setCell ?_ (by first | (simp; done) | (simp; omega) | omega) _ | refine Below.drew ?_ | refine below_drewN ?_ _ | refine Below.alloc ?_ (by first | (simp; done) | (simp; omega) | omega) _ | refine below_alloc ?_ _ | refine below_step ?_ (by assumption)))).mono ?_
              rintro e w2 ⟨rfl, hb⟩
              have hB2 : Below w.heap.size w w2 := (by repeat (first | exact Below.refl _ _ | assumption | refine Below.setCell ?_ (by first | (simp; done) | (simp; omega) | omega) _ | refine Below.drew ?_ | refine below_drewN ?_ _ | refine Below.alloc ?_ (by first | (simp; done) | (simp; omega) | omega) _ | refine below_alloc ?_ _ | refine below_step ?_ (by assumption)))
              go_wp2_with fail
              refine (C5.out _).mono ?_
              rintro e w3 ⟨rfl, rfl⟩
              go_wp2_with fail
              refine (C6.out _).mono ?_
              rintro e w3 ⟨rfl, rfl⟩
              go_wp2
              go_ret3
              exact ⟨rfl, hB2⟩
          · by_cases k3 : span < -Q1 + span
            · rw [if_pos (by omega)] at hE
              rw [hE] at hL hH
              rw [if_neg (by decide)] at hL hH
              rw [hE, hL, hH]
              clear hE hL hH
              go_enter Try.func50, Try.ntmps50
              go_wp2_with (first | (go_at_call 33; refine (C1.out _ (by repeat (first | exact Below.refl _ _ | assumption | refine Below.setCell ?_ (by first | (simp; done) | (simp; omega) | omega) _ | refine Below.drew ?_ | refine below_drewN ?_ _ | refine Below.alloc ?_ (by first | (simp; done) | (simp; omega) | omega) _ | refine below_alloc ?_ _ | refine below_step ?_ (by assumption)))).mono ?_; rintro e w1 ⟨rfl, hb⟩; have hB_w1 : Below w.heap.size w w1 := (by repeat (first | exact Below.refl _ _ | assumption | refine Below.setCell ?_ (by first | (simp; done) | (simp; omega) | omega) _ | refine Below.drew ?_ | refine below_drewN ?_ _ | refine Below.alloc ?_ (by first | (simp; done) | (simp; omega) | omega) _ | refine below_alloc ?_ _ | refine below_step ?_ (by assumption))); have hz_w1 := hB_w1.size; clear hb) | (go_at_call 69; refine (okload_any _ _).mono ?_; rintro e w' ⟨rfl, rfl⟩))
              refine (C2.out _ (by repeat (first | exact Below.refl _ _ | assumption | refine Below.setCell ?_ (by first | (simp; done) | (simp; omega) | omega) _ | refine Below.drew ?_ | refine below_drewN ?_ _ | refine Below.alloc ?_ (by first | (simp; done) | (simp; omega) | omega) _ | refine below_alloc ?_ _ | refine below_step ?_ (by assumption)))).mono ?_
              rintro e w2 ⟨rfl, hb⟩
              have hB2 : Below w.heap.size w w2 := (by repeat (first | exact Below.refl _ _ | assumption | refine Below.setCell ?_ (by first | (simp; done) | (simp; omega) | omega) _ | refine Below.drew ?_ | refine below_drewN ?_ _ | refine Below.alloc ?_ (by first | (simp; done) | (simp; omega) | omega) _ | refine below_alloc ?_ _ | refine below_step ?_ (by assumption)))
              go_wp2_with fail
              refine (C5.out _).mono ?_
              rintro e w3 ⟨rfl, rfl⟩
              go_wp2_with fail
              refine (C6.out _).mono ?_
              rintro e w3 ⟨rfl, rfl⟩
              go_wp2
              go_ret3
              exact ⟨rfl, hB2⟩
            · rw [if_neg (by omega)] at hE
              rw [hE] at hL hH
              rw [if_pos rfl] at hL hH
              rw [show max 0 (min (span - Q1) (span + 1)) = -Q1 + span by omega] at hL
              rw [show max (-1) (min span Q2) = span by omega] at hH
              rw [hE, hL, hH]
              clear hE hL hH
              go_enter Try.func50, Try.ntmps50
              go_wp2_with (first | (go_at_call 33; refine (C1.out _ (by repeat (first | exact Below.refl _ _ | assumption | refine Below.setCell ?_ (by first | (simp; done) | (simp; omega) | omega) _ | refine Below.drew ?_ | refine below_drewN ?_ _ | refine Below.alloc ?_ (by first | (simp; done) | (simp; omega) | omega) _ | refine below_alloc ?_ _ | refine below_step ?_ (by assumption)))).mono ?_; rintro e w1 ⟨rfl, hb⟩; have hB_w1 : Below w.heap.size w w1 := (by repeat (first | exact Below.refl _ _ | assumption | refine Below.setCell ?_ (by first | (simp; done) | (simp; omega) | omega) _ | refine Below.drew ?_ | refine below_drewN ?_ _ | refine Below.alloc ?_ (by first | (simp; done) | (simp; omega) | omega) _ | refine below_alloc ?_ _ | refine below_step ?_ (by assumption))); have hz_w1 := hB_w1.size; clear hb) | (go_at_call 69; refine (okload_any _ _).mono ?_; rintro e w' ⟨rfl, rfl⟩))
              refine (C2.out _ (by repeat (first | exact Below.refl _ _ | assumption | refine Below.setCell ?_ (by first | (simp; done) | (simp; omega) | omega) _ | refine Below.drew ?_ | refine below_drewN ?_ _ | refine Below.alloc ?_ (by first | (simp; done) | (simp; omega) | omega) _ | refine below_alloc ?_ _ | refine below_step ?_ (by assumption)))).mono ?_
              rintro e w2 ⟨rfl, hb⟩
              have hB2 : Below w.heap.size w w2 := (by repeat (first | exact Below.refl _ _ | assumption | refine Below.setCell ?_ (by first | (simp; done) | (simp; omega) | omega) _ | refine Below.drew ?_ | refine below_drewN ?_ _ | refine Below.alloc ?_ (by first | (simp; done) | (simp; omega) | omega) _ | refine below_alloc ?_ _ | refine below_step ?_ (by assumption)))
              go_wp2_with fail
              refine (C5.out _).mono ?_
              rintro e w3 ⟨rfl, rfl⟩
              go_wp2_with fail
              refine (C6.out _).mono ?_
              rintro e w3 ⟨rfl, rfl⟩
              go_wp2
              go_ret3
              exact ⟨rfl, hB2⟩
        · by_cases k2 : Q2 < span
          · by_cases k3 : Q2 < 0
            · rw [if_pos (by omega)] at hE
              rw [hE] at hL hH
              rw [if_neg (by decide)] at hL hH
              rw [hE, hL, hH]
              clear hE hL hH
              go_enter Try.func50, Try.ntmps50
              go_wp2_with (first | (go_at_call 33; refine (C1.out _ (by repeat (first | exact Below.refl _ _ | assumption | refine Below.setCell ?_ (by first | (simp; done) | (simp; omega) | omega) _ | refine Below.drew ?_ | refine below_drewN ?_ _ | refine Below.alloc ?_ (by first | (simp; done) | (simp; omega) | omega) _ | refine below_alloc ?_ _ | refine below_step ?_ (by assumption)))).mono ?_; rintro e w1 ⟨rfl, hb⟩; have hB_w1 : Below w.heap.size w w1 := (by repeat (first | exact Below.refl _ _ | assumption | refine Below.setCell ?_ (by first | (simp; done) | (simp; omega) | omega) _ | refine Below.drew ?_ | refine below_drewN ?_ _ | refine Below.alloc ?_ (by first | (simp; done) | (simp; omega) | omega) _ | refine below_alloc ?_ _ | refine below_step ?_ (by assumption))); have hz_w1 := hB_w1.size; clear hb) | (go_at_call 69; refine (okload_any _ _).mono ?_; rintro e w' ⟨rfl, rfl⟩))
              refine (C2.out _ (by repeat (first | exact Below.refl _ _ | assumption | refine Below.setCell ?_ (by first | (simp; done) | (simp; omega) | omega) _ | refine Below.drew ?_ | refine below_drewN ?_ _ | refine Below.alloc ?_ (by first | (simp; done) | (simp; omega) | omega) _ | refine below_alloc ?_ _ | refine below_step ?_ (by assumption)))).mono ?_
              rintro e w2 ⟨rfl, hb⟩
              have hB2 : Below w.heap.size w w2 := (by repeat (first | exact Below.refl _ _ | assumption | refine Below.setCell ?_ (by first | (simp; done) | (simp; omega) | omega) _ | refine Below.drew ?_ | refine below_drewN ?_ _ | refine Below.alloc ?_ (by first | (simp; done) | (simp; omega) | omega) _ | refine below_alloc ?_ _ | refine below_step ?_ (by assumption)))
              go_wp2_with fail
              refine (C5.out _).mono ?_
              rintro e w3 ⟨rfl, rfl⟩
              go_wp2_with fail
              refine (C6.out _).mono ?_
              rintro e w3 ⟨rfl, rfl⟩
              go_wp2
              go_ret3
              exact ⟨rfl, hB2⟩
            · rw [if_neg (by omega)] at hE
              rw [hE] at hL hH
              rw [if_pos rfl] at hL hH
              rw [show max 0 (min (span - Q1) (span + 1)) = 0 by omega] at hL
              rw [show max (-1) (min span Q2) = Q2 by omega] at hH
              rw [hE, hL, hH]
              clear hE hL hH
              go_enter Try.func50, Try.ntmps50
              go_wp2_with (first | (go_at_call 33; refine (C1.out _ (by repeat (first | exact Below.refl _ _ | assumption | refine Below.setCell ?_ (by first | (simp; done) | (simp; omega) | omega) _ | refine Below.drew ?_ | refine below_drewN ?_ _ | refine Below.alloc ?_ (by first | (simp; done) | (simp; omega) | omega) _ | refine below_alloc ?_ _ | refine below_step ?_ (by assumption)))).mono ?_; rintro e w1 ⟨rfl, hb⟩; have hB_w1 : Below w.heap.size w w1 := (by repeat (first | exact Below.refl _ _ | assumption | refine Below.setCell ?_ (by first | (simp; done) | (simp; omega) | omega) _ | refine Below.drew ?_ | refine below_drewN ?_ _ | refine Below.alloc ?_ (by first | (simp; done) | (simp; omega) | omega) _ | refine below_alloc ?_ _ | refine below_step ?_ (by assumption))); have hz_w1 := hB_w1.size; clear hb) | (go_at_call 69; refine (okload_any _ _).mono ?_; rintro e w' ⟨rfl, rfl⟩))
              refine (C2.out _ (by repeat (first | exact Below.refl _ _ | assumption | refine Below.setCell ?_ (by first | (simp; done) | (simp; omega) | omega) _ | refine Below.drew ?_ | refine below_drewN ?_ _ | refine Below.alloc ?_ (by first | (simp; done) | (simp; omega) | omega) _ | refine below_alloc ?_ _ | refine below_step ?_ (by assumption)))).mono ?_
              rintro e w2 ⟨rfl, hb⟩
              have hB2 : Below w.heap.size w w2 := (by repeat (first | exact Below.refl _ _ | assumption | refine Below.setCell ?_ (by first | (simp; done) | (simp; omega) | omega) _ | refine Below.drew ?_ | refine below_drewN ?_ _ | refine Below.alloc ?_ (by first | (simp; done) | (simp; omega) | omega) _ | refine below_alloc ?_ _ | refine below_step ?_ (by assumption)))
              go_wp2_with fail
              refine (C5.out _).mono ?_
              rintro e w3 ⟨rfl, rfl⟩
              go_wp2_with fail
              refine (C6.out _).mono ?_
              rintro e w3 ⟨rfl, rfl⟩
              go_wp2
              go_ret3
              exact ⟨rfl, hB2⟩
          · by_cases k3 : span < 0
            · omega
            · rw [if_neg (by omega)] at hE
              rw [hE] at hL hH
              rw [if_pos rfl] at hL hH
              rw [show max 0 (min (span - Q1) (span + 1)) = 0 by omega] at hL
              rw [show max (-1) (min span Q2) = span by omega] at hH
              rw [hE, hL, hH]
              clear hE hL hH
              go_enter Try.func50, Try.ntmps50
              go_wp2_with (first | (go_at_call 33; refine (C1.out _ (by repeat (first | exact Below.refl _ _ | assumption | refine Below.setCell ?_ (by first | (simp; done) | (simp; omega) | omega) _ | refine Below.drew ?_ | refine below_drewN ?_ _ | refine Below.alloc ?_ (by first | (simp; done) | (simp; omega) | omega) _ | refine below_alloc ?_ _ | refine below_step ?_ (by assumption)))).mono ?_; rintro e w1 ⟨rfl, hb⟩; have hB_w1 : Below w.heap.size w w1 := (by repeat (first | exact Below.refl _ _ | assumption | refine Below.setCell ?_ (by first | (simp; done) | (simp; omega) | omega) _ | refine Below.drew ?_ | refine below_drewN ?_ _ | refine Below.alloc ?_ (by first | (simp; done) | (simp; omega) | omega) _ | refine below_alloc ?_ _ | refine below_step ?_ (by assumption))); have hz_w1 := hB_w1.size; clear hb) | (go_at_call 69; refine (okload_any _ _).mono ?_; rintro e w' ⟨rfl, rfl⟩))
              refine (C2.out _ (by repeat (first | exact Below.refl _ _ | assumption | refine Below.setCell ?_ (by first | (simp; done) | (simp; omega) | omega) _ | refine Below.drew ?_ | refine below_drewN ?_ _ | refine Below.alloc ?_ (by first | (simp; done) | (simp; omega) | omega) _ | refine below_alloc ?_ _ | refine below_step ?_ (by assumption)))).mono ?_
              rintro e w2 ⟨rfl, hb⟩
              have hB2 : Below w.heap.size w w2 := (by repeat (first | exact Below.refl _ _ | assumption | refine Below.setCell ?_ (by first | (simp; done) | (simp; omega) | omega) _ | refine Below.drew ?_ | refine below_drewN ?_ _ | refine Below.alloc ?_ (by first | (simp; done) | (simp; omega) | omega) _ | refine below_alloc ?_ _ | refine below_step ?_ (by assumption)))
              go_wp2_with fail
              refine (C5.out _).mono ?_
              rintro e w3 ⟨rfl, rfl⟩
              go_wp2_with fail
              refine (C6.out _).mono ?_
              rintro e w3 ⟨rfl, rfl⟩
              go_wp2
              go_ret3
              exact ⟨rfl, hB2⟩
    · rw [if_neg ho] at hE
      rw [hE] at hL hH
      rw [if_neg (by decide)] at hL hH
      rw [hE, hL, hH]
      have ho' : (okLoad wt && okLoad lim) = false := by simpa using ho
      have C1 := Lib.hid c1
      clear c1 hx hE hL hH hg ho
      by_cases o1 : okLoad wt = true
      · have o2 : okLoad lim = false := by rw [o1, Bool.true_and] at ho'; exact ho'
        clear ho'
        go_enter Try.func50, Try.ntmps50
        go_wp2_with (first | (go_at_call 33; refine (C1.out _ (by repeat (first | exact Below.refl _ _ | assumption | refine Below.setCell ?_ (by first | (simp; done) | (simp; omega) | omega) _ | refine Below.drew ?_ | refine below_drewN ?_ _ | refine Below.alloc ?_ (by first | (simp; done) | (simp; omega) | omega) _ | refine below_alloc ?_ _ | refine below_step ?_ (by assumption)))).mono ?_; rintro e w1 ⟨rfl, hb⟩; have hB_w1 : Below w.heap.size w w1 := (by repeat (first | exact Below.refl _ _ | assumption | refine Below.setCell ?_ (by first | (simp; done) | (simp; omega) | omega) _ | refine Below.drew ?_ | refine below_drewN ?_ _ | refine Below.alloc ?_ (by first | (simp; done) | (simp; omega) | omega) _ | refine below_alloc ?_ _ | refine below_step ?_ (by assumption))); have hz_w1 := hB_w1.size; clear hb) | (go_at_call 69; refine (okload_any _ _).mono ?_; rintro e w' ⟨rfl, rfl⟩))
        go_ret3
        exact ⟨rfl, (by repeat (first | exact Below.refl _ _ | assumption | refine Below.setCell ?_ (by first | (simp; done) | (simp; omega) | omega) _ | refine Below.drew ?_ | refine below_drewN ?_ _ | refine Below.alloc ?_ (by first | (simp; done) | (simp; omega) | omega) _ | refine below_alloc ?_ _ | refine below_step ?_ (by assumption)))⟩
      · have o1' : okLoad wt = false := by simpa using o1
        clear ho' o1
        go_enter Try.func50, Try.ntmps50
        go_wp2_with (first | (go_at_call 33; refine (C1.out _ (by repeat (first | exact Below.refl _ _ | assumption | refine Below.setCell ?_ (by first | (simp; done) | (simp; omega) | omega) _ | refine Below.drew ?_ | refine below_drewN ?_ _ | refine Below.alloc ?_ (by first | (simp; done) | (simp; omega) | omega) _ | refine below_alloc ?_ _ | refine below_step ?_ (by assumption)))).mono ?_; rintro e w1 ⟨rfl, hb⟩; have hB_w1 : Below w.heap.size w w1 := (by repeat (first | exact Below.refl _ _ | assumption | refine Below.setCell ?_ (by first | (simp; done) | (simp; omega) | omega) _ | refine Below.drew ?_ | refine below_drewN ?_ _ | refine Below.alloc ?_ (by first | (simp; done) | (simp; omega) | omega) _ | refine below_alloc ?_ _ | refine below_step ?_ (by assumption))); have hz_w1 := hB_w1.size; clear hb) | (go_at_call 69; refine (okload_any _ _).mono ?_; rintro e w' ⟨rfl, rfl⟩))
        go_ret3
        exact ⟨rfl, (by repeat (first | exact Below.refl _ _ | assumption | refine Below.setCell ?_ (by first | (simp; done) | (simp; omega) | omega) _ | refine Below.drew ?_ | refine below_drewN ?_ _ | refine Below.alloc ?_ (by first | (simp; done) | (simp; omega) | omega) _ | refine below_alloc ?_ _ | refine below_step ?_ (by assumption)))⟩
  · rw [if_neg hg] at hE
    rw [hE] at hL hH
    rw [if_neg (by decide)] at hL hH
    have hg' : goodL span xs = false := by simpa using hg
    rw [hg'] at c1
    rw [hE, hL, hH]
    have C1 := Lib.hid c1
    clear c1 hx hE hL hH hg hg'
    go_enter Try.func50, Try.ntmps50
    go_wp2_with fail
    refine (C1.out _ (by repeat (first | exact Below.refl _ _ | assumption | refine Below.setCell ?_ (by first | (simp; done) | (simp; omega) | omega) _ | refine Below.drew ?_ | refine below_drewN ?_ _ | refine Below.alloc ?_ (by first | (simp; done) | (simp; omega) | omega) _ | refine below_alloc ?_ _ | refine below_step ?_ (by assumption)))).mono ?_
    rintro e w1 ⟨rfl, hb⟩
    have hB_w1 : Below w.heap.size w w1 := (by repeat (first | exact Below.refl _ _ | assumption | refine Below.setCell ?_ (by first | (simp; done) | (simp; omega) | omega) _ | refine Below.drew ?_ | refine below_drewN ?_ _ | refine Below.alloc ?_ (by first | (simp; done) | (simp; omega) | omega) _ | refine below_alloc ?_ _ | refine below_step ?_ (by assumption))); have hz_w1 := hB_w1.size; clear hb
    go_wp2
    go_ret3
    exact ⟨rfl, (by repeat (first | exact Below.refl _ _ | assumption | refine Below.setCell ?_ (by first | (simp; done) | (simp; omega) | omega) _ | refine Below.drew ?_ | refine below_drewN ?_ _ | refine Below.alloc ?_ (by first | (simp; done) | (simp; omega) | omega) _ | refine below_alloc ?_ _ | refine below_step ?_ (by assumption)))⟩
end Go.Proofs.Ythninhkimhnegaa
