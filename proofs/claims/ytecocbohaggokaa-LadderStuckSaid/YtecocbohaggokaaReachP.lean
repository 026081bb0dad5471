/- How high one can come, and what a height proves: the program. -/
import Derived.Test.YtecocbohaggokaaReachR
set_option linter.unusedSimpArgs false
set_option linter.unusedVariables false
namespace Go.Proofs.Ytecocbohaggokaa
open Go.RowKit Go.Maps
attribute [local go_sem] Later.cell

set_option maxRecDepth 20000 in
set_option maxHeartbeats 8000000 in
theorem Proves_any (c : Clb) (A : Option Addr) (len cap : Nat) (l : List J) (h : Int) (w : World) (hm : len ≤ 9223372036854775807) (hx : Rows 2 jointV dJ w w.heap.size A len l) :
    Calls Try.prog 28 #[climbV c, .slice A len cap, .int .i64 h] w fun e w' => e = .returned (.bool (prvB c l h)) ∧ Below w.heap.size w w' := by
  have hP : prvB c l h = ((vC c && vJ l) && (withinB h 0 200000 && (!(decide (0 < h) && decide (c.to ≤ h + c.ga)) && (sndL l l.length).all (prvX c l h)))) := rfl
  have c1 := fun W (h : Below w.heap.size w W) => valid_any c A len cap l W hm ((hx.below h).more h.size)
  cases hv : (vC c && vJ l)
  · rw [hv, Bool.false_and] at hP
    rw [hv] at c1
    rw [hP]
    have C1 := Lib.hid c1
    clear c1 hx hv hP
    go_enter Try.func28, Try.ntmps28
    go_wp2_with fail
    refine (C1.out _ (by repeat (first | exact Below.refl _ _ | assumption | refine Below.setCell ?_ (by first | (simp; done) | (simp; omega) | omega) _ | refine Below.drew ?_ | refine below_drewN ?_ _ | refine Below.alloc ?_ (by first | (simp; done) | (simp; omega) | omega) _ | refine below_alloc ?_ _ | refine below_step ?_ (by assumption)))).mono ?_
    rintro e w1 ⟨rfl, hb⟩
    have hB_w1 : Below w.heap.size w w1 := (by repeat (first | exact Below.refl _ _ | assumption | refine Below.setCell ?_ (by first | (simp; done) | (simp; omega) | omega) _ | refine Below.drew ?_ | refine below_drewN ?_ _ | refine Below.alloc ?_ (by first | (simp; done) | (simp; omega) | omega) _ | refine below_alloc ?_ _ | refine below_step ?_ (by assumption))); have hz_w1 := hB_w1.size; clear hb
    go_wp2
    go_ret
    exact ⟨rfl, (by repeat (first | exact Below.refl _ _ | assumption | refine Below.setCell ?_ (by first | (simp; done) | (simp; omega) | omega) _ | refine Below.drew ?_ | refine below_drewN ?_ _ | refine Below.alloc ?_ (by first | (simp; done) | (simp; omega) | omega) _ | refine below_alloc ?_ _ | refine below_step ?_ (by assumption)))⟩
  · rw [hv, Bool.true_and] at hP
    rw [hv] at c1
    have C1 := Lib.hid c1
    clear c1
    cases hwi : withinB h 0 200000
    · rw [hwi, Bool.false_and] at hP
      rw [hP]
      clear hx hv hP
      go_enter Try.func28, Try.ntmps28
      go_wp2_with fail
      refine (C1.out _ (by repeat (first | exact Below.refl _ _ | assumption | refine Below.setCell ?_ (by first | (simp; done) | (simp; omega) | omega) _ | refine Below.drew ?_ | refine below_drewN ?_ _ | refine Below.alloc ?_ (by first | (simp; done) | (simp; omega) | omega) _ | refine below_alloc ?_ _ | refine below_step ?_ (by assumption)))).mono ?_
      rintro e w1 ⟨rfl, hb⟩
      have hB_w1 : Below w.heap.size w w1 := (by repeat (first | exact Below.refl _ _ | assumption | refine Below.setCell ?_ (by first | (simp; done) | (simp; omega) | omega) _ | refine Below.drew ?_ | refine below_drewN ?_ _ | refine Below.alloc ?_ (by first | (simp; done) | (simp; omega) | omega) _ | refine below_alloc ?_ _ | refine below_step ?_ (by assumption))); have hz_w1 := hB_w1.size; clear hb
      go_wp2_with (go_at_call 53; refine (within_any _ _ _ _).mono ?_; rintro e w' ⟨rfl, rfl⟩)
      go_ret
      exact ⟨rfl, (by repeat (first | exact Below.refl _ _ | assumption | refine Below.setCell ?_ (by first | (simp; done) | (simp; omega) | omega) _ | refine Below.drew ?_ | refine below_drewN ?_ _ | refine Below.alloc ?_ (by first | (simp; done) | (simp; omega) | omega) _ | refine below_alloc ?_ _ | refine below_step ?_ (by assumption)))⟩
    · have hvv := Bool.and_eq_true .. ▸ hv
      have hvc := vC_spec hvv.1
      have hga := hvc.2.1
      have hvj := vJ_spec hvv.2
      obtain rfl : l.length = len := hx.1
      have hlen2 := hvj.1
      have hw := withinB_iff.1 hwi
      have c2 := fun W (h : Below w.heap.size w W) => sound_any A l.length cap l W (by omega) ((hx.below h).more h.size)
      have C2 := Lib.hid c2
      rw [hwi, Bool.true_and] at hP
      clear c2
      by_cases hb1 : 0 < h ∧ c.to ≤ h + c.ga
      · rw [decide_eq_true hb1.1, decide_eq_true hb1.2] at hP
        rw [hP]
        obtain ⟨hb1, hb2⟩ := hb1
        clear hx hv hP hvc hvj hvv
        go_enter Try.func28, Try.ntmps28
        go_wp2_with fail
        refine (C1.out _ (by repeat (first | exact Below.refl _ _ | assumption | refine Below.setCell ?_ (by first | (simp; done) | (simp; omega) | omega) _ | refine Below.drew ?_ | refine below_drewN ?_ _ | refine Below.alloc ?_ (by first | (simp; done) | (simp; omega) | omega) _ | refine below_alloc ?_ _ | refine below_step ?_ (by assumption)))).mono ?_
        rintro e w1 ⟨rfl, hb⟩
        have hB_w1 : Below w.heap.size w w1 := (by repeat (first | exact Below.refl _ _ | assumption | refine Below.setCell ?_ (by first | (simp; done) | (simp; omega) | omega) _ | refine Below.drew ?_ | refine below_drewN ?_ _ | refine Below.alloc ?_ (by first | (simp; done) | (simp; omega) | omega) _ | refine below_alloc ?_ _ | refine below_step ?_ (by assumption))); have hz_w1 := hB_w1.size; have hsw10 : w.heap.size < w1.heap.size := Nat.lt_of_lt_of_le (by first | (simp; done) | (simp; omega) | omega) hb.size; have hnw10 : ¬ w.heap.size = w1.heap.size := (by omega); have hmw10 : ¬ w1.heap.size = w.heap.size := (by omega); have hlw10_0 : w.heap.size ≤ w1.heap.size := (by omega); have hlw10_1 : w.heap.size ≤ w1.heap.size + 1 := (by omega); have hlw10_2 : w.heap.size ≤ w1.heap.size + 1 + 1 := (by omega); have hkw10 : w1.cell? ⟨w.heap.size, 0, none⟩ = some (.int .i64 c.fi) := (by rw [hb.cell (p := ⟨w.heap.size, 0, none⟩) (by first | (simp; done) | (simp; omega) | omega)]; first | (go_simp; done) | assumption); have hkw11 : w1.cell? ⟨w.heap.size, 1, none⟩ = some (.int .i64 c.ga) := (by rw [hb.cell (p := ⟨w.heap.size, 1, none⟩) (by first | (simp; done) | (simp; omega) | omega)]; first | (go_simp; done) | assumption); have hkw12 : w1.cell? ⟨w.heap.size, 2, none⟩ = some (.int .i64 c.to) := (by rw [hb.cell (p := ⟨w.heap.size, 2, none⟩) (by first | (simp; done) | (simp; omega) | omega)]; first | (go_simp; done) | assumption); have hkw13 : w1.cell? ⟨w.heap.size, 3, none⟩ = some (.int .i64 c.le) := (by rw [hb.cell (p := ⟨w.heap.size, 3, none⟩) (by first | (simp; done) | (simp; omega) | omega)]; first | (go_simp; done) | assumption); have hkw14 : w1.cell? ⟨w.heap.size, 4, none⟩ = some (.int .i64 c.la) := (by rw [hb.cell (p := ⟨w.heap.size, 4, none⟩) (by first | (simp; done) | (simp; omega) | omega)]; first | (go_simp; done) | assumption); have hkw15 : w1.cell? ⟨w.heap.size, 5, none⟩ = some (.int .i64 c.st) := (by rw [hb.cell (p := ⟨w.heap.size, 5, none⟩) (by first | (simp; done) | (simp; omega) | omega)]; first | (go_simp; done) | assumption); clear hb
        go_wp2_with (go_at_call 53; refine (within_any _ _ _ _).mono ?_; rintro e w' ⟨rfl, rfl⟩)
        go_ret
        exact ⟨rfl, (by repeat (first | exact Below.refl _ _ | assumption | refine Below.setCell ?_ (by first | (simp; done) | (simp; omega) | omega) _ | refine Below.drew ?_ | refine below_drewN ?_ _ | refine Below.alloc ?_ (by first | (simp; done) | (simp; omega) | omega) _ | refine below_alloc ?_ _ | refine below_step ?_ (by assumption)))⟩
      · have hP2 : prvB c l h = (sndL l l.length).all (prvX c l h) := by
          rw [hP]
          have : (!(decide (0 < h) && decide (c.to ≤ h + c.ga))) = true := by
            rw [Bool.not_eq_true', Bool.and_eq_false_iff, decide_eq_false_iff_not, decide_eq_false_iff_not]; omega
          rw [this, Bool.true_and]
        have HX := Lib.hid hx
        have HVJ := Lib.hid hvj
        have HP := Lib.hid hP2
        have hb2 : ¬ 0 < h ∨ (0 < h ∧ ¬ c.to ≤ h + c.ga) := by omega
        clear hx hv hP hP2 hvc hvj hvv hb1
        rcases hb2 with hb2 | ⟨hb2, hb3⟩
        · have hq : True := trivial
          go_enter Try.func28, Try.ntmps28
          go_wp2_with fail
          refine (C1.out _ (by repeat (first | exact Below.refl _ _ | assumption | refine Below.setCell ?_ (by first | (simp; done) | (simp; omega) | omega) _ | refine Below.drew ?_ | refine below_drewN ?_ _ | refine Below.alloc ?_ (by first | (simp; done) | (simp; omega) | omega) _ | refine below_alloc ?_ _ | refine below_step ?_ (by assumption)))).mono ?_
          rintro e w1 ⟨rfl, hb⟩
          have hB_w1 : Below w.heap.size w w1 := (by repeat (first | exact Below.refl _ _ | assumption | refine Below.setCell ?_ (by first | (simp; done) | (simp; omega) | omega) _ | refine Below.drew ?_ | refine below_drewN ?_ _ | refine Below.alloc ?_ (by first | (simp; done) | (simp; omega) | omega) _ | refine below_alloc ?_ _ | refine below_step ?_ (by assumption))); have hz_w1 := hB_w1.size; have hsw10 : w.heap.size < w1.heap.size := Nat.lt_of_lt_of_le (by first | (simp; done) | (simp; omega) | omega) hb.size; have hnw10 : ¬ w.heap.size = w1.heap.size := (by omega); have hmw10 : ¬ w1.heap.size = w.heap.size := (by omega); have hlw10_0 : w.heap.size ≤ w1.heap.size := (by omega); have hlw10_1 : w.heap.size ≤ w1.heap.size + 1 := (by omega); have hlw10_2 : w.heap.size ≤ w1.heap.size + 1 + 1 := (by omega); have hkw10 : w1.cell? ⟨w.heap.size, 0, none⟩ = some (.int .i64 c.fi) := (by rw [hb.cell (p := ⟨w.heap.size, 0, none⟩) (by first | (simp; done) | (simp; omega) | omega)]; first | (go_simp; done) | assumption); have hkw11 : w1.cell? ⟨w.heap.size, 1, none⟩ = some (.int .i64 c.ga) := (by rw [hb.cell (p := ⟨w.heap.size, 1, none⟩) (by first | (simp; done) | (simp; omega) | omega)]; first | (go_simp; done) | assumption); have hkw12 : w1.cell? ⟨w.heap.size, 2, none⟩ = some (.int .i64 c.to) := (by rw [hb.cell (p := ⟨w.heap.size, 2, none⟩) (by first | (simp; done) | (simp; omega) | omega)]; first | (go_simp; done) | assumption); have hkw13 : w1.cell? ⟨w.heap.size, 3, none⟩ = some (.int .i64 c.le) := (by rw [hb.cell (p := ⟨w.heap.size, 3, none⟩) (by first | (simp; done) | (simp; omega) | omega)]; first | (go_simp; done) | assumption); have hkw14 : w1.cell? ⟨w.heap.size, 4, none⟩ = some (.int .i64 c.la) := (by rw [hb.cell (p := ⟨w.heap.size, 4, none⟩) (by first | (simp; done) | (simp; omega) | omega)]; first | (go_simp; done) | assumption); have hkw15 : w1.cell? ⟨w.heap.size, 5, none⟩ = some (.int .i64 c.st) := (by rw [hb.cell (p := ⟨w.heap.size, 5, none⟩) (by first | (simp; done) | (simp; omega) | omega)]; first | (go_simp; done) | assumption); clear hb
          go_wp2_with (go_at_call 53; refine (within_any _ _ _ _).mono ?_; rintro e w' ⟨rfl, rfl⟩)
          refine (C2.out _ (by repeat (first | exact Below.refl _ _ | assumption | refine Below.setCell ?_ (by first | (simp; done) | (simp; omega) | omega) _ | refine Below.drew ?_ | refine below_drewN ?_ _ | refine Below.alloc ?_ (by first | (simp; done) | (simp; omega) | omega) _ | refine below_alloc ?_ _ | refine below_step ?_ (by assumption)))).mono ?_
          rintro e w2 ⟨⟨v2, rfl, ho2⟩, hb⟩
          obtain ⟨A2, cap2, rfl, hn3, hn4, hI2', -⟩ := own_ints ho2
          have hsl : (sndI l l.length).length = (sndL l l.length).length := by simp [sndI]
          rw [hsl] at hI2' hn3 ⊢
          have HI2 := Lib.hid hI2'
          clear ho2 hI2' hsl
          have hB_w2 : Below w.heap.size w w2 := (by repeat (first | exact Below.refl _ _ | assumption | refine Below.setCell ?_ (by first | (simp; done) | (simp; omega) | omega) _ | refine Below.drew ?_ | refine below_drewN ?_ _ | refine Below.alloc ?_ (by first | (simp; done) | (simp; omega) | omega) _ | refine below_alloc ?_ _ | refine below_step ?_ (by assumption))); have hz_w2 := hB_w2.size; have hsw20 : w.heap.size < w2.heap.size := Nat.lt_of_lt_of_le (by first | (simp; done) | (simp; omega) | omega) hb.size; have hnw20 : ¬ w.heap.size = w2.heap.size := (by omega); have hmw20 : ¬ w2.heap.size = w.heap.size := (by omega); have hlw20_0 : w.heap.size ≤ w2.heap.size := (by omega); have hlw20_1 : w.heap.size ≤ w2.heap.size + 1 := (by omega); have hlw20_2 : w.heap.size ≤ w2.heap.size + 1 + 1 := (by omega); have hkw20 : w2.cell? ⟨w.heap.size, 0, none⟩ = some (.int .i64 c.fi) := (by rw [hb.cell (p := ⟨w.heap.size, 0, none⟩) (by first | (simp; done) | (simp; omega) | omega)]; first | (go_simp; done) | assumption); have hkw21 : w2.cell? ⟨w.heap.size, 1, none⟩ = some (.int .i64 c.ga) := (by rw [hb.cell (p := ⟨w.heap.size, 1, none⟩) (by first | (simp; done) | (simp; omega) | omega)]; first | (go_simp; done) | assumption); have hkw22 : w2.cell? ⟨w.heap.size, 2, none⟩ = some (.int .i64 c.to) := (by rw [hb.cell (p := ⟨w.heap.size, 2, none⟩) (by first | (simp; done) | (simp; omega) | omega)]; first | (go_simp; done) | assumption); have hkw23 : w2.cell? ⟨w.heap.size, 3, none⟩ = some (.int .i64 c.le) := (by rw [hb.cell (p := ⟨w.heap.size, 3, none⟩) (by first | (simp; done) | (simp; omega) | omega)]; first | (go_simp; done) | assumption); have hkw24 : w2.cell? ⟨w.heap.size, 4, none⟩ = some (.int .i64 c.la) := (by rw [hb.cell (p := ⟨w.heap.size, 4, none⟩) (by first | (simp; done) | (simp; omega) | omega)]; first | (go_simp; done) | assumption); have hkw25 : w2.cell? ⟨w.heap.size, 5, none⟩ = some (.int .i64 c.st) := (by rw [hb.cell (p := ⟨w.heap.size, 5, none⟩) (by first | (simp; done) | (simp; omega) | omega)]; first | (go_simp; done) | assumption); clear hb hB_w1 hlw10_0 hlw10_1 hlw10_2 hkw10 hkw11 hkw12 hkw13 hkw14 hkw15
          have hnl := sndL_len l l.length
          generalize hnn : (sndL l l.length).length = n at *
          have HNN := Lib.hid hnn
          clear hnn
          go_wp2
          go_loop [35] (fun i => ∃ r : Nat, r ≤ n ∧ i = .int .i64 r ∧ Hid (((sndL l l.length).take r).all (prvX c l h) = true)) (fun i => n - (intOf i).toNat)
          case atStart => exact ⟨0, Nat.zero_le _, rfl, Lib.hid rfl⟩
          case round =>
            obtain ⟨r, hr, rfl, hT⟩ := hrel
            by_cases hlt : r < n
            · obtain ⟨K, hK⟩ : ∃ K, (sndL l l.length)[r]? = some K := ⟨_, List.getElem?_eq_getElem (by rw [HNN.out]; exact hlt)⟩
              have hKm := (mem_sndL.1 (List.mem_iff_getElem?.2 ⟨r, hK⟩)).1
              obtain ⟨b, off, rfl, hb0, hc0⟩ := HI2.out.at_ r hlt
              have hcast : (sndI l l.length)[r]?.getD 0 = (K : Int) := cast_at hK
              rw [hcast] at hc0
              obtain ⟨b2, off2, rfl, hb2', hj1, hj2⟩ := (HX.out.below hB_w2).atJ K hKm
              have hbk := HVJ.out.2.1 K hKm
              have hyy : prvX c l h K = true → ((sndL l l.length).take (r + 1)).all (prvX c l h) = true := fun hp => by
                have hlt' := (List.getElem?_eq_some_iff.1 hK).1
                rw [List.take_succ_eq_append_getElem hlt', (List.getElem?_eq_some_iff.1 hK).2, List.all_append, hT.out]
                simp [hp]
              have hno : prvX c l h K = false → prvB c l h = false := fun hp => by
                rw [HP.out, List.all_eq_false]
                exact ⟨K, List.mem_iff_getElem?.2 ⟨r, hK⟩, by simp [hp]⟩
              have hX : prvX c l h K = !(decide (h < hgt l K) && (decide (hgt l K ≤ c.fi) || (decide (0 < h) && decide (hgt l K ≤ h + c.ga)))) := rfl
              generalize prvX c l h K = PX at *
              generalize hgt l K = X at *
              generalize sndB l K = Y at *
              have HY := Lib.hid hyy
              have HN := Lib.hid hno
              have hk1 : (K : Int) < l.length := by omega
              have hk2 : ¬ l.length ≤ K := by omega
              have hr1 : (r : Int) < n := by omega
              have hr2 : ¬ n ≤ r := by omega
              clear hyy hno hT hcast
              have t1 : h < X := by omega
              have t3 : decide (0 < h) = false := decide_eq_false (by omega)
              by_cases t2 : X ≤ c.fi
              · have h4 := Lib.hid (HN.out (by rw [hX, decide_eq_true t1, decide_eq_true t2]; rfl))
                clear hX
                go_wp2
                go_ret
                exact ⟨ret_bool h4.out.symm, (by repeat (first | exact Below.refl _ _ | assumption | refine Below.setCell ?_ (by first | (simp; done) | (simp; omega) | omega) _ | refine Below.drew ?_ | refine below_drewN ?_ _ | refine Below.alloc ?_ (by first | (simp; done) | (simp; omega) | omega) _ | refine below_alloc ?_ _ | refine below_step ?_ (by assumption)))⟩
              · have h4 := Lib.hid (HY.out (by rw [hX, decide_eq_true t1, decide_eq_false t2, t3]; rfl))
                have t2p : decide (X ≤ c.fi) = false := decide_eq_false t2
                clear hX
                go_wp2
                go_round
                case rel => exact ⟨r + 1, by omega, by go_num, h4⟩
                case measure => first | (simp [intOf]; done) | (simp [intOf]; omega)
            · have hfin : Hid (prvB c l h = true) := Lib.hid (by
                have h5 := hT.out
                rw [show r = n by omega, ← HNN.out, List.take_length] at h5
                exact HP.out.trans h5)
              go_wp2
              go_ret
              exact ⟨ret_bool hfin.out.symm, (by repeat (first | exact Below.refl _ _ | assumption | refine Below.setCell ?_ (by first | (simp; done) | (simp; omega) | omega) _ | refine Below.drew ?_ | refine below_drewN ?_ _ | refine Below.alloc ?_ (by first | (simp; done) | (simp; omega) | omega) _ | refine below_alloc ?_ _ | refine below_step ?_ (by assumption)))⟩
        · have hq : True := trivial
          go_enter Try.func28, Try.ntmps28
          go_wp2_with fail
          refine (C1.out _ (by repeat (first | exact Below.refl _ _ | assumption | refine Below.setCell ?_ (by first | (simp; done) | (simp; omega) | omega) _ | refine Below.drew ?_ | refine below_drewN ?_ _ | refine Below.alloc ?_ (by first | (simp; done) | (simp; omega) | omega) _ | refine below_alloc ?_ _ | refine below_step ?_ (by assumption)))).mono ?_
          rintro e w1 ⟨rfl, hb⟩
          have hB_w1 : Below w.heap.size w w1 := (by repeat (first | exact Below.refl _ _ | assumption | refine Below.setCell ?_ (by first | (simp; done) | (simp; omega) | omega) _ | refine Below.drew ?_ | refine below_drewN ?_ _ | refine Below.alloc ?_ (by first | (simp; done) | (simp; omega) | omega) _ | refine below_alloc ?_ _ | refine below_step ?_ (by assumption))); have hz_w1 := hB_w1.size; have hsw10 : w.heap.size < w1.heap.size := Nat.lt_of_lt_of_le (by first | (simp; done) | (simp; omega) | omega) hb.size; have hnw10 : ¬ w.heap.size = w1.heap.size := (by omega); have hmw10 : ¬ w1.heap.size = w.heap.size := (by omega); have hlw10_0 : w.heap.size ≤ w1.heap.size := (by omega); have hlw10_1 : w.heap.size ≤ w1.heap.size + 1 := (by omega); have hlw10_2 : w.heap.size ≤ w1.heap.size + 1 + 1 := (by omega); have hkw10 : w1.cell? ⟨w.heap.size, 0, none⟩ = some (.int .i64 c.fi) := (by rw [hb.cell (p := ⟨w.heap.size, 0, none⟩) (by first | (simp; done) | (simp; omega) | omega)]; first | (go_simp; done) | assumption); have hkw11 : w1.cell? ⟨w.heap.size, 1, none⟩ = some (.int .i64 c.ga) := (by rw [hb.cell (p := ⟨w.heap.size, 1, none⟩) (by first | (simp; done) | (simp; omega) | omega)]; first | (go_simp; done) | assumption); have hkw12 : w1.cell? ⟨w.heap.size, 2, none⟩ = some (.int .i64 c.to) := (by rw [hb.cell (p := ⟨w.heap.size, 2, none⟩) (by first | (simp; done) | (simp; omega) | omega)]; first | (go_simp; done) | assumption); have hkw13 : w1.cell? ⟨w.heap.size, 3, none⟩ = some (.int .i64 c.le) := (by rw [hb.cell (p := ⟨w.heap.size, 3, none⟩) (by first | (simp; done) | (simp; omega) | omega)]; first | (go_simp; done) | assumption); have hkw14 : w1.cell? ⟨w.heap.size, 4, none⟩ = some (.int .i64 c.la) := (by rw [hb.cell (p := ⟨w.heap.size, 4, none⟩) (by first | (simp; done) | (simp; omega) | omega)]; first | (go_simp; done) | assumption); have hkw15 : w1.cell? ⟨w.heap.size, 5, none⟩ = some (.int .i64 c.st) := (by rw [hb.cell (p := ⟨w.heap.size, 5, none⟩) (by first | (simp; done) | (simp; omega) | omega)]; first | (go_simp; done) | assumption); clear hb
          go_wp2_with (go_at_call 53; refine (within_any _ _ _ _).mono ?_; rintro e w' ⟨rfl, rfl⟩)
          refine (C2.out _ (by repeat (first | exact Below.refl _ _ | assumption | refine Below.setCell ?_ (by first | (simp; done) | (simp; omega) | omega) _ | refine Below.drew ?_ | refine below_drewN ?_ _ | refine Below.alloc ?_ (by first | (simp; done) | (simp; omega) | omega) _ | refine below_alloc ?_ _ | refine below_step ?_ (by assumption)))).mono ?_
          rintro e w2 ⟨⟨v2, rfl, ho2⟩, hb⟩
          obtain ⟨A2, cap2, rfl, hn3, hn4, hI2', -⟩ := own_ints ho2
          have hsl : (sndI l l.length).length = (sndL l l.length).length := by simp [sndI]
          rw [hsl] at hI2' hn3 ⊢
          have HI2 := Lib.hid hI2'
          clear ho2 hI2' hsl
          have hB_w2 : Below w.heap.size w w2 := (by repeat (first | exact Below.refl _ _ | assumption | refine Below.setCell ?_ (by first | (simp; done) | (simp; omega) | omega) _ | refine Below.drew ?_ | refine below_drewN ?_ _ | refine Below.alloc ?_ (by first | (simp; done) | (simp; omega) | omega) _ | refine below_alloc ?_ _ | refine below_step ?_ (by assumption))); have hz_w2 := hB_w2.size; have hsw20 : w.heap.size < w2.heap.size := Nat.lt_of_lt_of_le (by first | (simp; done) | (simp; omega) | omega) hb.size; have hnw20 : ¬ w.heap.size = w2.heap.size := (by omega); have hmw20 : ¬ w2.heap.size = w.heap.size := (by omega); have hlw20_0 : w.heap.size ≤ w2.heap.size := (by omega); have hlw20_1 : w.heap.size ≤ w2.heap.size + 1 := (by omega); have hlw20_2 : w.heap.size ≤ w2.heap.size + 1 + 1 := (by omega); have hkw20 : w2.cell? ⟨w.heap.size, 0, none⟩ = some (.int .i64 c.fi) := (by rw [hb.cell (p := ⟨w.heap.size, 0, none⟩) (by first | (simp; done) | (simp; omega) | omega)]; first | (go_simp; done) | assumption); have hkw21 : w2.cell? ⟨w.heap.size, 1, none⟩ = some (.int .i64 c.ga) := (by rw [hb.cell (p := ⟨w.heap.size, 1, none⟩) (by first | (simp; done) | (simp; omega) | omega)]; first | (go_simp; done) | assumption); have hkw22 : w2.cell? ⟨w.heap.size, 2, none⟩ = some (.int .i64 c.to) := (by rw [hb.cell (p := ⟨w.heap.size, 2, none⟩) (by first | (simp; done) | (simp; omega) | omega)]; first | (go_simp; done) | assumption); have hkw23 : w2.cell? ⟨w.heap.size, 3, none⟩ = some (.int .i64 c.le) := (by rw [hb.cell (p := ⟨w.heap.size, 3, none⟩) (by first | (simp; done) | (simp; omega) | omega)]; first | (go_simp; done) | assumption); have hkw24 : w2.cell? ⟨w.heap.size, 4, none⟩ = some (.int .i64 c.la) := (by rw [hb.cell (p := ⟨w.heap.size, 4, none⟩) (by first | (simp; done) | (simp; omega) | omega)]; first | (go_simp; done) | assumption); have hkw25 : w2.cell? ⟨w.heap.size, 5, none⟩ = some (.int .i64 c.st) := (by rw [hb.cell (p := ⟨w.heap.size, 5, none⟩) (by first | (simp; done) | (simp; omega) | omega)]; first | (go_simp; done) | assumption); clear hb hB_w1 hlw10_0 hlw10_1 hlw10_2 hkw10 hkw11 hkw12 hkw13 hkw14 hkw15
          have hnl := sndL_len l l.length
          generalize hnn : (sndL l l.length).length = n at *
          have HNN := Lib.hid hnn
          clear hnn
          go_wp2
          go_loop [35] (fun i => ∃ r : Nat, r ≤ n ∧ i = .int .i64 r ∧ Hid (((sndL l l.length).take r).all (prvX c l h) = true)) (fun i => n - (intOf i).toNat)
          case atStart => exact ⟨0, Nat.zero_le _, rfl, Lib.hid rfl⟩
          case round =>
            obtain ⟨r, hr, rfl, hT⟩ := hrel
            by_cases hlt : r < n
            · obtain ⟨K, hK⟩ : ∃ K, (sndL l l.length)[r]? = some K := ⟨_, List.getElem?_eq_getElem (by rw [HNN.out]; exact hlt)⟩
              have hKm := (mem_sndL.1 (List.mem_iff_getElem?.2 ⟨r, hK⟩)).1
              obtain ⟨b, off, rfl, hb0, hc0⟩ := HI2.out.at_ r hlt
              have hcast : (sndI l l.length)[r]?.getD 0 = (K : Int) := cast_at hK
              rw [hcast] at hc0
              obtain ⟨b2, off2, rfl, hb2', hj1, hj2⟩ := (HX.out.below hB_w2).atJ K hKm
              have hbk := HVJ.out.2.1 K hKm
              have hyy : prvX c l h K = true → ((sndL l l.length).take (r + 1)).all (prvX c l h) = true := fun hp => by
                have hlt' := (List.getElem?_eq_some_iff.1 hK).1
                rw [List.take_succ_eq_append_getElem hlt', (List.getElem?_eq_some_iff.1 hK).2, List.all_append, hT.out]
                simp [hp]
              have hno : prvX c l h K = false → prvB c l h = false := fun hp => by
                rw [HP.out, List.all_eq_false]
                exact ⟨K, List.mem_iff_getElem?.2 ⟨r, hK⟩, by simp [hp]⟩
              have hX : prvX c l h K = !(decide (h < hgt l K) && (decide (hgt l K ≤ c.fi) || (decide (0 < h) && decide (hgt l K ≤ h + c.ga)))) := rfl
              generalize prvX c l h K = PX at *
              generalize hgt l K = X at *
              generalize sndB l K = Y at *
              have HY := Lib.hid hyy
              have HN := Lib.hid hno
              have hk1 : (K : Int) < l.length := by omega
              have hk2 : ¬ l.length ≤ K := by omega
              have hr1 : (r : Int) < n := by omega
              have hr2 : ¬ n ≤ r := by omega
              clear hyy hno hT hcast
              by_cases t1 : h < X
              · by_cases t2 : X ≤ c.fi
                · have h4 := Lib.hid (HN.out (by rw [hX, decide_eq_true t1, decide_eq_true t2]; rfl))
                  clear hX
                  go_wp2
                  go_ret
                  exact ⟨ret_bool h4.out.symm, (by repeat (first | exact Below.refl _ _ | assumption | refine Below.setCell ?_ (by first | (simp; done) | (simp; omega) | omega) _ | refine Below.drew ?_ | refine below_drewN ?_ _ | refine Below.alloc ?_ (by first | (simp; done) | (simp; omega) | omega) _ | refine below_alloc ?_ _ | refine below_step ?_ (by assumption)))⟩
                · by_cases t4 : X ≤ h + c.ga
                  · have h4 := Lib.hid (HN.out (by rw [hX, decide_eq_true t1, decide_eq_false t2, decide_eq_true hb2, decide_eq_true t4]; rfl))
                    have t2p : decide (X ≤ c.fi) = false := decide_eq_false t2
                    clear hX
                    go_wp2
                    go_ret
                    exact ⟨ret_bool h4.out.symm, (by repeat (first | exact Below.refl _ _ | assumption | refine Below.setCell ?_ (by first | (simp; done) | (simp; omega) | omega) _ | refine Below.drew ?_ | refine below_drewN ?_ _ | refine Below.alloc ?_ (by first | (simp; done) | (simp; omega) | omega) _ | refine below_alloc ?_ _ | refine below_step ?_ (by assumption)))⟩
                  · have h4 := Lib.hid (HY.out (by rw [hX, decide_eq_true t1, decide_eq_false t2, decide_eq_true hb2, decide_eq_false t4]; rfl))
                    have t2p : decide (X ≤ c.fi) = false := decide_eq_false t2
                    have t6 : decide (X ≤ h + c.ga) = false := decide_eq_false t4
                    clear hX
                    go_wp2
                    go_round
                    case rel => exact ⟨r + 1, by omega, by go_num, h4⟩
                    case measure => first | (simp [intOf]; done) | (simp [intOf]; omega)
              · have h4 := Lib.hid (HY.out (by rw [hX, decide_eq_false t1]; rfl))
                have t5 : decide (h < X) = false := decide_eq_false t1
                clear hX
                go_wp2
                go_round
                case rel => exact ⟨r + 1, by omega, by go_num, h4⟩
                case measure => first | (simp [intOf]; done) | (simp [intOf]; omega)
            · have hfin : Hid (prvB c l h = true) := Lib.hid (by
                have h5 := hT.out
                rw [show r = n by omega, ← HNN.out, List.take_length] at h5
                exact HP.out.trans h5)
              go_wp2
              go_ret
              exact ⟨ret_bool hfin.out.symm, (by repeat (first | exact Below.refl _ _ | assumption | refine Below.setCell ?_ (by first | (simp; done) | (simp; omega) | omega) _ | refine Below.drew ?_ | refine below_drewN ?_ _ | refine Below.alloc ?_ (by first | (simp; done) | (simp; omega) | omega) _ | refine below_alloc ?_ _ | refine below_step ?_ (by assumption)))⟩
end Go.Proofs.Ytecocbohaggokaa
