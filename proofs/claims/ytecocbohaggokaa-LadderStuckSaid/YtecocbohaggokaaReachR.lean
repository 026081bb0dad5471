/- How high one can come, and what a height proves: the reference. -/
import Derived.Test.YtecocbohaggokaaReachM
import Derived.Test.YtecocbohaggokaaFewest
set_option linter.unusedSimpArgs false
set_option linter.unusedVariables false
namespace Go.Proofs.Ytecocbohaggokaa
open Go.RowKit
attribute [local go_sem] Later.cell

theorem sndL_succ (l : List J) (k : Nat) : sndL l (k + 1) = if sndB l k then sndL l k ++ [k] else sndL l k := by
  unfold sndL
  rw [List.range_succ, List.filter_append]
  cases h : sndB l k <;> simp [h]
set_option maxHeartbeats 4000000 in
theorem rreach_any (c : Clb) (A : Option Addr) (len cap : Nat) (l : List J) (w : World) (hv1 : vC c = true) (hv2 : vJ l = true) (hx : Rows 2 jointV dJ w w.heap.size A len l) :
    Calls Try.prog 58 #[climbV c, .slice A len cap] w fun e w' => e = .returned (.int .i64 (reachC c l)) ∧ Below w.heap.size w w' := by
  have hvj := vJ_spec hv2
  obtain rfl : l.length = len := hx.1
  have hlen2 := hvj.1
  have hfb := fun k (hk : k ≤ l.length) => farS_bd (c := c) hvj.2.1 (s := sndL l k) (fun d hd => by have := (mem_sndL.1 hd).1; omega)
  have hstep := fun k => sndL_succ l k
  have HX := Lib.hid hx
  have HVJ := Lib.hid hvj
  have HFB := Lib.hid hfb
  clear hx hvj hv1 hv2 hfb hstep
  go_enter Try.func58, Try.ntmps58
  go_wp2
  go_loop [5, 6] (fun f i => ∃ k : Nat, k ≤ l.length ∧ i = .int .i64 k ∧ f = .int .i64 (farS c l (sndL l k))) (fun _ i => l.length - (intOf i).toNat)
  case atStart => exact ⟨0, Nat.zero_le _, rfl, rfl⟩
  case round =>
    obtain ⟨k, hk, rfl, rfl⟩ := hrel
    by_cases hlt : k < l.length
    · obtain ⟨b, off, rfl, hb0, hj1, hj2⟩ := HX.out.atJ k hlt
      have hbk := HVJ.out.2.1 k hlt
      have hF := HFB.out k hk
      have hy : sndB l k = true → farS c l (sndL l (k + 1)) = if canB c (farS c l (sndL l k)) (hgt l k) then hgt l k else farS c l (sndL l k) := fun h => by rw [sndL_succ, h, if_pos rfl, farS_snoc]
      have hn : sndB l k = false → farS c l (sndL l (k + 1)) = farS c l (sndL l k) := fun h => by rw [sndL_succ, h, if_neg (by decide)]
      generalize farS c l (sndL l k) = F at *
      generalize hgt l k = X at *
      generalize sndB l k = Y at *
      have hk1 : (k : Int) < l.length := by omega
      have hk2 : ¬ l.length ≤ k := by omega
      have hb1 : b < w.heap.size := hb0
      cases Y
      · have h4 := Lib.hid (hn rfl)
        clear hy hn
        go_wp2
        go_round
        case rel => exact ⟨k + 1, by omega, by go_num, by rw [h4.out]⟩
        case measure => first | (simp [intOf]; done) | (simp [intOf]; omega)
      · have hy' := hy rfl
        clear hy hn
        unfold canB at hy'
        by_cases h1 : X ≤ c.fi
        · have h4 : Hid (farS c l (sndL l (k + 1)) = X) := Lib.hid (by rw [hy', decide_eq_true h1]; rfl)
          clear hy'
          go_wp2
          go_round
          case rel => exact ⟨k + 1, by omega, by go_num, by rw [h4.out]⟩
          case measure => first | (simp [intOf]; done) | (simp [intOf]; omega)
        · have h1' : decide (X ≤ c.fi) = false := decide_eq_false h1
          by_cases h2 : 0 < F
          · by_cases h3 : X - F ≤ c.ga
            · have h4 : Hid (farS c l (sndL l (k + 1)) = X) := Lib.hid (by rw [hy', h1', decide_eq_true h2, decide_eq_true h3]; rfl)
              clear hy'
              go_wp2
              go_round
              case rel => exact ⟨k + 1, by omega, by go_num, by rw [h4.out]⟩
              case measure => first | (simp [intOf]; done) | (simp [intOf]; omega)
            · have h4 : Hid (farS c l (sndL l (k + 1)) = F) := Lib.hid (by rw [hy', h1', decide_eq_true h2, decide_eq_false h3]; rfl)
              have h3' : decide (X - F ≤ c.ga) = false := decide_eq_false h3
              clear hy'
              go_wp2
              go_round
              case rel => exact ⟨k + 1, by omega, by go_num, by rw [h4.out]⟩
              case measure => first | (simp [intOf]; done) | (simp [intOf]; omega)
          · have h4 : Hid (farS c l (sndL l (k + 1)) = F) := Lib.hid (by rw [hy', h1', decide_eq_false h2]; rfl)
            have h2' : decide (0 < F) = false := decide_eq_false h2
            clear hy'
            go_wp2
            go_round
            case rel => exact ⟨k + 1, by omega, by go_num, by rw [h4.out]⟩
            case measure => first | (simp [intOf]; done) | (simp [intOf]; omega)
    · have hkl : Hid (farS c l (sndL l k) = reachC c l) := Lib.hid (by rw [show k = l.length by omega]; rfl)
      generalize farS c l (sndL l k) = F at *
      go_wp2
      go_ret
      exact ⟨ret_int hkl.out, (by repeat (first | exact Below.refl _ _ | assumption | refine Below.setCell ?_ (by first | (simp; done) | (simp; omega) | omega) _ | refine Below.drew ?_ | refine below_drewN ?_ _ | refine Below.alloc ?_ (by first | (simp; done) | (simp; omega) | omega) _ | refine below_alloc ?_ _ | refine below_step ?_ (by assumption)))⟩
def prvK (c : Clb) (l : List J) (height : Int) (k : Nat) : Bool := (sndL l k).all (prvX c l height)
theorem prvK_yes {c : Clb} {l : List J} {height : Int} {k : Nat} (h : prvK c l height k = true) (hs : sndB l k = false ∨ prvX c l height k = true) : prvK c l height (k + 1) = true := by
  unfold prvK at *
  rw [sndL_succ]
  cases hb : sndB l k
  · simpa using h
  · rcases hs with hs | hs
    · rw [hb] at hs; cases hs
    · simp [h, hs]
theorem prvK_no {c : Clb} {l : List J} {height : Int} {k : Nat} (hk : k < l.length) (hs : sndB l k = true) (hp : prvX c l height k = false) : (sndL l l.length).all (prvX c l height) = false := by
  rw [List.all_eq_false]
  exact ⟨k, mem_sndL.2 ⟨hk, hs⟩, by simp [hp]⟩
set_option maxRecDepth 20000 in
set_option maxHeartbeats 4000000 in
theorem rProves_any (c : Clb) (A : Option Addr) (len cap : Nat) (l : List J) (h : Int) (w : World) (hm : len ≤ 9223372036854775807) (hx : Rows 2 jointV dJ w w.heap.size A len l) :
    Calls Try.prog 29 #[climbV c, .slice A len cap, .int .i64 h] w fun e w' => e = .returned (.bool (prvB c l h)) ∧ Below w.heap.size w w' := by
  have hP : prvB c l h = ((vC c && vJ l) && (withinB h 0 200000 && (!(decide (0 < h) && decide (c.to ≤ h + c.ga)) && (sndL l l.length).all (prvX c l h)))) := rfl
  have c1 := fun W (h : Below w.heap.size w W) => bad_any c A len cap l W hm ((hx.below h).more h.size)
  cases hv : (vC c && vJ l)
  · rw [hv, Bool.false_and] at hP
    rw [hv] at c1
    rw [hP]
    have C1 := Lib.hid c1
    clear c1 hx hv hP
    go_enter Try.func29, Try.ntmps29
    go_wp2_with fail
    refine (C1.out _ (by repeat (first | exact Below.refl _ _ | assumption | refine Below.setCell ?_ (by first | (simp; done) | (simp; omega) | omega) _ | refine Below.drew ?_ | refine below_drewN ?_ _ | refine Below.alloc ?_ (by first | (simp; done) | (simp; omega) | omega) _ | refine below_alloc ?_ _ | refine below_step ?_ (by assumption)))).mono ?_
    rintro e w1 ⟨rfl, hb⟩
    have hB_w1 : Below w.heap.size w w1 := (by repeat (first | exact Below.refl _ _ | assumption | refine Below.setCell ?_ (by first | (simp; done) | (simp; omega) | omega) _ | refine Below.drew ?_ | refine below_drewN ?_ _ | refine Below.alloc ?_ (by first | (simp; done) | (simp; omega) | omega) _ | refine below_alloc ?_ _ | refine below_step ?_ (by assumption))); have hz_w1 := hB_w1.size; clear hb
    go_wp2
    go_ret
    exact ⟨rfl, (by repeat (first | exact Below.refl _ _ | assumption | refine Below.setCell ?_ (by first | (simp; done) | (simp; omega) | omega) _ | refine Below.drew ?_ | refine below_drewN ?_ _ | refine Below.alloc ?_ (by first | (simp; done) | (simp; omega) | omega) _ | refine below_alloc ?_ _ | refine below_step ?_ (by assumption)))⟩
  · rw [hv, Bool.true_and] at hP
    rw [hv] at c1
    have C1 := Lib.hid c1
    clear c1
    cases hwi : withinB h 0 200000
    · rw [hwi, Bool.false_and] at hP
      rw [hP]
      clear hx hv hP
      go_enter Try.func29, Try.ntmps29
      go_wp2_with fail
      refine (C1.out _ (by repeat (first | exact Below.refl _ _ | assumption | refine Below.setCell ?_ (by first | (simp; done) | (simp; omega) | omega) _ | refine Below.drew ?_ | refine below_drewN ?_ _ | refine Below.alloc ?_ (by first | (simp; done) | (simp; omega) | omega) _ | refine below_alloc ?_ _ | refine below_step ?_ (by assumption)))).mono ?_
      rintro e w1 ⟨rfl, hb⟩
      have hB_w1 : Below w.heap.size w w1 := (by repeat (first | exact Below.refl _ _ | assumption | refine Below.setCell ?_ (by first | (simp; done) | (simp; omega) | omega) _ | refine Below.drew ?_ | refine below_drewN ?_ _ | refine Below.alloc ?_ (by first | (simp; done) | (simp; omega) | omega) _ | refine below_alloc ?_ _ | refine below_step ?_ (by assumption))); have hz_w1 := hB_w1.size; clear hb
      go_wp2_with (go_at_call 54; refine (rwithin_any _ _ _ _).mono ?_; rintro e w' ⟨rfl, rfl⟩)
      go_ret
      exact ⟨rfl, (by repeat (first | exact Below.refl _ _ | assumption | refine Below.setCell ?_ (by first | (simp; done) | (simp; omega) | omega) _ | refine Below.drew ?_ | refine below_drewN ?_ _ | refine Below.alloc ?_ (by first | (simp; done) | (simp; omega) | omega) _ | refine below_alloc ?_ _ | refine below_step ?_ (by assumption)))⟩
    · have hvv := Bool.and_eq_true .. ▸ hv
      have hvc := vC_spec hvv.1
      have hga := hvc.2.1
      have hvj := vJ_spec hvv.2
      obtain rfl : l.length = len := hx.1
      have hlen2 := hvj.1
      have hw := withinB_iff.1 hwi
      rw [hwi, Bool.true_and] at hP
      by_cases hb1 : 0 < h ∧ c.to ≤ h + c.ga
      · rw [decide_eq_true hb1.1, decide_eq_true hb1.2] at hP
        rw [hP]
        obtain ⟨hb1, hb2⟩ := hb1
        clear hx hv hP hvc hvj hvv
        go_enter Try.func29, Try.ntmps29
        go_wp2_with fail
        refine (C1.out _ (by repeat (first | exact Below.refl _ _ | assumption | refine Below.setCell ?_ (by first | (simp; done) | (simp; omega) | omega) _ | refine Below.drew ?_ | refine below_drewN ?_ _ | refine Below.alloc ?_ (by first | (simp; done) | (simp; omega) | omega) _ | refine below_alloc ?_ _ | refine below_step ?_ (by assumption)))).mono ?_
        rintro e w1 ⟨rfl, hb⟩
        have hB_w1 : Below w.heap.size w w1 := (by repeat (first | exact Below.refl _ _ | assumption | refine Below.setCell ?_ (by first | (simp; done) | (simp; omega) | omega) _ | refine Below.drew ?_ | refine below_drewN ?_ _ | refine Below.alloc ?_ (by first | (simp; done) | (simp; omega) | omega) _ | refine below_alloc ?_ _ | refine below_step ?_ (by assumption))); have hz_w1 := hB_w1.size; have hsw10 : w.heap.size < w1.heap.size := Nat.lt_of_lt_of_le (by first | (simp; done) | (simp; omega) | omega) hb.size; have hnw10 : ¬ w.heap.size = w1.heap.size := (by omega); have hmw10 : ¬ w1.heap.size = w.heap.size := (by omega); have hlw10_0 : w.heap.size ≤ w1.heap.size := (by omega); have hlw10_1 : w.heap.size ≤ w1.heap.size + 1 := (by omega); have hlw10_2 : w.heap.size ≤ w1.heap.size + 1 + 1 := (by omega); have hkw10 : w1.cell? ⟨w.heap.size, 0, none⟩ = some (.int .i64 c.fi) := (by rw [hb.cell (p := ⟨w.heap.size, 0, none⟩) (by first | (simp; done) | (simp; omega) | omega)]; first | (go_simp; done) | assumption); have hkw11 : w1.cell? ⟨w.heap.size, 1, none⟩ = some (.int .i64 c.ga) := (by rw [hb.cell (p := ⟨w.heap.size, 1, none⟩) (by first | (simp; done) | (simp; omega) | omega)]; first | (go_simp; done) | assumption); have hkw12 : w1.cell? ⟨w.heap.size, 2, none⟩ = some (.int .i64 c.to) := (by rw [hb.cell (p := ⟨w.heap.size, 2, none⟩) (by first | (simp; done) | (simp; omega) | omega)]; first | (go_simp; done) | assumption); have hkw13 : w1.cell? ⟨w.heap.size, 3, none⟩ = some (.int .i64 c.le) := (by rw [hb.cell (p := ⟨w.heap.size, 3, none⟩) (by first | (simp; done) | (simp; omega) | omega)]; first | (go_simp; done) | assumption); have hkw14 : w1.cell? ⟨w.heap.size, 4, none⟩ = some (.int .i64 c.la) := (by rw [hb.cell (p := ⟨w.heap.size, 4, none⟩) (by first | (simp; done) | (simp; omega) | omega)]; first | (go_simp; done) | assumption); have hkw15 : w1.cell? ⟨w.heap.size, 5, none⟩ = some (.int .i64 c.st) := (by rw [hb.cell (p := ⟨w.heap.size, 5, none⟩) (by first | (simp; done) | (simp; omega) | omega)]; first | (go_simp; done) | assumption); clear hb
        go_wp2_with (go_at_call 54; refine (rwithin_any _ _ _ _).mono ?_; rintro e w' ⟨rfl, rfl⟩)
        go_ret
        exact ⟨rfl, (by repeat (first | exact Below.refl _ _ | assumption | refine Below.setCell ?_ (by first | (simp; done) | (simp; omega) | omega) _ | refine Below.drew ?_ | refine below_drewN ?_ _ | refine Below.alloc ?_ (by first | (simp; done) | (simp; omega) | omega) _ | refine below_alloc ?_ _ | refine below_step ?_ (by assumption)))⟩
      · have hP2 : prvB c l h = (sndL l l.length).all (prvX c l h) := by
          rw [hP]
          have : (!(decide (0 < h) && decide (c.to ≤ h + c.ga))) = true := by
            rw [Bool.not_eq_true', Bool.and_eq_false_iff, decide_eq_false_iff_not, decide_eq_false_iff_not]; omega
          rw [this, Bool.true_and]
        have HX := Lib.hid hx
        have HVJ := Lib.hid hvj
        have HP := Lib.hid hP2
        have hb2 : ¬ 0 < h ∨ (0 < h ∧ ¬ c.to ≤ h + c.ga) := by omega
        clear hx hv hP hP2 hvc hvj hvv hb1
        rcases hb2 with hb2 | ⟨hb2, hb3⟩
        · have hq : True := trivial
          go_enter Try.func29, Try.ntmps29
          go_wp2_with fail
          refine (C1.out _ (by repeat (first | exact Below.refl _ _ | assumption | refine Below.setCell ?_ (by first | (simp; done) | (simp; omega) | omega) _ | refine Below.drew ?_ | refine below_drewN ?_ _ | refine Below.alloc ?_ (by first | (simp; done) | (simp; omega) | omega) _ | refine below_alloc ?_ _ | refine below_step ?_ (by assumption)))).mono ?_
          rintro e w1 ⟨rfl, hb⟩
          have hB_w1 : Below w.heap.size w w1 := (by repeat (first | exact Below.refl _ _ | assumption | refine Below.setCell ?_ (by first | (simp; done) | (simp; omega) | omega) _ | refine Below.drew ?_ | refine below_drewN ?_ _ | refine Below.alloc ?_ (by first | (simp; done) | (simp; omega) | omega) _ | refine below_alloc ?_ _ | refine below_step ?_ (by assumption))); have hz_w1 := hB_w1.size; have hsw10 : w.heap.size < w1.heap.size := Nat.lt_of_lt_of_le (by first | (simp; done) | (simp; omega) | omega) hb.size; have hnw10 : ¬ w.heap.size = w1.heap.size := (by omega); have hmw10 : ¬ w1.heap.size = w.heap.size := (by omega); have hlw10_0 : w.heap.size ≤ w1.heap.size := (by omega); have hlw10_1 : w.heap.size ≤ w1.heap.size + 1 := (by omega); have hlw10_2 : w.heap.size ≤ w1.heap.size + 1 + 1 := (by omega); have hkw10 : w1.cell? ⟨w.heap.size, 0, none⟩ = some (.int .i64 c.fi) := (by rw [hb.cell (p := ⟨w.heap.size, 0, none⟩) (by first | (simp; done) | (simp; omega) | omega)]; first | (go_simp; done) | assumption); have hkw11 : w1.cell? ⟨w.heap.size, 1, none⟩ = some (.int .i64 c.ga) := (by rw [hb.cell (p := ⟨w.heap.size, 1, none⟩) (by first | (simp; done) | (simp; omega) | omega)]; first | (go_simp; done) | assumption); have hkw12 : w1.cell? ⟨w.heap.size, 2, none⟩ = some (.int .i64 c.to) := (by rw [hb.cell (p := ⟨w.heap.size, 2, none⟩) (by first | (simp; done) | (simp; omega) | omega)]; first | (go_simp; done) | assumption); have hkw13 : w1.cell? ⟨w.heap.size, 3, none⟩ = some (.int .i64 c.le) := (by rw [hb.cell (p := ⟨w.heap.size, 3, none⟩) (by first | (simp; done) | (simp; omega) | omega)]; first | (go_simp; done) | assumption); have hkw14 : w1.cell? ⟨w.heap.size, 4, none⟩ = some (.int .i64 c.la) := (by rw [hb.cell (p := ⟨w.heap.size, 4, none⟩) (by first | (simp; done) | (simp; omega) | omega)]; first | (go_simp; done) | assumption); have hkw15 : w1.cell? ⟨w.heap.size, 5, none⟩ = some (.int .i64 c.st) := (by rw [hb.cell (p := ⟨w.heap.size, 5, none⟩) (by first | (simp; done) | (simp; omega) | omega)]; first | (go_simp; done) | assumption); clear hb
          go_wp2_with (go_at_call 54; refine (rwithin_any _ _ _ _).mono ?_; rintro e w' ⟨rfl, rfl⟩)
          go_loop [7] (fun i => ∃ k : Nat, k ≤ l.length ∧ i = .int .i64 k ∧ Hid (prvK c l h k = true)) (fun i => l.length - (intOf i).toNat)
          case atStart => exact ⟨0, Nat.zero_le _, rfl, Lib.hid rfl⟩
          case round =>
            obtain ⟨k, hk, rfl, hT⟩ := hrel
            by_cases hlt : k < l.length
            · obtain ⟨b, off, rfl, hb0, hj1, hj2⟩ := (HX.out.below hB_w1).atJ k hlt
              have hbk := HVJ.out.2.1 k hlt
              have hyy := fun hh => prvK_yes hT.out hh
              have hno := fun h1 h2 => (HP.out.trans (prvK_no (c := c) (height := h) hlt h1 h2))
              have hX : prvX c l h k = !(decide (h < hgt l k) && (decide (hgt l k ≤ c.fi) || (decide (0 < h) && decide (hgt l k ≤ h + c.ga)))) := rfl
              generalize prvX c l h k = PX at *
              generalize hgt l k = X at *
              generalize sndB l k = Y at *
              have HY := Lib.hid hyy
              have HN := Lib.hid hno
              have hk1 : (k : Int) < l.length := by omega
              have hk2 : ¬ l.length ≤ k := by omega
              have hb1 : b < w1.heap.size := by omega
              clear hyy hno hT
              cases Y
              · have h4 := Lib.hid (HY.out (.inl rfl))
                clear hX
                go_wp2
                go_round
                case rel => exact ⟨k + 1, by omega, by go_num, h4⟩
                case measure => first | (simp [intOf]; done) | (simp [intOf]; omega)
              · have t1 : h < X := by omega
                have t3 : decide (0 < h) = false := decide_eq_false (by omega)
                by_cases t2 : X ≤ c.fi
                · have h4 := Lib.hid (HN.out rfl (by rw [hX, decide_eq_true t1, decide_eq_true t2]; rfl))
                  clear hX
                  go_wp2
                  go_ret
                  exact ⟨ret_bool h4.out.symm, (by repeat (first | exact Below.refl _ _ | assumption | refine Below.setCell ?_ (by first | (simp; done) | (simp; omega) | omega) _ | refine Below.drew ?_ | refine below_drewN ?_ _ | refine Below.alloc ?_ (by first | (simp; done) | (simp; omega) | omega) _ | refine below_alloc ?_ _ | refine below_step ?_ (by assumption)))⟩
                · have h4 := Lib.hid (HY.out (.inr (by rw [hX, decide_eq_true t1, decide_eq_false t2, t3]; rfl)))
                  have t2p : decide (X ≤ c.fi) = false := decide_eq_false t2
                  clear hX
                  go_wp2
                  go_round
                  case rel => exact ⟨k + 1, by omega, by go_num, h4⟩
                  case measure => first | (simp [intOf]; done) | (simp [intOf]; omega)
            · have hfin : Hid (prvB c l h = true) := Lib.hid (by
                have h5 := hT.out
                rw [show k = l.length by omega] at h5
                exact HP.out.trans h5)
              go_wp2
              go_ret
              exact ⟨ret_bool hfin.out.symm, (by repeat (first | exact Below.refl _ _ | assumption | refine Below.setCell ?_ (by first | (simp; done) | (simp; omega) | omega) _ | refine Below.drew ?_ | refine below_drewN ?_ _ | refine Below.alloc ?_ (by first | (simp; done) | (simp; omega) | omega) _ | refine below_alloc ?_ _ | refine below_step ?_ (by assumption)))⟩
        · have hq : True := trivial
          go_enter Try.func29, Try.ntmps29
          go_wp2_with fail
          refine (C1.out _ (by repeat (first | exact Below.refl _ _ | assumption | refine Below.setCell ?_ (by first | (simp; done) | (simp; omega) | omega) _ | refine Below.drew ?_ | refine below_drewN ?_ _ | refine Below.alloc ?_ (by first | (simp; done) | (simp; omega) | omega) _ | refine below_alloc ?_ _ | refine below_step ?_ (by assumption)))).mono ?_
          rintro e w1 ⟨rfl, hb⟩
          have hB_w1 : Below w.heap.size w w1 := (by repeat (first | exact Below.refl _ _ | assumption | refine Below.setCell ?_ (by first | (simp; done) | (simp; omega) | omega) _ | refine Below.drew ?_ | refine below_drewN ?_ _ | refine Below.alloc ?_ (by first | (simp; done) | (simp; omega) | omega) _ | refine below_alloc ?_ _ | refine below_step ?_ (by assumption))); have hz_w1 := hB_w1.size; have hsw10 : w.heap.size < w1.heap.size := Nat.lt_of_lt_of_le (by first | (simp; done) | (simp; omega) | omega) hb.size; have hnw10 : ¬ w.heap.size = w1.heap.size := (by omega); have hmw10 : ¬ w1.heap.size = w.heap.size := (by omega); have hlw10_0 : w.heap.size ≤ w1.heap.size := (by omega); have hlw10_1 : w.heap.size ≤ w1.heap.size + 1 := (by omega); have hlw10_2 : w.heap.size ≤ w1.heap.size + 1 + 1 := (by omega); have hkw10 : w1.cell? ⟨w.heap.size, 0, none⟩ = some (.int .i64 c.fi) := (by rw [hb.cell (p := ⟨w.heap.size, 0, none⟩) (by first | (simp; done) | (simp; omega) | omega)]; first | (go_simp; done) | assumption); have hkw11 : w1.cell? ⟨w.heap.size, 1, none⟩ = some (.int .i64 c.ga) := (by rw [hb.cell (p := ⟨w.heap.size, 1, none⟩) (by first | (simp; done) | (simp; omega) | omega)]; first | (go_simp; done) | assumption); have hkw12 : w1.cell? ⟨w.heap.size, 2, none⟩ = some (.int .i64 c.to) := (by rw [hb.cell (p := ⟨w.heap.size, 2, none⟩) (by first | (simp; done) | (simp; omega) | omega)]; first | (go_simp; done) | assumption); have hkw13 : w1.cell? ⟨w.heap.size, 3, none⟩ = some (.int .i64 c.le) := (by rw [hb.cell (p := ⟨w.heap.size, 3, none⟩) (by first | (simp; done) | (simp; omega) | omega)]; first | (go_simp; done) | assumption); have hkw14 : w1.cell? ⟨w.heap.size, 4, none⟩ = some (.int .i64 c.la) := (by rw [hb.cell (p := ⟨w.heap.size, 4, none⟩) (by first | (simp; done) | (simp; omega) | omega)]; first | (go_simp; done) | assumption); have hkw15 : w1.cell? ⟨w.heap.size, 5, none⟩ = some (.int .i64 c.st) := (by rw [hb.cell (p := ⟨w.heap.size, 5, none⟩) (by first | (simp; done) | (simp; omega) | omega)]; first | (go_simp; done) | assumption); clear hb
          go_wp2_with (go_at_call 54; refine (rwithin_any _ _ _ _).mono ?_; rintro e w' ⟨rfl, rfl⟩)
          go_loop [7] (fun i => ∃ k : Nat, k ≤ l.length ∧ i = .int .i64 k ∧ Hid (prvK c l h k = true)) (fun i => l.length - (intOf i).toNat)
          case atStart => exact ⟨0, Nat.zero_le _, rfl, Lib.hid rfl⟩
          case round =>
            obtain ⟨k, hk, rfl, hT⟩ := hrel
            by_cases hlt : k < l.length
            · obtain ⟨b, off, rfl, hb0, hj1, hj2⟩ := (HX.out.below hB_w1).atJ k hlt
              have hbk := HVJ.out.2.1 k hlt
              have hyy := fun hh => prvK_yes hT.out hh
              have hno := fun h1 h2 => (HP.out.trans (prvK_no (c := c) (height := h) hlt h1 h2))
              have hX : prvX c l h k = !(decide (h < hgt l k) && (decide (hgt l k ≤ c.fi) || (decide (0 < h) && decide (hgt l k ≤ h + c.ga)))) := rfl
              generalize prvX c l h k = PX at *
              generalize hgt l k = X at *
              generalize sndB l k = Y at *
              have HY := Lib.hid hyy
              have HN := Lib.hid hno
              have hk1 : (k : Int) < l.length := by omega
              have hk2 : ¬ l.length ≤ k := by omega
              have hb1 : b < w1.heap.size := by omega
              clear hyy hno hT
              cases Y
              · have h4 := Lib.hid (HY.out (.inl rfl))
                clear hX
                go_wp2
                go_round
                case rel => exact ⟨k + 1, by omega, by go_num, h4⟩
                case measure => first | (simp [intOf]; done) | (simp [intOf]; omega)
              · by_cases t1 : h < X
                · by_cases t2 : X ≤ c.fi
                  · have h4 := Lib.hid (HN.out rfl (by rw [hX, decide_eq_true t1, decide_eq_true t2]; rfl))
                    clear hX
                    go_wp2
                    go_ret
                    exact ⟨ret_bool h4.out.symm, (by repeat (first | exact Below.refl _ _ | assumption | refine Below.setCell ?_ (by first | (simp; done) | (simp; omega) | omega) _ | refine Below.drew ?_ | refine below_drewN ?_ _ | refine Below.alloc ?_ (by first | (simp; done) | (simp; omega) | omega) _ | refine below_alloc ?_ _ | refine below_step ?_ (by assumption)))⟩
                  · by_cases t4 : X ≤ h + c.ga
                    · have h4 := Lib.hid (HN.out rfl (by rw [hX, decide_eq_true t1, decide_eq_false t2, decide_eq_true hb2, decide_eq_true t4]; rfl))
                      have t2p : decide (X ≤ c.fi) = false := decide_eq_false t2
                      have t5 : X - h ≤ c.ga := by omega
                      clear hX
                      go_wp2
                      go_ret
                      exact ⟨ret_bool h4.out.symm, (by repeat (first | exact Below.refl _ _ | assumption | refine Below.setCell ?_ (by first | (simp; done) | (simp; omega) | omega) _ | refine Below.drew ?_ | refine below_drewN ?_ _ | refine Below.alloc ?_ (by first | (simp; done) | (simp; omega) | omega) _ | refine below_alloc ?_ _ | refine below_step ?_ (by assumption)))⟩
                    · have h4 := Lib.hid (HY.out (.inr (by rw [hX, decide_eq_true t1, decide_eq_false t2, decide_eq_true hb2, decide_eq_false t4]; rfl)))
                      have t2p : decide (X ≤ c.fi) = false := decide_eq_false t2
                      have t5 : decide (X - h ≤ c.ga) = false := decide_eq_false (by omega)
                      have t6 : decide (X ≤ h + c.ga) = false := decide_eq_false t4
                      clear hX
                      go_wp2
                      go_round
                      case rel => exact ⟨k + 1, by omega, by go_num, h4⟩
                      case measure => first | (simp [intOf]; done) | (simp [intOf]; omega)
                · have h4 := Lib.hid (HY.out (.inr (by rw [hX, decide_eq_false t1]; rfl)))
                  have t5 : decide (h < X) = false := decide_eq_false t1
                  clear hX
                  go_wp2
                  go_round
                  case rel => exact ⟨k + 1, by omega, by go_num, h4⟩
                  case measure => first | (simp [intOf]; done) | (simp [intOf]; omega)
            · have hfin : Hid (prvB c l h = true) := Lib.hid (by
                have h5 := hT.out
                rw [show k = l.length by omega] at h5
                exact HP.out.trans h5)
              go_wp2
              go_ret
              exact ⟨ret_bool hfin.out.symm, (by repeat (first | exact Below.refl _ _ | assumption | refine Below.setCell ?_ (by first | (simp; done) | (simp; omega) | omega) _ | refine Below.drew ?_ | refine below_drewN ?_ _ | refine Below.alloc ?_ (by first | (simp; done) | (simp; omega) | omega) _ | refine below_alloc ?_ _ | refine below_step ?_ (by assumption)))⟩
end Go.Proofs.Ytecocbohaggokaa
