/- RopeWears: the walk of the statement. -/
import Derived.Test.YthninhkimhnegaaWearsM
import Derived.Test.YthninhkimhnegaaAwake4
import Derived.OwnWalk
import Derived.Deep.DeepCutAuto
set_option linter.unusedSimpArgs false
set_option linter.unusedVariables false
namespace Go.Proofs.Ythninhkimhnegaa
open Go.RowKit
attribute [local go_sem] Later.cell

theorem info_use : (Try.prog.info? 79).map (fun i => (i.zero, i.size, i.bytes)) = some (some (.agg #[.int .i64 0, .int .i64 0]), 2, 16) := by kernel_rfl
theorem news2 (W : World) (x y : Value) (t : TypeId) : ∀ j u, ([x, y] : List Value)[j]? = some u → (W.alloc (.cells #[x, y] t)).cell? ((⟨W.heap.size, 0, none⟩ : Addr).add j) = some u := by
  intro j u hj
  match j, hj with
  | 0, hj => simp at hj; subst hj; simp [Addr.add]
  | 1, hj => simp at hj; subst hj; simp [Addr.add]
  | j + 2, hj => simp at hj
theorem one2 (m n : Int) : ∀ u ∈ ([.int .i64 m, .int .i64 n] : List Value), u.oneCell' = true := by
  intro u hu
  simp at hu
  rcases hu with rfl | rfl <;> rfl

set_option maxRecDepth 100000 in
set_option maxHeartbeats 8000000 in
theorem wears_walk (s d l : Int) (A : Option Addr) (len cap : Nat) (us : List (Int × Int)) (n0 n1 n2 n3 : Int) (w : World)
    (_ : -9223372036854775808 ≤ s ∧ s ≤ 9223372036854775807) (_ : -9223372036854775808 ≤ d ∧ d ≤ 9223372036854775807) (_ : -9223372036854775808 ≤ l ∧ l ≤ 9223372036854775807)
    (hm : len ≤ cap ∧ cap ≤ 9223372036854775807) (hx : Pairs w w.heap.size A len us)
    (_ : ∀ p ∈ us, (-9223372036854775808 ≤ p.1 ∧ p.1 ≤ 9223372036854775807) ∧ -9223372036854775808 ≤ p.2 ∧ p.2 ≤ 9223372036854775807)
    (_ : -9223372036854775808 ≤ n0 ∧ n0 ≤ 9223372036854775807) (_ : -9223372036854775808 ≤ n1 ∧ n1 ≤ 9223372036854775807) (_ : -9223372036854775808 ≤ n2 ∧ n2 ≤ 9223372036854775807) (_ : -9223372036854775808 ≤ n3 ∧ n3 ≤ 9223372036854775807) :
    Calls Try.prog 14 #[.agg #[.int .i64 s, .int .i64 d, .int .i64 l], .slice A len cap, .agg #[.int .i64 n0, .int .i64 n1, .int .i64 n2, .int .i64 n3]] w fun e w' => e = .returned (.bool true) ∧ Below w.heap.size w w' := by
  by_cases hlen : 100 < len
  · clear hx
    go_enter Try.func14, Try.ntmps14
    go_wp2_with (go_at_call 26; refine (awake_any _).mono ?_; rintro e w1 ⟨rfl, hb1⟩)
    go_ret
    exact ⟨rfl, (by repeat (first | exact Below.refl _ _ | assumption | refine Below.setCell ?_ (by first | (simp; done) | (simp; omega) | omega) _ | refine Below.drew ?_ | refine below_drewN ?_ _ | refine Below.alloc ?_ (by first | (simp; done) | (simp; omega) | omega) _ | refine below_alloc ?_ _ | refine below_step ?_ (by assumption)))⟩
  · have c1 := fun W (h : Below w.heap.size w W) => Left_any s d l A len cap us n0 W hm ((hx.below h).more h.size)
    by_cases hE : askR s d l us n0 = 0
    · obtain ⟨h1, h2, h3, h4⟩ := wears hE
      have h1 := h1 n1
      have h2 := h2 n2
      have h3 := h3 n2 n3
      rw [hE] at c1
      have c2 := fun W (h : Below w.heap.size w W) => Left_any s d l A len cap us n1 W hm ((hx.below h).more h.size)
      have c3 := fun A' cap' W (hm' : len + 1 ≤ cap' ∧ cap' ≤ 9223372036854775807) (h : Pairs W W.heap.size A' (len + 1) (us ++ [(n0, n2)])) => Left_any s d l A' (len + 1) cap' (us ++ [(n0, n2)]) n0 W hm' h
      have c4 := fun W (h : Below w.heap.size w W) => May_any s d l A len cap us n0 n2 W hm ((hx.below h).more h.size)
      have c5 := fun W (h : Below w.heap.size w W) => May_any s d l A len cap us n0 n3 W hm ((hx.below h).more h.size)
      have c6 := fun W (h : Below w.heap.size w W) => Retires_any s d l A len cap us W hm ((hx.below h).more h.size)
      generalize leftV s d l us n0 = L0 at *
      generalize leftV s d l us n1 = L1 at *
      generalize askR s d l us n1 = E1 at *
      generalize leftV s d l (us ++ [(n0, n2)]) n0 = L2 at *
      generalize askR s d l (us ++ [(n0, n2)]) n0 = E2 at *
      generalize mayV s d l us n0 n2 = M3 at *
      generalize errR s d l us n0 n2 = E3 at *
      generalize mayV s d l us n0 n3 = M4 at *
      generalize errR s d l us n0 n3 = E4 at *
      generalize retV s d l us = RV at *
      generalize retE s d l us = RE at *
      have C1 := Lib.hid c1
      have C2 := Lib.hid c2
      have C3 := Lib.hid c3
      have C4 := Lib.hid c4
      have C5 := Lib.hid c5
      have C6 := Lib.hid c6
      have H1 := Lib.hid h1
      have H2 := Lib.hid h2
      have H3 := Lib.hid h3
      have H4 := Lib.hid h4
      have HX := Lib.hid hx
      obtain ⟨i0, hi, hz0, hz1, hz2⟩ := info_parts info_use
      have hI0 := Lib.hid hi
      have hI1 := Lib.hid hz0
      have hI2 := Lib.hid hz1
      have hI3 := Lib.hid hz2
      clear hi hz0 hz1 hz2 c1 c2 c3 c4 c5 c6 h1 h2 h3 h4 hx hE
      go_enter Try.func14, Try.ntmps14
      go_wp2
      (refine wp_region_later (by kernel_rfl) (by kernel_rfl) ?_; (repeat (go_big_quiet_step ((fail)))); refine wpQuiet_nil ?_)
      intro w1 hb
      have hB_w1 : Below w.heap.size w w1 := (by repeat (first | exact Below.refl _ _ | assumption | refine Below.setCell ?_ (by first | (simp; done) | (simp; omega) | omega) _ | refine Below.drew ?_ | refine below_drewN ?_ _ | refine Below.alloc ?_ (by first | (simp; done) | (simp; omega) | omega) _ | refine below_alloc ?_ _ | refine below_step ?_ (by assumption))); have hz_w1 := hB_w1.size; have hsw10 : w.heap.size < w1.heap.size := Nat.lt_of_lt_of_le (by first | (simp; done) | (simp; omega) | omega) hb.size; have hnw10 : ¬ w.heap.size = w1.heap.size := (by omega); have hmw10 : ¬ w1.heap.size = w.heap.size := (by omega); have hlw10_0 : w.heap.size ≤ w1.heap.size := (by omega); have hlw10_1 : w.heap.size ≤ w1.heap.size + 1 := (by omega); have hlw10_2 : w.heap.size ≤ w1.heap.size + 1 + 1 := (by omega); have hkw10 : w1.cell? ⟨w.heap.size, 0, none⟩ = some (.int .i64 s) := (by rw [hb.cell (p := ⟨w.heap.size, 0, none⟩) (by first | (simp; done) | (simp; omega) | omega)]; first | (go_simp; done) | assumption); have hkw11 : w1.cell? ⟨w.heap.size, 1, none⟩ = some (.int .i64 d) := (by rw [hb.cell (p := ⟨w.heap.size, 1, none⟩) (by first | (simp; done) | (simp; omega) | omega)]; first | (go_simp; done) | assumption); have hkw12 : w1.cell? ⟨w.heap.size, 2, none⟩ = some (.int .i64 l) := (by rw [hb.cell (p := ⟨w.heap.size, 2, none⟩) (by first | (simp; done) | (simp; omega) | omega)]; first | (go_simp; done) | assumption); have hsw13 : w.heap.size + 1 < w1.heap.size := Nat.lt_of_lt_of_le (by first | (simp; done) | (simp; omega) | omega) hb.size; have hnw13 : ¬ w.heap.size + 1 = w1.heap.size := (by omega); have hmw13 : ¬ w1.heap.size = w.heap.size + 1 := (by omega); have hlw13_0 : w.heap.size + 1 ≤ w1.heap.size := (by omega); have hlw13_1 : w.heap.size + 1 ≤ w1.heap.size + 1 := (by omega); have hlw13_2 : w.heap.size + 1 ≤ w1.heap.size + 1 + 1 := (by omega); have hkw13 : w1.cell? ⟨w.heap.size + 1, 0, none⟩ = some (.int .i64 n0) := (by rw [hb.cell (p := ⟨w.heap.size + 1, 0, none⟩) (by first | (simp; done) | (simp; omega) | omega)]; first | (go_simp; done) | assumption); have hkw14 : w1.cell? ⟨w.heap.size + 1, 1, none⟩ = some (.int .i64 n1) := (by rw [hb.cell (p := ⟨w.heap.size + 1, 1, none⟩) (by first | (simp; done) | (simp; omega) | omega)]; first | (go_simp; done) | assumption); have hkw15 : w1.cell? ⟨w.heap.size + 1, 2, none⟩ = some (.int .i64 n2) := (by rw [hb.cell (p := ⟨w.heap.size + 1, 2, none⟩) (by first | (simp; done) | (simp; omega) | omega)]; first | (go_simp; done) | assumption); have hkw16 : w1.cell? ⟨w.heap.size + 1, 3, none⟩ = some (.int .i64 n3) := (by rw [hb.cell (p := ⟨w.heap.size + 1, 3, none⟩) (by first | (simp; done) | (simp; omega) | omega)]; first | (go_simp; done) | assumption); clear hb
      go_wp2_with fail
      refine (C1.out _ (by repeat (first | exact Below.refl _ _ | assumption | refine Below.setCell ?_ (by first | (simp; done) | (simp; omega) | omega) _ | refine Below.drew ?_ | refine below_drewN ?_ _ | refine Below.alloc ?_ (by first | (simp; done) | (simp; omega) | omega) _ | refine below_alloc ?_ _ | refine below_step ?_ (by assumption)))).mono ?_
      rintro e w2 ⟨rfl, hb⟩
      have hB_w2 : Below w.heap.size w w2 := (by repeat (first | exact Below.refl _ _ | assumption | refine Below.setCell ?_ (by first | (simp; done) | (simp; omega) | omega) _ | refine Below.drew ?_ | refine below_drewN ?_ _ | refine Below.alloc ?_ (by first | (simp; done) | (simp; omega) | omega) _ | refine below_alloc ?_ _ | refine below_step ?_ (by assumption))); have hz_w2 := hB_w2.size; have hsw20 : w.heap.size < w2.heap.size := Nat.lt_of_lt_of_le (by first | (simp; done) | (simp; omega) | omega) hb.size; have hnw20 : ¬ w.heap.size = w2.heap.size := (by omega); have hmw20 : ¬ w2.heap.size = w.heap.size := (by omega); have hlw20_0 : w.heap.size ≤ w2.heap.size := (by omega); have hlw20_1 : w.heap.size ≤ w2.heap.size + 1 := (by omega); have hlw20_2 : w.heap.size ≤ w2.heap.size + 1 + 1 := (by omega); have hkw20 : w2.cell? ⟨w.heap.size, 0, none⟩ = some (.int .i64 s) := (by rw [hb.cell (p := ⟨w.heap.size, 0, none⟩) (by first | (simp; done) | (simp; omega) | omega)]; first | (go_simp; done) | assumption); have hkw21 : w2.cell? ⟨w.heap.size, 1, none⟩ = some (.int .i64 d) := (by rw [hb.cell (p := ⟨w.heap.size, 1, none⟩) (by first | (simp; done) | (simp; omega) | omega)]; first | (go_simp; done) | assumption); have hkw22 : w2.cell? ⟨w.heap.size, 2, none⟩ = some (.int .i64 l) := (by rw [hb.cell (p := ⟨w.heap.size, 2, none⟩) (by first | (simp; done) | (simp; omega) | omega)]; first | (go_simp; done) | assumption); clear hb hB_w1 hlw10_0 hlw10_1 hlw10_2 hkw10 hkw11 hkw12 hlw13_0 hlw13_1 hlw13_2 hkw13 hkw14 hkw15 hkw16
      go_wp2_with fail
      refine (C2.out _ (by repeat (first | exact Below.refl _ _ | assumption | refine Below.setCell ?_ (by first | (simp; done) | (simp; omega) | omega) _ | refine Below.drew ?_ | refine below_drewN ?_ _ | refine Below.alloc ?_ (by first | (simp; done) | (simp; omega) | omega) _ | refine below_alloc ?_ _ | refine below_step ?_ (by assumption)))).mono ?_
      rintro e w3 ⟨rfl, hb⟩
      have hB_w3 : Below w.heap.size w w3 := (by repeat (first | exact Below.refl _ _ | assumption | refine Below.setCell ?_ (by first | (simp; done) | (simp; omega) | omega) _ | refine Below.drew ?_ | refine below_drewN ?_ _ | refine Below.alloc ?_ (by first | (simp; done) | (simp; omega) | omega) _ | refine below_alloc ?_ _ | refine below_step ?_ (by assumption))); have hz_w3 := hB_w3.size; have hsw30 : w.heap.size < w3.heap.size := Nat.lt_of_lt_of_le (by first | (simp; done) | (simp; omega) | omega) hb.size; have hnw30 : ¬ w.heap.size = w3.heap.size := (by omega); have hmw30 : ¬ w3.heap.size = w.heap.size := (by omega); have hlw30_0 : w.heap.size ≤ w3.heap.size := (by omega); have hlw30_1 : w.heap.size ≤ w3.heap.size + 1 := (by omega); have hlw30_2 : w.heap.size ≤ w3.heap.size + 1 + 1 := (by omega); have hkw30 : w3.cell? ⟨w.heap.size, 0, none⟩ = some (.int .i64 s) := (by rw [hb.cell (p := ⟨w.heap.size, 0, none⟩) (by first | (simp; done) | (simp; omega) | omega)]; first | (go_simp; done) | assumption); have hkw31 : w3.cell? ⟨w.heap.size, 1, none⟩ = some (.int .i64 d) := (by rw [hb.cell (p := ⟨w.heap.size, 1, none⟩) (by first | (simp; done) | (simp; omega) | omega)]; first | (go_simp; done) | assumption); have hkw32 : w3.cell? ⟨w.heap.size, 2, none⟩ = some (.int .i64 l) := (by rw [hb.cell (p := ⟨w.heap.size, 2, none⟩) (by first | (simp; done) | (simp; omega) | omega)]; first | (go_simp; done) | assumption); clear hb hB_w2 hlw20_0 hlw20_1 hlw20_2 hkw20 hkw21 hkw22
      go_upto_region 8 with fail
      go_cut [64] (fun s wc => s = .bool false ∧ w3 = wc)
      case first =>
        by_cases k1 : E1 = 0
        · by_cases k2 : n0 ≤ n1
          · have hm := H1.out k1 k2
            have k1' : (E1 == 0) = true := by simpa using k1
            clear k1
            go_wp2
            go_meet
            case rel => exact ⟨by rw [decide_eq_false (by omega)], rfl⟩
          · have k1' : (E1 == 0) = true := by simpa using k1
            clear k1
            go_wp2
            go_meet
            case rel => exact ⟨rfl, rfl⟩
        · have k1' : (E1 == 0) = false := by simpa using k1
          clear k1
          go_wp2
          go_meet
          case rel => exact ⟨rfl, rfl⟩
      case rest =>
        obtain ⟨rfl, rfl⟩ := hcut
        go_wp2_with (at_builtin; go_loud (refine wpList_append_src rfl (.tmp 65) (.tmp 66) 53 rfl w3.heap.size 79 i0 (.agg #[.int .i64 0, .int .i64 0]) 2 16 Try.underlying53 hI0.out hI1.out hI2.out hI3.out rfl (by decide) (.slice (some ⟨w3.heap.size, 0, none⟩) 0 0) 0 [] rfl (World.ownsRow_made w3 #[] 0 (Nat.le_refl _) (by decide) rfl) (by simp) _ len cap (pcells us) rfl (by rw [pcells_len, HX.out.1]) (by intro hA; have := HX.out.2; rcases Nat.eq_zero_or_pos len with h | h; exact h; obtain ⟨b, off, hb, _⟩ := this h; rw [hA] at hb; cases hb) (HX.out.below (B := w.heap.size) (w' := w3.alloc _) (by repeat (first | exact Below.refl _ _ | assumption | refine Below.setCell ?_ (by first | (simp; done) | (simp; omega) | omega) _ | refine Below.drew ?_ | refine below_drewN ?_ _ | refine Below.alloc ?_ (by first | (simp; done) | (simp; omega) | omega) _ | refine below_alloc ?_ _ | refine below_step ?_ (by assumption)))).cells (pcells_one us) (by unfold maxLen; omega) (by omega) (by simp) ?_))
        intro v1 w4 hown1 hgr1 _
        have hb4 : Below w3.heap.size w3 w4 := ((Below.refl _ _).alloc (Nat.le_refl _) _).trans (grown_below hgr1 (by simp) (by intro k hk; simp [Value.ownBlock] at hk; omega))
        have hz4 := hb4.size
        have HO1 := Lib.hid hown1
        clear hown1 hgr1
        go_wp2_with (at_builtin; go_loud (refine wpList_append_own _ rfl (.tmp 67) (.tmp 71) 53 rfl w3.heap.size 79 i0 (.agg #[.int .i64 0, .int .i64 0]) 2 16 Try.underlying53 hI0.out hI1.out hI2.out hI3.out rfl (by decide) v1 len (pcells us) rfl (HO1.out.alloc _) ⟨w4.heap.size, 0, none⟩ 1 1 [.int .i64 n0, .int .i64 n2] rfl rfl (news2 _ _ _ _) (one2 _ _) (by unfold maxLen; omega) (by omega) (by simp; omega) ?_))
        intro v2 w5 hown2 hgr2 _
        have hb : Below w3.heap.size w3 w5 := hb4.trans ((Below.alloc (Below.refl _ _) hz4 _).trans (grown_below hgr2 (by simp; omega) (fun q hq => (HO1.out.lt q hq).1)))
        have hown3 : w5.ownsRow w3.heap.size 79 2 v2 (len + 1) (pcells (us ++ [(n0, n2)])) := by
          rw [pcells_app]
          simpa [pcells] using hown2
        clear hown2 hgr2
        obtain ⟨A', cap', rfl, hnc, hmx, hP', _⟩ := own_pairs hown3
        have HP := Lib.hid hP'
        clear hP' hown3
        unfold maxLen at hmx
        have hB_w5 : Below w.heap.size w w5 := (by repeat (first | exact Below.refl _ _ | assumption | refine Below.setCell ?_ (by first | (simp; done) | (simp; omega) | omega) _ | refine Below.drew ?_ | refine below_drewN ?_ _ | refine Below.alloc ?_ (by first | (simp; done) | (simp; omega) | omega) _ | refine below_alloc ?_ _ | refine below_step ?_ (by assumption))); have hz_w5 := hB_w5.size; have hsw50 : w.heap.size < w5.heap.size := Nat.lt_of_lt_of_le (by first | (simp; done) | (simp; omega) | omega) hb.size; have hnw50 : ¬ w.heap.size = w5.heap.size := (by omega); have hmw50 : ¬ w5.heap.size = w.heap.size := (by omega); have hlw50_0 : w.heap.size ≤ w5.heap.size := (by omega); have hlw50_1 : w.heap.size ≤ w5.heap.size + 1 := (by omega); have hlw50_2 : w.heap.size ≤ w5.heap.size + 1 + 1 := (by omega); have hkw50 : w5.cell? ⟨w.heap.size, 0, none⟩ = some (.int .i64 s) := (by rw [hb.cell (p := ⟨w.heap.size, 0, none⟩) (by first | (simp; done) | (simp; omega) | omega)]; first | (go_simp; done) | assumption); have hkw51 : w5.cell? ⟨w.heap.size, 1, none⟩ = some (.int .i64 d) := (by rw [hb.cell (p := ⟨w.heap.size, 1, none⟩) (by first | (simp; done) | (simp; omega) | omega)]; first | (go_simp; done) | assumption); have hkw52 : w5.cell? ⟨w.heap.size, 2, none⟩ = some (.int .i64 l) := (by rw [hb.cell (p := ⟨w.heap.size, 2, none⟩) (by first | (simp; done) | (simp; omega) | omega)]; first | (go_simp; done) | assumption); clear hb hB_w3 hlw30_0 hlw30_1 hlw30_2 hkw30 hkw31 hkw32
        clear hb4 hz4 HO1
        go_wp2_with fail
        refine (C3.out A' cap' _ (by omega) HP.out).mono ?_
        rintro e w6 ⟨rfl, hb⟩
        have hB_w6 : Below w.heap.size w w6 := (by repeat (first | exact Below.refl _ _ | assumption | refine Below.setCell ?_ (by first | (simp; done) | (simp; omega) | omega) _ | refine Below.drew ?_ | refine below_drewN ?_ _ | refine Below.alloc ?_ (by first | (simp; done) | (simp; omega) | omega) _ | refine below_alloc ?_ _ | refine below_step ?_ (by assumption))); have hz_w6 := hB_w6.size; have hsw60 : w.heap.size < w6.heap.size := Nat.lt_of_lt_of_le (by first | (simp; done) | (simp; omega) | omega) hb.size; have hnw60 : ¬ w.heap.size = w6.heap.size := (by omega); have hmw60 : ¬ w6.heap.size = w.heap.size := (by omega); have hlw60_0 : w.heap.size ≤ w6.heap.size := (by omega); have hlw60_1 : w.heap.size ≤ w6.heap.size + 1 := (by omega); have hlw60_2 : w.heap.size ≤ w6.heap.size + 1 + 1 := (by omega); have hkw60 : w6.cell? ⟨w.heap.size, 0, none⟩ = some (.int .i64 s) := (by rw [hb.cell (p := ⟨w.heap.size, 0, none⟩) (by first | (simp; done) | (simp; omega) | omega)]; first | (go_simp; done) | assumption); have hkw61 : w6.cell? ⟨w.heap.size, 1, none⟩ = some (.int .i64 d) := (by rw [hb.cell (p := ⟨w.heap.size, 1, none⟩) (by first | (simp; done) | (simp; omega) | omega)]; first | (go_simp; done) | assumption); have hkw62 : w6.cell? ⟨w.heap.size, 2, none⟩ = some (.int .i64 l) := (by rw [hb.cell (p := ⟨w.heap.size, 2, none⟩) (by first | (simp; done) | (simp; omega) | omega)]; first | (go_simp; done) | assumption); clear hb hB_w5 hlw50_0 hlw50_1 hlw50_2 hkw50 hkw51 hkw52
        go_upto_region 12 with fail
        go_cut [86] (fun s wc => s = .bool false ∧ w6 = wc)
        case first =>
          by_cases k1 : E2 = 0
          · have hm := H2.out k1
            have k1' : (E2 == 0) = true := by simpa using k1
            clear k1
            go_wp2
            go_meet
            case rel => exact ⟨by rw [decide_eq_false (by omega)], rfl⟩
          · have k1' : (E2 == 0) = false := by simpa using k1
            clear k1
            go_wp2
            go_meet
            case rel => exact ⟨rfl, rfl⟩
        case rest =>
          obtain ⟨rfl, rfl⟩ := hcut
          go_wp2_with fail
          refine (C4.out _ (by repeat (first | exact Below.refl _ _ | assumption | refine Below.setCell ?_ (by first | (simp; done) | (simp; omega) | omega) _ | refine Below.drew ?_ | refine below_drewN ?_ _ | refine Below.alloc ?_ (by first | (simp; done) | (simp; omega) | omega) _ | refine below_alloc ?_ _ | refine below_step ?_ (by assumption)))).mono ?_
          rintro e w7 ⟨rfl, hb⟩
          have hB_w7 : Below w.heap.size w w7 := (by repeat (first | exact Below.refl _ _ | assumption | refine Below.setCell ?_ (by first | (simp; done) | (simp; omega) | omega) _ | refine Below.drew ?_ | refine below_drewN ?_ _ | refine Below.alloc ?_ (by first | (simp; done) | (simp; omega) | omega) _ | refine below_alloc ?_ _ | refine below_step ?_ (by assumption))); have hz_w7 := hB_w7.size; have hsw70 : w.heap.size < w7.heap.size := Nat.lt_of_lt_of_le (by first | (simp; done) | (simp; omega) | omega) hb.size; have hnw70 : ¬ w.heap.size = w7.heap.size := (by omega); have hmw70 : ¬ w7.heap.size = w.heap.size := (by omega); have hlw70_0 : w.heap.size ≤ w7.heap.size := (by omega); have hlw70_1 : w.heap.size ≤ w7.heap.size + 1 := (by omega); have hlw70_2 : w.heap.size ≤ w7.heap.size + 1 + 1 := (by omega); have hkw70 : w7.cell? ⟨w.heap.size, 0, none⟩ = some (.int .i64 s) := (by rw [hb.cell (p := ⟨w.heap.size, 0, none⟩) (by first | (simp; done) | (simp; omega) | omega)]; first | (go_simp; done) | assumption); have hkw71 : w7.cell? ⟨w.heap.size, 1, none⟩ = some (.int .i64 d) := (by rw [hb.cell (p := ⟨w.heap.size, 1, none⟩) (by first | (simp; done) | (simp; omega) | omega)]; first | (go_simp; done) | assumption); have hkw72 : w7.cell? ⟨w.heap.size, 2, none⟩ = some (.int .i64 l) := (by rw [hb.cell (p := ⟨w.heap.size, 2, none⟩) (by first | (simp; done) | (simp; omega) | omega)]; first | (go_simp; done) | assumption); clear hb hB_w6 hlw60_0 hlw60_1 hlw60_2 hkw60 hkw61 hkw62
          obtain ⟨B15, hB⟩ : ∃ b : Bool, b = (decide (E3 = 0) && (M3 && (decide (0 ≤ n3) && decide (n3 ≤ n2)))) := ⟨_, rfl⟩
          have HB := Lib.hid hB
          clear hB
          go_upto_region 15 with fail
          go_cut [108] (fun s wc => s = .bool B15 ∧ w7 = wc)
          case first =>
            by_cases k1 : E3 = 0
            · subst k1
              cases M3
              · go_wp2
                go_meet
                case rel => exact ⟨by rw [HB.out]; simp, rfl⟩
              · by_cases k2 : 0 ≤ n3
                · go_wp2
                  go_meet
                  case rel => exact ⟨by rw [HB.out]; simp [k2], rfl⟩
                · go_wp2
                  go_meet
                  case rel => exact ⟨by rw [HB.out]; simp [show ¬ 0 ≤ n3 by omega], rfl⟩
            · have k1' : (E3 == 0) = false := by simpa using k1
              go_wp2
              go_meet
              case rel => exact ⟨by rw [HB.out]; simp [k1], rfl⟩
          case rest =>
            obtain ⟨rfl, rfl⟩ := hcut
            cases hB15 : B15
            · go_wp2_with fail
              refine (C6.out _ (by repeat (first | exact Below.refl _ _ | assumption | refine Below.setCell ?_ (by first | (simp; done) | (simp; omega) | omega) _ | refine Below.drew ?_ | refine below_drewN ?_ _ | refine Below.alloc ?_ (by first | (simp; done) | (simp; omega) | omega) _ | refine below_alloc ?_ _ | refine below_step ?_ (by assumption)))).mono ?_
              rintro e w9 ⟨rfl, hb⟩
              have hB_w9 : Below w.heap.size w w9 := (by repeat (first | exact Below.refl _ _ | assumption | refine Below.setCell ?_ (by first | (simp; done) | (simp; omega) | omega) _ | refine Below.drew ?_ | refine below_drewN ?_ _ | refine Below.alloc ?_ (by first | (simp; done) | (simp; omega) | omega) _ | refine below_alloc ?_ _ | refine below_step ?_ (by assumption))); have hz_w9 := hB_w9.size; have hsw90 : w.heap.size < w9.heap.size := Nat.lt_of_lt_of_le (by first | (simp; done) | (simp; omega) | omega) hb.size; have hnw90 : ¬ w.heap.size = w9.heap.size := (by omega); have hmw90 : ¬ w9.heap.size = w.heap.size := (by omega); have hlw90_0 : w.heap.size ≤ w9.heap.size := (by omega); have hlw90_1 : w.heap.size ≤ w9.heap.size + 1 := (by omega); have hlw90_2 : w.heap.size ≤ w9.heap.size + 1 + 1 := (by omega); have hkw90 : w9.cell? ⟨w.heap.size, 0, none⟩ = some (.int .i64 s) := (by rw [hb.cell (p := ⟨w.heap.size, 0, none⟩) (by first | (simp; done) | (simp; omega) | omega)]; first | (go_simp; done) | assumption); have hkw91 : w9.cell? ⟨w.heap.size, 1, none⟩ = some (.int .i64 d) := (by rw [hb.cell (p := ⟨w.heap.size, 1, none⟩) (by first | (simp; done) | (simp; omega) | omega)]; first | (go_simp; done) | assumption); have hkw92 : w9.cell? ⟨w.heap.size, 2, none⟩ = some (.int .i64 l) := (by rw [hb.cell (p := ⟨w.heap.size, 2, none⟩) (by first | (simp; done) | (simp; omega) | omega)]; first | (go_simp; done) | assumption); clear hb hB_w7 hlw70_0 hlw70_1 hlw70_2 hkw70 hkw71 hkw72
              rcases H4.out with ⟨rfl, hl⟩ | ⟨rfl, hq⟩
              · go_wp2_with (go_at_call 26; refine (awake_any _).mono ?_; rintro e w10 ⟨rfl, hb6⟩)
                go_ret
                exact ⟨rfl, (by repeat (first | exact Below.refl _ _ | assumption | refine Below.setCell ?_ (by first | (simp; done) | (simp; omega) | omega) _ | refine Below.drew ?_ | refine below_drewN ?_ _ | refine Below.alloc ?_ (by first | (simp; done) | (simp; omega) | omega) _ | refine below_alloc ?_ _ | refine below_step ?_ (by assumption)))⟩
              · by_cases hq2 : RV ≤ n0
                · have hq3 : L0 < l := by rw [decide_eq_true hq2] at hq; simpa using hq.symm
                  clear hq
                  go_wp2_with (go_at_call 26; refine (awake_any _).mono ?_; rintro e w10 ⟨rfl, hb6⟩)
                  go_ret
                  exact ⟨rfl, (by repeat (first | exact Below.refl _ _ | assumption | refine Below.setCell ?_ (by first | (simp; done) | (simp; omega) | omega) _ | refine Below.drew ?_ | refine below_drewN ?_ _ | refine Below.alloc ?_ (by first | (simp; done) | (simp; omega) | omega) _ | refine below_alloc ?_ _ | refine below_step ?_ (by assumption)))⟩
                · have hq3 : ¬ L0 < l := by rw [decide_eq_false hq2] at hq; simpa using hq.symm
                  clear hq
                  go_wp2_with (go_at_call 26; refine (awake_any _).mono ?_; rintro e w10 ⟨rfl, hb6⟩)
                  go_ret
                  exact ⟨rfl, (by repeat (first | exact Below.refl _ _ | assumption | refine Below.setCell ?_ (by first | (simp; done) | (simp; omega) | omega) _ | refine Below.drew ?_ | refine below_drewN ?_ _ | refine Below.alloc ?_ (by first | (simp; done) | (simp; omega) | omega) _ | refine below_alloc ?_ _ | refine below_step ?_ (by assumption)))⟩
            · have hall := HB.out
              rw [hB15] at hall
              simp only [Bool.true_eq, Bool.and_eq_true, decide_eq_true_eq] at hall
              obtain ⟨a1, a2, a3, a4⟩ := hall
              obtain ⟨e1, e2⟩ := H3.out a1 a2 a3 a4
              subst e1 e2
              clear a1 a2 a3 a4
              go_wp2_with fail
              refine (C5.out _ (by repeat (first | exact Below.refl _ _ | assumption | refine Below.setCell ?_ (by first | (simp; done) | (simp; omega) | omega) _ | refine Below.drew ?_ | refine below_drewN ?_ _ | refine Below.alloc ?_ (by first | (simp; done) | (simp; omega) | omega) _ | refine below_alloc ?_ _ | refine below_step ?_ (by assumption)))).mono ?_
              rintro e w8 ⟨rfl, hb⟩
              have hB_w8 : Below w.heap.size w w8 := (by repeat (first | exact Below.refl _ _ | assumption | refine Below.setCell ?_ (by first | (simp; done) | (simp; omega) | omega) _ | refine Below.drew ?_ | refine below_drewN ?_ _ | refine Below.alloc ?_ (by first | (simp; done) | (simp; omega) | omega) _ | refine below_alloc ?_ _ | refine below_step ?_ (by assumption))); have hz_w8 := hB_w8.size; have hsw80 : w.heap.size < w8.heap.size := Nat.lt_of_lt_of_le (by first | (simp; done) | (simp; omega) | omega) hb.size; have hnw80 : ¬ w.heap.size = w8.heap.size := (by omega); have hmw80 : ¬ w8.heap.size = w.heap.size := (by omega); have hlw80_0 : w.heap.size ≤ w8.heap.size := (by omega); have hlw80_1 : w.heap.size ≤ w8.heap.size + 1 := (by omega); have hlw80_2 : w.heap.size ≤ w8.heap.size + 1 + 1 := (by omega); have hkw80 : w8.cell? ⟨w.heap.size, 0, none⟩ = some (.int .i64 s) := (by rw [hb.cell (p := ⟨w.heap.size, 0, none⟩) (by first | (simp; done) | (simp; omega) | omega)]; first | (go_simp; done) | assumption); have hkw81 : w8.cell? ⟨w.heap.size, 1, none⟩ = some (.int .i64 d) := (by rw [hb.cell (p := ⟨w.heap.size, 1, none⟩) (by first | (simp; done) | (simp; omega) | omega)]; first | (go_simp; done) | assumption); have hkw82 : w8.cell? ⟨w.heap.size, 2, none⟩ = some (.int .i64 l) := (by rw [hb.cell (p := ⟨w.heap.size, 2, none⟩) (by first | (simp; done) | (simp; omega) | omega)]; first | (go_simp; done) | assumption); clear hb hB_w7 hlw70_0 hlw70_1 hlw70_2 hkw70 hkw71 hkw72
              go_wp2_with fail
              refine (C6.out _ (by repeat (first | exact Below.refl _ _ | assumption | refine Below.setCell ?_ (by first | (simp; done) | (simp; omega) | omega) _ | refine Below.drew ?_ | refine below_drewN ?_ _ | refine Below.alloc ?_ (by first | (simp; done) | (simp; omega) | omega) _ | refine below_alloc ?_ _ | refine below_step ?_ (by assumption)))).mono ?_
              rintro e w9 ⟨rfl, hb⟩
              have hB_w9 : Below w.heap.size w w9 := (by repeat (first | exact Below.refl _ _ | assumption | refine Below.setCell ?_ (by first | (simp; done) | (simp; omega) | omega) _ | refine Below.drew ?_ | refine below_drewN ?_ _ | refine Below.alloc ?_ (by first | (simp; done) | (simp; omega) | omega) _ | refine below_alloc ?_ _ | refine below_step ?_ (by assumption))); have hz_w9 := hB_w9.size; have hsw90 : w.heap.size < w9.heap.size := Nat.lt_of_lt_of_le (by first | (simp; done) | (simp; omega) | omega) hb.size; have hnw90 : ¬ w.heap.size = w9.heap.size := (by omega); have hmw90 : ¬ w9.heap.size = w.heap.size := (by omega); have hlw90_0 : w.heap.size ≤ w9.heap.size := (by omega); have hlw90_1 : w.heap.size ≤ w9.heap.size + 1 := (by omega); have hlw90_2 : w.heap.size ≤ w9.heap.size + 1 + 1 := (by omega); have hkw90 : w9.cell? ⟨w.heap.size, 0, none⟩ = some (.int .i64 s) := (by rw [hb.cell (p := ⟨w.heap.size, 0, none⟩) (by first | (simp; done) | (simp; omega) | omega)]; first | (go_simp; done) | assumption); have hkw91 : w9.cell? ⟨w.heap.size, 1, none⟩ = some (.int .i64 d) := (by rw [hb.cell (p := ⟨w.heap.size, 1, none⟩) (by first | (simp; done) | (simp; omega) | omega)]; first | (go_simp; done) | assumption); have hkw92 : w9.cell? ⟨w.heap.size, 2, none⟩ = some (.int .i64 l) := (by rw [hb.cell (p := ⟨w.heap.size, 2, none⟩) (by first | (simp; done) | (simp; omega) | omega)]; first | (go_simp; done) | assumption); clear hb hB_w8 hlw80_0 hlw80_1 hlw80_2 hkw80 hkw81 hkw82
              rcases H4.out with ⟨rfl, hl⟩ | ⟨rfl, hq⟩
              · go_wp2_with (go_at_call 26; refine (awake_any _).mono ?_; rintro e w10 ⟨rfl, hb6⟩)
                go_ret
                exact ⟨rfl, (by repeat (first | exact Below.refl _ _ | assumption | refine Below.setCell ?_ (by first | (simp; done) | (simp; omega) | omega) _ | refine Below.drew ?_ | refine below_drewN ?_ _ | refine Below.alloc ?_ (by first | (simp; done) | (simp; omega) | omega) _ | refine below_alloc ?_ _ | refine below_step ?_ (by assumption)))⟩
              · by_cases hq2 : RV ≤ n0
                · have hq3 : L0 < l := by rw [decide_eq_true hq2] at hq; simpa using hq.symm
                  clear hq
                  go_wp2_with (go_at_call 26; refine (awake_any _).mono ?_; rintro e w10 ⟨rfl, hb6⟩)
                  go_ret
                  exact ⟨rfl, (by repeat (first | exact Below.refl _ _ | assumption | refine Below.setCell ?_ (by first | (simp; done) | (simp; omega) | omega) _ | refine Below.drew ?_ | refine below_drewN ?_ _ | refine Below.alloc ?_ (by first | (simp; done) | (simp; omega) | omega) _ | refine below_alloc ?_ _ | refine below_step ?_ (by assumption)))⟩
                · have hq3 : ¬ L0 < l := by rw [decide_eq_false hq2] at hq; simpa using hq.symm
                  clear hq
                  go_wp2_with (go_at_call 26; refine (awake_any _).mono ?_; rintro e w10 ⟨rfl, hb6⟩)
                  go_ret
                  exact ⟨rfl, (by repeat (first | exact Below.refl _ _ | assumption | refine Below.setCell ?_ (by first | (simp; done) | (simp; omega) | omega) _ | refine Below.drew ?_ | refine below_drewN ?_ _ | refine Below.alloc ?_ (by first | (simp; done) | (simp; omega) | omega) _ | refine below_alloc ?_ _ | refine below_step ?_ (by assumption)))⟩
    · generalize leftV s d l us n0 = L0 at *
      generalize askR s d l us n0 = E at *
      have he' : (E == 0) = false := by simpa using hE
      have C1 := Lib.hid c1
      clear c1 hx hE
      go_enter Try.func14, Try.ntmps14
      go_wp2
      (refine wp_region_later (by kernel_rfl) (by kernel_rfl) ?_; (repeat (go_big_quiet_step ((fail)))); refine wpQuiet_nil ?_)
      intro w1 hb
      have hB_w1 : Below w.heap.size w w1 := (by repeat (first | exact Below.refl _ _ | assumption | refine Below.setCell ?_ (by first | (simp; done) | (simp; omega) | omega) _ | refine Below.drew ?_ | refine below_drewN ?_ _ | refine Below.alloc ?_ (by first | (simp; done) | (simp; omega) | omega) _ | refine below_alloc ?_ _ | refine below_step ?_ (by assumption))); have hz_w1 := hB_w1.size; have hsw10 : w.heap.size < w1.heap.size := Nat.lt_of_lt_of_le (by first | (simp; done) | (simp; omega) | omega) hb.size; have hnw10 : ¬ w.heap.size = w1.heap.size := (by omega); have hmw10 : ¬ w1.heap.size = w.heap.size := (by omega); have hlw10_0 : w.heap.size ≤ w1.heap.size := (by omega); have hlw10_1 : w.heap.size ≤ w1.heap.size + 1 := (by omega); have hlw10_2 : w.heap.size ≤ w1.heap.size + 1 + 1 := (by omega); have hkw10 : w1.cell? ⟨w.heap.size, 0, none⟩ = some (.int .i64 s) := (by rw [hb.cell (p := ⟨w.heap.size, 0, none⟩) (by first | (simp; done) | (simp; omega) | omega)]; first | (go_simp; done) | assumption); have hkw11 : w1.cell? ⟨w.heap.size, 1, none⟩ = some (.int .i64 d) := (by rw [hb.cell (p := ⟨w.heap.size, 1, none⟩) (by first | (simp; done) | (simp; omega) | omega)]; first | (go_simp; done) | assumption); have hkw12 : w1.cell? ⟨w.heap.size, 2, none⟩ = some (.int .i64 l) := (by rw [hb.cell (p := ⟨w.heap.size, 2, none⟩) (by first | (simp; done) | (simp; omega) | omega)]; first | (go_simp; done) | assumption); have hsw13 : w.heap.size + 1 < w1.heap.size := Nat.lt_of_lt_of_le (by first | (simp; done) | (simp; omega) | omega) hb.size; have hnw13 : ¬ w.heap.size + 1 = w1.heap.size := (by omega); have hmw13 : ¬ w1.heap.size = w.heap.size + 1 := (by omega); have hlw13_0 : w.heap.size + 1 ≤ w1.heap.size := (by omega); have hlw13_1 : w.heap.size + 1 ≤ w1.heap.size + 1 := (by omega); have hlw13_2 : w.heap.size + 1 ≤ w1.heap.size + 1 + 1 := (by omega); have hkw13 : w1.cell? ⟨w.heap.size + 1, 0, none⟩ = some (.int .i64 n0) := (by rw [hb.cell (p := ⟨w.heap.size + 1, 0, none⟩) (by first | (simp; done) | (simp; omega) | omega)]; first | (go_simp; done) | assumption); have hkw14 : w1.cell? ⟨w.heap.size + 1, 1, none⟩ = some (.int .i64 n1) := (by rw [hb.cell (p := ⟨w.heap.size + 1, 1, none⟩) (by first | (simp; done) | (simp; omega) | omega)]; first | (go_simp; done) | assumption); have hkw15 : w1.cell? ⟨w.heap.size + 1, 2, none⟩ = some (.int .i64 n2) := (by rw [hb.cell (p := ⟨w.heap.size + 1, 2, none⟩) (by first | (simp; done) | (simp; omega) | omega)]; first | (go_simp; done) | assumption); have hkw16 : w1.cell? ⟨w.heap.size + 1, 3, none⟩ = some (.int .i64 n3) := (by rw [hb.cell (p := ⟨w.heap.size + 1, 3, none⟩) (by first | (simp; done) | (simp; omega) | omega)]; first | (go_simp; done) | assumption); clear hb
      go_wp2_with fail
      refine (C1.out _ (by repeat (first | exact Below.refl _ _ | assumption | refine Below.setCell ?_ (by first | (simp; done) | (simp; omega) | omega) _ | refine Below.drew ?_ | refine below_drewN ?_ _ | refine Below.alloc ?_ (by first | (simp; done) | (simp; omega) | omega) _ | refine below_alloc ?_ _ | refine below_step ?_ (by assumption)))).mono ?_
      rintro e w2 ⟨rfl, hb⟩
      have hB_w2 : Below w.heap.size w w2 := (by repeat (first | exact Below.refl _ _ | assumption | refine Below.setCell ?_ (by first | (simp; done) | (simp; omega) | omega) _ | refine Below.drew ?_ | refine below_drewN ?_ _ | refine Below.alloc ?_ (by first | (simp; done) | (simp; omega) | omega) _ | refine below_alloc ?_ _ | refine below_step ?_ (by assumption))); have hz_w2 := hB_w2.size; clear hb hB_w1 hlw10_0 hlw10_1 hlw10_2 hkw10 hkw11 hkw12 hlw13_0 hlw13_1 hlw13_2 hkw13 hkw14 hkw15 hkw16
      go_wp2_with (go_at_call 26; refine (awake_any _).mono ?_; rintro e w10 ⟨rfl, hb6⟩)
      go_ret
      exact ⟨rfl, (by repeat (first | exact Below.refl _ _ | assumption | refine Below.setCell ?_ (by first | (simp; done) | (simp; omega) | omega) _ | refine Below.drew ?_ | refine below_drewN ?_ _ | refine Below.alloc ?_ (by first | (simp; done) | (simp; omega) | omega) _ | refine below_alloc ?_ _ | refine below_step ?_ (by assumption)))⟩
end Go.Proofs.Ythninhkimhnegaa
