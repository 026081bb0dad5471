/- Ropes: the reference's Wrong. -/
import Derived.Test.YthninhkimhnegaaWrong
set_option linter.unusedSimpArgs false
set_option linter.unusedVariables false
namespace Go.Proofs.Ythninhkimhnegaa
open Go.RowKit
attribute [local go_sem] Later.cell

set_option maxRecDepth 20000 in
set_option maxHeartbeats 2000000 in
theorem rWrong_any (s d l : Int) (A : Option Addr) (len cap : Nat) (us : List (Int × Int)) (w : World) (hm : len ≤ cap ∧ cap ≤ 9223372036854775807) (hx : Pairs w w.heap.size A len us) :
    Calls Try.prog 56 #[.agg #[.int .i64 s, .int .i64 d, .int .i64 l], .slice A len cap] w fun e w' => (∃ B n c, e = .returned (.tuple #[.slice B n c, .int .i64 (askR s d l us 0)]) ∧ (n ≤ c ∧ c ≤ 9223372036854775807) ∧ Ints w' w'.heap.size B n (wrongRes s d l us)) ∧ Below w.heap.size w w' := by
  have c1 := fun W (h : Below w.heap.size w W) => (err_zero s d l us 0) ▸ ropeError_any s d l A len cap us 0 0 W hm ((hx.below h).more h.size)
  by_cases he : askR s d l us 0 = 0
  · obtain ⟨g1, g2, g3, g4⟩ := ask_spec he
    have hv : wrongRes s d l us = wrongL s d l us us.length := if_pos he
    rw [hv, he]
    rw [he] at c1
    obtain ⟨u1, u2, u3⟩ := goodU_spec g2
    have hlen := hx.1
    have c2 := fun k (hk : k ≤ len) day ld (h0 : 0 ≤ day) (h1 : day ≤ 100000) (h2 : 0 ≤ ld) (h3 : ld ≤ 1000000) W (h : Below w.heap.size w W) => rmay_any s d l A k cap (us.take k) day ld W (by omega) (((hx.take k hk).below h).more h.size) g1 (goodU_take g2 k (by omega)) h0 h1 h2 h3
    have hwr : ∀ k, k < len → wrongP s d l us k = !mayR s d l (us.take k) (us[k]?.getD (0,0)).1 (us[k]?.getD (0,0)).2 := fun k hk => rfl
    have HX := Lib.hid hx
    have C1 := Lib.hid c1
    have C2 := Lib.hid c2
    have HW := Lib.hid hwr
    have HU := Lib.hid u2
    obtain ⟨i0, hi, hz0, hz1, hz2⟩ := info_parts info_int
    have hI0 := Lib.hid hi
    have hI1 := Lib.hid hz0
    have hI2 := Lib.hid hz1
    have hI3 := Lib.hid hz2
    clear hi hz0 hz1 hz2 c1 c2 hwr u2 u3 hx hv g1 g2 he
    go_enter Try.func56, Try.ntmps56
    go_wp2_with fail
    refine (C1.out _ (by repeat (first | exact Below.refl _ _ | assumption | refine Below.setCell ?_ (by first | (simp; done) | (simp; omega) | omega) _ | refine Below.drew ?_ | refine below_drewN ?_ _ | refine Below.alloc ?_ (by first | (simp; done) | (simp; omega) | omega) _ | refine below_alloc ?_ _ | refine below_step ?_ (by assumption)))).mono ?_
    rintro e w1 ⟨rfl, hb⟩
    have hB_w1 : Below w.heap.size w w1 := (by repeat (first | exact Below.refl _ _ | assumption | refine Below.setCell ?_ (by first | (simp; done) | (simp; omega) | omega) _ | refine Below.drew ?_ | refine below_drewN ?_ _ | refine Below.alloc ?_ (by first | (simp; done) | (simp; omega) | omega) _ | refine below_alloc ?_ _ | refine below_step ?_ (by assumption))); have hz_w1 := hB_w1.size; have hsw10 : w.heap.size < w1.heap.size := Nat.lt_of_lt_of_le (by first | (simp; done) | (simp; omega) | omega) hb.size; have hnw10 : ¬ w.heap.size = w1.heap.size := (by omega); have hmw10 : ¬ w1.heap.size = w.heap.size := (by omega); have hlw10_0 : w.heap.size ≤ w1.heap.size := (by omega); have hlw10_1 : w.heap.size ≤ w1.heap.size + 1 := (by omega); have hlw10_2 : w.heap.size ≤ w1.heap.size + 1 + 1 := (by omega); have hkw10 : w1.cell? ⟨w.heap.size, 0, none⟩ = some (.int .i64 s) := (by rw [hb.cell (p := ⟨w.heap.size, 0, none⟩) (by first | (simp; done) | (simp; omega) | omega)]; first | (go_simp; done) | assumption); have hkw11 : w1.cell? ⟨w.heap.size, 1, none⟩ = some (.int .i64 d) := (by rw [hb.cell (p := ⟨w.heap.size, 1, none⟩) (by first | (simp; done) | (simp; omega) | omega)]; first | (go_simp; done) | assumption); have hkw12 : w1.cell? ⟨w.heap.size, 2, none⟩ = some (.int .i64 l) := (by rw [hb.cell (p := ⟨w.heap.size, 2, none⟩) (by first | (simp; done) | (simp; omega) | omega)]; first | (go_simp; done) | assumption); clear hb
    go_wp2
    go_loopw [7, 8] (fun v i wr => ∃ k : Nat, k ≤ len ∧ i = .int .i64 k ∧ wr.ownsRow w1.heap.size 3 1 v (wrongL s d l us k).length (icells (wrongL s d l us k)) ∧ Below w1.heap.size w1 wr) (fun _ i _ => len - (intOf i).toNat)
    case atStart => exact ⟨0, Nat.zero_le _, rfl, (by exact World.ownsRow_nil w1 _ _ _ : w1.ownsRow w1.heap.size 3 1 (.slice none 0 0) ([] : List Int).length (icells [])), Below.refl _ _⟩
    case round =>
      obtain ⟨k, hk, rfl, hown, hb⟩ := hrel
      have hb' := hb
      have hbs := hb.size
      have hL := wrongL_len s d l us k
      by_cases hlt : k < len
      · obtain ⟨b, off, rfl, hb0, hc1, hc2⟩ := ((HX.out.below hB_w1).below (hb.mono hz_w1)).at_ k hlt
        have hB_wr : Below w.heap.size w wr := (by repeat (first | exact Below.refl _ _ | assumption | refine Below.setCell ?_ (by first | (simp; done) | (simp; omega) | omega) _ | refine Below.drew ?_ | refine below_drewN ?_ _ | refine Below.alloc ?_ (by first | (simp; done) | (simp; omega) | omega) _ | refine below_alloc ?_ _ | refine below_step ?_ (by assumption))); have hz_wr := hB_wr.size; have hswr0 : w.heap.size < wr.heap.size := Nat.lt_of_lt_of_le (by first | (simp; done) | (simp; omega) | omega) hb.size; have hnwr0 : ¬ w.heap.size = wr.heap.size := (by omega); have hmwr0 : ¬ wr.heap.size = w.heap.size := (by omega); have hlwr0_0 : w.heap.size ≤ wr.heap.size := (by omega); have hlwr0_1 : w.heap.size ≤ wr.heap.size + 1 := (by omega); have hlwr0_2 : w.heap.size ≤ wr.heap.size + 1 + 1 := (by omega); have hkwr0 : wr.cell? ⟨w.heap.size, 0, none⟩ = some (.int .i64 s) := (by rw [hb.cell (p := ⟨w.heap.size, 0, none⟩) (by first | (simp; done) | (simp; omega) | omega)]; first | (go_simp; done) | assumption); have hkwr1 : wr.cell? ⟨w.heap.size, 1, none⟩ = some (.int .i64 d) := (by rw [hb.cell (p := ⟨w.heap.size, 1, none⟩) (by first | (simp; done) | (simp; omega) | omega)]; first | (go_simp; done) | assumption); have hkwr2 : wr.cell? ⟨w.heap.size, 2, none⟩ = some (.int .i64 l) := (by rw [hb.cell (p := ⟨w.heap.size, 2, none⟩) (by first | (simp; done) | (simp; omega) | omega)]; first | (go_simp; done) | assumption); clear hb hB_w1 hlw10_0 hlw10_1 hlw10_2 hkw10 hkw11 hkw12
        have hbl : b < wr.heap.size := by omega
        have hu := HU.out k (by omega)
        have hw := HW.out k hlt
        have c3 := C2.out k hk _ _ hu.1.1 hu.1.2 hu.2.1 hu.2.2
        have hy := Lib.hid (wrongL_yes (s := s) (d := d) (l := l) (us := us) (k := k))
        have hn := Lib.hid (wrongL_no (s := s) (d := d) (l := l) (us := us) (k := k))
        generalize mayR s d l (us.take k) (us[k]?.getD (0,0)).1 (us[k]?.getD (0,0)).2 = S at *
        generalize us[k]?.getD (0,0) = X at *
        obtain ⟨X, Y⟩ := X
        dsimp only at hc1 hc2 hw c3 hu
        generalize wrongL s d l us k = R1 at *
        have HO := Lib.hid hown
        clear hown
        have hkc1 : (k : Int) ≤ cap := by omega
        have hkc2 : ¬ cap < k := by omega
        cases S
        · have hR := Lib.hid (hy.out (by rw [hw]; rfl))
          have C3 := Lib.hid c3
          clear c3
          clear hw hy hn
          go_wp2
          (refine wp_region_later (by kernel_rfl) (by kernel_rfl) ?_; (repeat (go_big_quiet_step ((go_at_call 81; exact later_call (C3.out _ (hB_wr.trans ((‹Later wr›).h.mono hz_wr))))))); refine wpQuiet_nil ?_)
          intro w4 hb
          have hb4 : Below wr.heap.size wr w4 := hb
          have HO4 := Lib.hid (own_later HO.out hb4)
          have hb5 := hb'.trans (hb4.mono hbs)
          have hz4 : w1.heap.size ≤ w4.heap.size := hb5.size
          go_wp2_with (at_builtin; go_loud (refine wpList_append_own _ rfl (.tmp 37) (.tmp 39) 70 rfl w1.heap.size 3 i0 (.int .i64 0) 1 8 Try.underlying70 hI0.out hI1.out hI2.out hI3.out rfl (by decide) _ _ _ rfl (HO4.out.alloc _) ⟨w4.heap.size, 0, none⟩ 1 1 [.int .i64 (k : Int)] rfl rfl (news1 _ _ _) (one1 _) (by unfold maxLen; omega) (by omega) (by simp; omega) ?_))
          intro v' w5 hown' hgrow _
          have hb6 : Below w1.heap.size w1 w5 := hb5.trans ((Below.alloc (Below.refl _ _) hz4 _).trans (grown_below hgrow (by simp; omega) (fun q hq => (HO4.out.lt q hq).1)))
          have HO5 : Hid (w5.ownsRow w1.heap.size 3 1 v' (R1 ++ [(k:Int)]).length (icells (R1 ++ [(k:Int)]))) := by
            rw [List.length_append, icells_app]; exact hown'
          clear hown' hgrow
          go_wp2
          go_roundw
          case rel => exact ⟨k + 1, by omega, by go_num, by rw [hR.out]; exact HO5.out, hb6⟩
          case measure => simp [intOf]; omega
        · have hR := Lib.hid (hn.out (by rw [hw]; rfl))
          have C3 := Lib.hid c3
          clear c3
          clear hw hy hn
          go_wp2
          (refine wp_region_later (by kernel_rfl) (by kernel_rfl) ?_; (repeat (go_big_quiet_step ((go_at_call 81; exact later_call (C3.out _ (hB_wr.trans ((‹Later wr›).h.mono hz_wr))))))); refine wpQuiet_nil ?_)
          intro w4 hb
          have hb4 : Below wr.heap.size wr w4 := hb
          have HO4 := Lib.hid (own_later HO.out hb4)
          have hb5 := hb'.trans (hb4.mono hbs)
          go_wp2
          go_roundw
          case rel => exact ⟨k + 1, by omega, by go_num, by rw [hR.out]; exact HO4.out, hb5⟩
          case measure => simp [intOf]; omega
      · have hkl : k = us.length := by omega
        obtain ⟨B, c, rfl, o1, o2, o3, _⟩ := own_ints hown
        have O3 := Lib.hid o3
        clear o3 hown
        rw [hkl] at O3 o1 ⊢
        go_wp2
        go_ret2
        exact ⟨⟨B, _, c, rfl, ⟨o1, by unfold maxLen at o2; omega⟩, O3.out⟩, hB_w1.trans (hb.mono hz_w1)⟩
  · have hv : wrongRes s d l us = [] := if_neg he
    rw [hv]
    generalize askR s d l us 0 = E at *
    have he' : (E == 0) = false := by simpa using he
    have C1 := Lib.hid c1
    clear c1 hx hv he
    go_enter Try.func56, Try.ntmps56
    go_wp2_with fail
    refine (C1.out _ (by repeat (first | exact Below.refl _ _ | assumption | refine Below.setCell ?_ (by first | (simp; done) | (simp; omega) | omega) _ | refine Below.drew ?_ | refine below_drewN ?_ _ | refine Below.alloc ?_ (by first | (simp; done) | (simp; omega) | omega) _ | refine below_alloc ?_ _ | refine below_step ?_ (by assumption)))).mono ?_
    rintro e w1 ⟨rfl, hb⟩
    have hB_w1 : Below w.heap.size w w1 := (by repeat (first | exact Below.refl _ _ | assumption | refine Below.setCell ?_ (by first | (simp; done) | (simp; omega) | omega) _ | refine Below.drew ?_ | refine below_drewN ?_ _ | refine Below.alloc ?_ (by first | (simp; done) | (simp; omega) | omega) _ | refine below_alloc ?_ _ | refine below_step ?_ (by assumption))); have hz_w1 := hB_w1.size; clear hb
    go_wp2
    go_ret2
    exact ⟨⟨none, 0, 0, rfl, ⟨by omega, by omega⟩, rfl, fun h => absurd h (by omega)⟩, (by repeat (first | exact Below.refl _ _ | assumption | refine Below.setCell ?_ (by first | (simp; done) | (simp; omega) | omega) _ | refine Below.drew ?_ | refine below_drewN ?_ _ | refine Below.alloc ?_ (by first | (simp; done) | (simp; omega) | omega) _ | refine below_alloc ?_ _ | refine below_step ?_ (by assumption)))⟩
end Go.Proofs.Ythninhkimhnegaa
