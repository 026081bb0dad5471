/- LadderDogs: the walk of the statement. -/
import Derived.Test.YtecocbohaggokaaFewest
import Derived.Test.YtecocbohaggokaaSameI
set_option linter.unusedSimpArgs false
set_option linter.unusedVariables false
namespace Go.Proofs.Ytecocbohaggokaa
open Go.RowKit
attribute [local go_sem] Later.cell

set_option maxRecDepth 20000 in
set_option maxHeartbeats 4000000 in
theorem dogs_walk (fi ga to le la st : Int) (A : Option Addr) (len cap : Nat) (l : List J) (A' : Option Addr) (n cap' : Nat) (ds : List Int) (w : World)
    (_ : -9223372036854775808 ≤ fi ∧ fi ≤ 9223372036854775807) (_ : -9223372036854775808 ≤ ga ∧ ga ≤ 9223372036854775807) (_ : -9223372036854775808 ≤ to ∧ to ≤ 9223372036854775807) (_ : -9223372036854775808 ≤ le ∧ le ≤ 9223372036854775807) (_ : -9223372036854775808 ≤ la ∧ la ≤ 9223372036854775807) (_ : -9223372036854775808 ≤ st ∧ st ≤ 9223372036854775807)
    (hm : len ≤ cap ∧ cap ≤ 9223372036854775807) (hx : Rows 2 jointV dJ w w.heap.size A len l) (_ : ∀ x ∈ l, -9223372036854775808 ≤ x.1 ∧ x.1 ≤ 9223372036854775807)
    (hm' : n ≤ cap' ∧ cap' ≤ 9223372036854775807) (hy : Ints w w.heap.size A' n ds) (_ : ∀ x ∈ ds, -9223372036854775808 ≤ x ∧ x ≤ 9223372036854775807) :
    Calls Try.prog 4 #[.agg #[.int .i64 fi, .int .i64 ga, .int .i64 to, .int .i64 le, .int .i64 la, .int .i64 st], .slice A len cap, .slice A' n cap'] w fun e w' => e = .returned (.bool true) ∧ Below w.heap.size w w' := by
  by_cases h1 : 300 < len
  · clear hx hy
    go_enter Try.func4, Try.ntmps4
    go_wp2_with (go_at_call 13; refine (awake_any _).mono ?_; rintro e w1 ⟨rfl, hb1⟩)
    go_ret
    exact ⟨rfl, (by repeat (first | exact Below.refl _ _ | assumption | refine Below.setCell ?_ (by first | (simp; done) | (simp; omega) | omega) _ | refine Below.drew ?_ | refine below_drewN ?_ _ | refine Below.alloc ?_ (by first | (simp; done) | (simp; omega) | omega) _ | refine below_alloc ?_ _ | refine below_step ?_ (by assumption)))⟩
  · by_cases h2 : 300 < n
    · clear hx hy
      go_enter Try.func4, Try.ntmps4
      go_wp2_with (go_at_call 13; refine (awake_any _).mono ?_; rintro e w1 ⟨rfl, hb1⟩)
      go_ret
      exact ⟨rfl, (by repeat (first | exact Below.refl _ _ | assumption | refine Below.setCell ?_ (by first | (simp; done) | (simp; omega) | omega) _ | refine Below.drew ?_ | refine below_drewN ?_ _ | refine Below.alloc ?_ (by first | (simp; done) | (simp; omega) | omega) _ | refine below_alloc ?_ _ | refine below_step ?_ (by assumption)))⟩
    · have c1 := fun W (h : Below w.heap.size w W) => Sound_any A len cap l W (by omega) ((hx.below h).more h.size)
      have c2 := fun W (h : Below w.heap.size w W) => rSound_any A len cap l W (by omega) ((hx.below h).more h.size)
      have c3 := fun W (h : Below w.heap.size w W) => VJoints_any A len cap l W (by omega) ((hx.below h).more h.size)
      have c4 := fun W (h : Below w.heap.size w W) => rVJoints_any A len cap l W (by omega) ((hx.below h).more h.size)
      have c5 := fun W => VClimb_any ⟨fi, ga, to, le, la, st⟩ W
      have c6 := fun W => rVClimb_any ⟨fi, ga, to, le, la, st⟩ W
      have c7 := fun W (h : Below w.heap.size w W) => Right_any ⟨fi, ga, to, le, la, st⟩ A len cap l A' n cap' ds W (by omega) (by omega) ((hx.below h).more h.size) ((hy.below h).more h.size)
      have c8 := fun W (h : Below w.heap.size w W) => rRight_any ⟨fi, ga, to, le, la, st⟩ A len cap l A' n cap' ds W (by omega) (by omega) ((hx.below h).more h.size) ((hy.below h).more h.size)
      generalize sndE l = E at *
      generalize sndR l = R at *
      generalize vJ l = VJ at *
      generalize vC _ = VC at *
      generalize rightB _ l ds = RI at *
      have C1 := Lib.hid c1
      have C2 := Lib.hid c2
      have C3 := Lib.hid c3
      have C4 := Lib.hid c4
      have C5 := Lib.hid c5
      have C6 := Lib.hid c6
      have C7 := Lib.hid c7
      have C8 := Lib.hid c8
      clear c1 c2 c3 c4 c5 c6 c7 c8 hx hy
      go_enter Try.func4, Try.ntmps4
      go_wp2_with fail
      refine (C1.out _ (by repeat (first | exact Below.refl _ _ | assumption | refine Below.setCell ?_ (by first | (simp; done) | (simp; omega) | omega) _ | refine Below.drew ?_ | refine below_drewN ?_ _ | refine Below.alloc ?_ (by first | (simp; done) | (simp; omega) | omega) _ | refine below_alloc ?_ _ | refine below_step ?_ (by assumption)))).mono ?_
      rintro e w1 ⟨⟨v1, rfl, ho1⟩, hb⟩
      obtain ⟨A1, k1, rfl, hm1, hm2, hI1, -⟩ := own_ints ho1
      have HI1 := Lib.hid hI1
      clear ho1 hI1
      have hB_w1 : Below w.heap.size w w1 := (by repeat (first | exact Below.refl _ _ | assumption | refine Below.setCell ?_ (by first | (simp; done) | (simp; omega) | omega) _ | refine Below.drew ?_ | refine below_drewN ?_ _ | refine Below.alloc ?_ (by first | (simp; done) | (simp; omega) | omega) _ | refine below_alloc ?_ _ | refine below_step ?_ (by assumption))); have hz_w1 := hB_w1.size; have hsw10 : w.heap.size < w1.heap.size := Nat.lt_of_lt_of_le (by first | (simp; done) | (simp; omega) | omega) hb.size; have hnw10 : ¬ w.heap.size = w1.heap.size := (by omega); have hmw10 : ¬ w1.heap.size = w.heap.size := (by omega); have hlw10_0 : w.heap.size ≤ w1.heap.size := (by omega); have hlw10_1 : w.heap.size ≤ w1.heap.size + 1 := (by omega); have hlw10_2 : w.heap.size ≤ w1.heap.size + 1 + 1 := (by omega); have hkw10 : w1.cell? ⟨w.heap.size, 0, none⟩ = some (.int .i64 fi) := (by rw [hb.cell (p := ⟨w.heap.size, 0, none⟩) (by first | (simp; done) | (simp; omega) | omega)]; first | (go_simp; done) | assumption); have hkw11 : w1.cell? ⟨w.heap.size, 1, none⟩ = some (.int .i64 ga) := (by rw [hb.cell (p := ⟨w.heap.size, 1, none⟩) (by first | (simp; done) | (simp; omega) | omega)]; first | (go_simp; done) | assumption); have hkw12 : w1.cell? ⟨w.heap.size, 2, none⟩ = some (.int .i64 to) := (by rw [hb.cell (p := ⟨w.heap.size, 2, none⟩) (by first | (simp; done) | (simp; omega) | omega)]; first | (go_simp; done) | assumption); have hkw13 : w1.cell? ⟨w.heap.size, 3, none⟩ = some (.int .i64 le) := (by rw [hb.cell (p := ⟨w.heap.size, 3, none⟩) (by first | (simp; done) | (simp; omega) | omega)]; first | (go_simp; done) | assumption); have hkw14 : w1.cell? ⟨w.heap.size, 4, none⟩ = some (.int .i64 la) := (by rw [hb.cell (p := ⟨w.heap.size, 4, none⟩) (by first | (simp; done) | (simp; omega) | omega)]; first | (go_simp; done) | assumption); have hkw15 : w1.cell? ⟨w.heap.size, 5, none⟩ = some (.int .i64 st) := (by rw [hb.cell (p := ⟨w.heap.size, 5, none⟩) (by first | (simp; done) | (simp; omega) | omega)]; first | (go_simp; done) | assumption); clear hb
      go_wp2_with fail
      refine (C2.out _ (by repeat (first | exact Below.refl _ _ | assumption | refine Below.setCell ?_ (by first | (simp; done) | (simp; omega) | omega) _ | refine Below.drew ?_ | refine below_drewN ?_ _ | refine Below.alloc ?_ (by first | (simp; done) | (simp; omega) | omega) _ | refine below_alloc ?_ _ | refine below_step ?_ (by assumption)))).mono ?_
      rintro e w2 ⟨⟨v2, rfl, ho2⟩, hb⟩
      obtain ⟨A2, k2, rfl, hm3, hm4, hI2, -⟩ := own_ints ho2
      have HI3 := Lib.hid ((HI1.out.below hb).more hb.size)
      have HI2 := Lib.hid hI2
      clear ho2 hI2 HI1
      have hB_w2 : Below w.heap.size w w2 := (by repeat (first | exact Below.refl _ _ | assumption | refine Below.setCell ?_ (by first | (simp; done) | (simp; omega) | omega) _ | refine Below.drew ?_ | refine below_drewN ?_ _ | refine Below.alloc ?_ (by first | (simp; done) | (simp; omega) | omega) _ | refine below_alloc ?_ _ | refine below_step ?_ (by assumption))); have hz_w2 := hB_w2.size; have hsw20 : w.heap.size < w2.heap.size := Nat.lt_of_lt_of_le (by first | (simp; done) | (simp; omega) | omega) hb.size; have hnw20 : ¬ w.heap.size = w2.heap.size := (by omega); have hmw20 : ¬ w2.heap.size = w.heap.size := (by omega); have hlw20_0 : w.heap.size ≤ w2.heap.size := (by omega); have hlw20_1 : w.heap.size ≤ w2.heap.size + 1 := (by omega); have hlw20_2 : w.heap.size ≤ w2.heap.size + 1 + 1 := (by omega); have hkw20 : w2.cell? ⟨w.heap.size, 0, none⟩ = some (.int .i64 fi) := (by rw [hb.cell (p := ⟨w.heap.size, 0, none⟩) (by first | (simp; done) | (simp; omega) | omega)]; first | (go_simp; done) | assumption); have hkw21 : w2.cell? ⟨w.heap.size, 1, none⟩ = some (.int .i64 ga) := (by rw [hb.cell (p := ⟨w.heap.size, 1, none⟩) (by first | (simp; done) | (simp; omega) | omega)]; first | (go_simp; done) | assumption); have hkw22 : w2.cell? ⟨w.heap.size, 2, none⟩ = some (.int .i64 to) := (by rw [hb.cell (p := ⟨w.heap.size, 2, none⟩) (by first | (simp; done) | (simp; omega) | omega)]; first | (go_simp; done) | assumption); have hkw23 : w2.cell? ⟨w.heap.size, 3, none⟩ = some (.int .i64 le) := (by rw [hb.cell (p := ⟨w.heap.size, 3, none⟩) (by first | (simp; done) | (simp; omega) | omega)]; first | (go_simp; done) | assumption); have hkw24 : w2.cell? ⟨w.heap.size, 4, none⟩ = some (.int .i64 la) := (by rw [hb.cell (p := ⟨w.heap.size, 4, none⟩) (by first | (simp; done) | (simp; omega) | omega)]; first | (go_simp; done) | assumption); have hkw25 : w2.cell? ⟨w.heap.size, 5, none⟩ = some (.int .i64 st) := (by rw [hb.cell (p := ⟨w.heap.size, 5, none⟩) (by first | (simp; done) | (simp; omega) | omega)]; first | (go_simp; done) | assumption); clear hb hB_w1 hlw10_0 hlw10_1 hlw10_2 hkw10 hkw11 hkw12 hkw13 hkw14 hkw15
      have c9 := fun W (h : Below w2.heap.size w2 W) => SameInts_any A1 R.length k1 R A2 R.length k2 R W (by unfold maxLen at hm2; omega) (by unfold maxLen at hm4; omega) ((HI3.out.below h).more h.size) ((HI2.out.below h).more h.size)
      rw [show decide (R = R) = true by simp] at c9
      have C9 := Lib.hid c9
      have hEE : (E == E) = true := by simp
      have hVJ : (VJ == VJ) = true := by simp
      have hVC : (VC == VC) = true := by simp
      have hRI : (RI == RI) = true := by simp
      clear c9
      go_wp2
      (refine wp_region_later (by kernel_rfl) (by kernel_rfl) ?_; (repeat (go_big_quiet_step ((first | (go_at_call 17; exact later_call (C9.out _ (‹Later w2›).h)) | (go_at_call 18; exact later_call (C3.out _ (hB_w2.trans ((‹Later w2›).h.mono hz_w2)))) | (go_at_call 19; exact later_call (C4.out _ (hB_w2.trans ((‹Later w2›).h.mono hz_w2)))) | (go_at_call 20; exact later_call (C5.out _)) | (go_at_call 21; exact later_call (C6.out _)) | (go_at_call 12; exact later_call (C7.out _ (hB_w2.trans ((‹Later w2›).h.mono hz_w2)))) | (go_at_call 22; exact later_call (C8.out _ (hB_w2.trans ((‹Later w2›).h.mono hz_w2)))) | (go_at_call 13; exact later_call (awake_any _)))))); refine wpQuiet_nil ?_)
      intro w3 hb
      go_wp2
      go_ret
      exact ⟨rfl, (by repeat (first | exact Below.refl _ _ | assumption | refine Below.setCell ?_ (by first | (simp; done) | (simp; omega) | omega) _ | refine Below.drew ?_ | refine below_drewN ?_ _ | refine Below.alloc ?_ (by first | (simp; done) | (simp; omega) | omega) _ | refine below_alloc ?_ _ | refine below_step ?_ (by assumption)))⟩
end Go.Proofs.Ytecocbohaggokaa
