/- LadderLeast: the walk of the statement. -/
import Derived.Test.YtecocbohaggokaaFewest
import Derived.Test.YtecocbohaggokaaLeastM
set_option linter.unusedSimpArgs false
set_option linter.unusedVariables false
namespace Go.Proofs.Ytecocbohaggokaa
open Go.RowKit
attribute [local go_sem] Later.cell

theorem small_any (A : Option Addr) (len cap : Nat) (A' : Option Addr) (n cap' : Nat) (w : World) :
    Calls Try.prog 11 #[.slice A len cap, .slice A' n cap'] w fun e w' => e = .returned (.bool (decide (len ≤ 80) && decide (n ≤ 80))) ∧ w = w' := by
  by_cases h1 : len ≤ 80
  · have h1' : decide (len ≤ 80) = true := decide_eq_true h1
    go_enter Try.func11, Try.ntmps11
    go_wp2
    go_ret
    exact ⟨ret_bool (by rw [h1', Bool.true_and]; exact decide_eq_decide.2 (by omega)), rfl⟩
  · have h1' : decide (len ≤ 80) = false := decide_eq_false h1
    have h1'' : decide ((len : Int) ≤ 80) = false := decide_eq_false (by omega)
    go_enter Try.func11, Try.ntmps11
    go_wp2
    go_ret
    exact ⟨ret_bool (by rw [h1']; rfl), rfl⟩
theorem least_facts {c : Clb} {l : List J} {ds : List Int} (h : rightB c l ds = true) : fewE c l = 0 ∧ rightB c l (fewL c l) = true ∧ (fewL c l).length ≤ ds.length ∧ ((fewL c l).length = ds.length → ∀ i, i < ds.length → (∀ j, j < i → num (fewL c l) j = num ds j) → num (fewL c l) i ≤ num ds i) := by
  obtain ⟨ns, rfl⟩ := right_nat h
  obtain ⟨h1, h2⟩ := right_path.1 h
  obtain ⟨xs, h3, h4, h5⟩ := few_best ⟨ns, h2⟩
  have hok : okCJ c l = true := h1
  have hE : fewE c l = 0 := by unfold fewE; rw [if_pos hok, h3]; rfl
  have hL : fewL c l = xs.map fun k : Nat => (k : Int) := by unfold fewL; rw [if_pos hok, h3]; rfl
  rw [hL]
  refine ⟨hE, right_path.2 ⟨h1, h4⟩, by simpa using (h5 ns h2).1, fun hl i hi hj => ?_⟩
  have hl' : xs.length = ns.length := by simpa using hl
  have hi' : i < ns.length := by simpa using hi
  have hlx := lex_at xs ns ((h5 ns h2).2 hl') hl' i (by omega) (fun j hjj => by
    have := hj j hjj
    rw [num_cast (by omega), num_cast (by omega)] at this
    omega)
  rw [num_cast (by omega), num_cast (by omega)]
  omega

set_option maxRecDepth 20000 in
set_option maxHeartbeats 4000000 in
theorem least_walk (fi ga to le la st : Int) (A : Option Addr) (len cap : Nat) (l : List J) (A' : Option Addr) (n cap' : Nat) (ds : List Int) (w : World)
    (_ : -9223372036854775808 ≤ fi ∧ fi ≤ 9223372036854775807) (_ : -9223372036854775808 ≤ ga ∧ ga ≤ 9223372036854775807) (_ : -9223372036854775808 ≤ to ∧ to ≤ 9223372036854775807) (_ : -9223372036854775808 ≤ le ∧ le ≤ 9223372036854775807) (_ : -9223372036854775808 ≤ la ∧ la ≤ 9223372036854775807) (_ : -9223372036854775808 ≤ st ∧ st ≤ 9223372036854775807)
    (hm : len ≤ cap ∧ cap ≤ 9223372036854775807) (hx : Rows 2 jointV dJ w w.heap.size A len l) (_ : ∀ x ∈ l, -9223372036854775808 ≤ x.1 ∧ x.1 ≤ 9223372036854775807)
    (hm' : n ≤ cap' ∧ cap' ≤ 9223372036854775807) (hy : Ints w w.heap.size A' n ds) (_ : ∀ x ∈ ds, -9223372036854775808 ≤ x ∧ x ≤ 9223372036854775807) :
    Calls Try.prog 3 #[.agg #[.int .i64 fi, .int .i64 ga, .int .i64 to, .int .i64 le, .int .i64 la, .int .i64 st], .slice A len cap, .slice A' n cap'] w fun e w' => e = .returned (.bool true) ∧ Below w.heap.size w w' := by
  have c0 := fun W => small_any A len cap A' n cap' W
  by_cases hs : (decide (len ≤ 80) && decide (n ≤ 80)) = true
  · rw [hs] at c0
    rw [Bool.and_eq_true, decide_eq_true_eq, decide_eq_true_eq] at hs
    have c1 := fun W (h : Below w.heap.size w W) => Right_any ⟨fi, ga, to, le, la, st⟩ A len cap l A' n cap' ds W (by omega) (by omega) ((hx.below h).more h.size) ((hy.below h).more h.size)
    have C0 := Lib.hid c0
    clear c0
    cases hr : rightB ⟨fi, ga, to, le, la, st⟩ l ds
    · rw [hr] at c1
      have C1 := Lib.hid c1
      clear c1 hx hy hr
      go_enter Try.func3, Try.ntmps3
      go_wp2_with (go_at_call 11; refine (C0.out _).mono ?_; rintro e w' ⟨rfl, rfl⟩)
      refine (C1.out _ (by repeat (first | exact Below.refl _ _ | assumption | refine Below.setCell ?_ (by first | (simp; done) | (simp; omega) | omega) _ | refine Below.drew ?_ | refine below_drewN ?_ _ | refine Below.alloc ?_ (by first | (simp; done) | (simp; omega) | omega) _ | refine below_alloc ?_ _ | refine below_step ?_ (by assumption)))).mono ?_
      rintro e w1 ⟨rfl, hb⟩
      have hB_w1 : Below w.heap.size w w1 := (by repeat (first | exact Below.refl _ _ | assumption | refine Below.setCell ?_ (by first | (simp; done) | (simp; omega) | omega) _ | refine Below.drew ?_ | refine below_drewN ?_ _ | refine Below.alloc ?_ (by first | (simp; done) | (simp; omega) | omega) _ | refine below_alloc ?_ _ | refine below_step ?_ (by assumption))); have hz_w1 := hB_w1.size; clear hb
      go_wp2_with (go_at_call 13; refine (awake_any _).mono ?_; rintro e w2 ⟨rfl, hb1⟩)
      go_ret
      exact ⟨rfl, (by repeat (first | exact Below.refl _ _ | assumption | refine Below.setCell ?_ (by first | (simp; done) | (simp; omega) | omega) _ | refine Below.drew ?_ | refine below_drewN ?_ _ | refine Below.alloc ?_ (by first | (simp; done) | (simp; omega) | omega) _ | refine below_alloc ?_ _ | refine below_step ?_ (by assumption)))⟩
    · rw [hr] at c1
      obtain ⟨p1, p2, p3, p4⟩ := least_facts hr
      have c2 := fun W (h : Below w.heap.size w W) => Fewest_any ⟨fi, ga, to, le, la, st⟩ A len cap l W (by omega) ((hx.below h).more h.size)
      have c3 := fun A1 k1 W (h1 : Below w.heap.size w W) h2 => Right_any ⟨fi, ga, to, le, la, st⟩ A len cap l A1 (fewL ⟨fi, ga, to, le, la, st⟩ l).length k1 (fewL ⟨fi, ga, to, le, la, st⟩ l) W (by omega) (by rw [hy.1] at p3; omega) ((hx.below h1).more h1.size) h2
      rw [p1] at c2
      rw [p2] at c3
      generalize fewL ⟨fi, ga, to, le, la, st⟩ l = xs at *
      rw [hy.1] at p3 p4
      have C1 := Lib.hid c1
      have C2 := Lib.hid c2
      have C3 := Lib.hid c3
      have HP := Lib.hid p4
      have HY := Lib.hid hy
      clear c1 c2 c3 hx hy hr p1 p2 p4
      go_enter Try.func3, Try.ntmps3
      go_wp2_with (go_at_call 11; refine (C0.out _).mono ?_; rintro e w' ⟨rfl, rfl⟩)
      refine (C1.out _ (by repeat (first | exact Below.refl _ _ | assumption | refine Below.setCell ?_ (by first | (simp; done) | (simp; omega) | omega) _ | refine Below.drew ?_ | refine below_drewN ?_ _ | refine Below.alloc ?_ (by first | (simp; done) | (simp; omega) | omega) _ | refine below_alloc ?_ _ | refine below_step ?_ (by assumption)))).mono ?_
      rintro e w1 ⟨rfl, hb⟩
      have hB_w1 : Below w.heap.size w w1 := (by repeat (first | exact Below.refl _ _ | assumption | refine Below.setCell ?_ (by first | (simp; done) | (simp; omega) | omega) _ | refine Below.drew ?_ | refine below_drewN ?_ _ | refine Below.alloc ?_ (by first | (simp; done) | (simp; omega) | omega) _ | refine below_alloc ?_ _ | refine below_step ?_ (by assumption))); have hz_w1 := hB_w1.size; have hsw10 : w.heap.size < w1.heap.size := Nat.lt_of_lt_of_le (by first | (simp; done) | (simp; omega) | omega) hb.size; have hnw10 : ¬ w.heap.size = w1.heap.size := (by omega); have hmw10 : ¬ w1.heap.size = w.heap.size := (by omega); have hlw10_0 : w.heap.size ≤ w1.heap.size := (by omega); have hlw10_1 : w.heap.size ≤ w1.heap.size + 1 := (by omega); have hlw10_2 : w.heap.size ≤ w1.heap.size + 1 + 1 := (by omega); have hkw10 : w1.cell? ⟨w.heap.size, 0, none⟩ = some (.int .i64 fi) := (by rw [hb.cell (p := ⟨w.heap.size, 0, none⟩) (by first | (simp; done) | (simp; omega) | omega)]; first | (go_simp; done) | assumption); have hkw11 : w1.cell? ⟨w.heap.size, 1, none⟩ = some (.int .i64 ga) := (by rw [hb.cell (p := ⟨w.heap.size, 1, none⟩) (by first | (simp; done) | (simp; omega) | omega)]; first | (go_simp; done) | assumption); have hkw12 : w1.cell? ⟨w.heap.size, 2, none⟩ = some (.int .i64 to) := (by rw [hb.cell (p := ⟨w.heap.size, 2, none⟩) (by first | (simp; done) | (simp; omega) | omega)]; first | (go_simp; done) | assumption); have hkw13 : w1.cell? ⟨w.heap.size, 3, none⟩ = some (.int .i64 le) := (by rw [hb.cell (p := ⟨w.heap.size, 3, none⟩) (by first | (simp; done) | (simp; omega) | omega)]; first | (go_simp; done) | assumption); have hkw14 : w1.cell? ⟨w.heap.size, 4, none⟩ = some (.int .i64 la) := (by rw [hb.cell (p := ⟨w.heap.size, 4, none⟩) (by first | (simp; done) | (simp; omega) | omega)]; first | (go_simp; done) | assumption); have hkw15 : w1.cell? ⟨w.heap.size, 5, none⟩ = some (.int .i64 st) := (by rw [hb.cell (p := ⟨w.heap.size, 5, none⟩) (by first | (simp; done) | (simp; omega) | omega)]; first | (go_simp; done) | assumption); clear hb
      go_wp2_with fail
      refine (C2.out _ (by repeat (first | exact Below.refl _ _ | assumption | refine Below.setCell ?_ (by first | (simp; done) | (simp; omega) | omega) _ | refine Below.drew ?_ | refine below_drewN ?_ _ | refine Below.alloc ?_ (by first | (simp; done) | (simp; omega) | omega) _ | refine below_alloc ?_ _ | refine below_step ?_ (by assumption)))).mono ?_
      rintro e w2 ⟨⟨v2, rfl, ho⟩, hb⟩
      obtain ⟨A1, k1, rfl, hm1, hm2, hI, -⟩ := own_ints ho
      have HI := Lib.hid hI
      clear ho hI
      have hB_w2 : Below w.heap.size w w2 := (by repeat (first | exact Below.refl _ _ | assumption | refine Below.setCell ?_ (by first | (simp; done) | (simp; omega) | omega) _ | refine Below.drew ?_ | refine below_drewN ?_ _ | refine Below.alloc ?_ (by first | (simp; done) | (simp; omega) | omega) _ | refine below_alloc ?_ _ | refine below_step ?_ (by assumption))); have hz_w2 := hB_w2.size; have hsw20 : w.heap.size < w2.heap.size := Nat.lt_of_lt_of_le (by first | (simp; done) | (simp; omega) | omega) hb.size; have hnw20 : ¬ w.heap.size = w2.heap.size := (by omega); have hmw20 : ¬ w2.heap.size = w.heap.size := (by omega); have hlw20_0 : w.heap.size ≤ w2.heap.size := (by omega); have hlw20_1 : w.heap.size ≤ w2.heap.size + 1 := (by omega); have hlw20_2 : w.heap.size ≤ w2.heap.size + 1 + 1 := (by omega); have hkw20 : w2.cell? ⟨w.heap.size, 0, none⟩ = some (.int .i64 fi) := (by rw [hb.cell (p := ⟨w.heap.size, 0, none⟩) (by first | (simp; done) | (simp; omega) | omega)]; first | (go_simp; done) | assumption); have hkw21 : w2.cell? ⟨w.heap.size, 1, none⟩ = some (.int .i64 ga) := (by rw [hb.cell (p := ⟨w.heap.size, 1, none⟩) (by first | (simp; done) | (simp; omega) | omega)]; first | (go_simp; done) | assumption); have hkw22 : w2.cell? ⟨w.heap.size, 2, none⟩ = some (.int .i64 to) := (by rw [hb.cell (p := ⟨w.heap.size, 2, none⟩) (by first | (simp; done) | (simp; omega) | omega)]; first | (go_simp; done) | assumption); have hkw23 : w2.cell? ⟨w.heap.size, 3, none⟩ = some (.int .i64 le) := (by rw [hb.cell (p := ⟨w.heap.size, 3, none⟩) (by first | (simp; done) | (simp; omega) | omega)]; first | (go_simp; done) | assumption); have hkw24 : w2.cell? ⟨w.heap.size, 4, none⟩ = some (.int .i64 la) := (by rw [hb.cell (p := ⟨w.heap.size, 4, none⟩) (by first | (simp; done) | (simp; omega) | omega)]; first | (go_simp; done) | assumption); have hkw25 : w2.cell? ⟨w.heap.size, 5, none⟩ = some (.int .i64 st) := (by rw [hb.cell (p := ⟨w.heap.size, 5, none⟩) (by first | (simp; done) | (simp; omega) | omega)]; first | (go_simp; done) | assumption); clear hb hB_w1 hlw10_0 hlw10_1 hlw10_2 hkw10 hkw11 hkw12 hkw13 hkw14 hkw15
      go_wp2_with fail
      refine (C3.out _ _ _ (by repeat (first | exact Below.refl _ _ | assumption | refine Below.setCell ?_ (by first | (simp; done) | (simp; omega) | omega) _ | refine Below.drew ?_ | refine below_drewN ?_ _ | refine Below.alloc ?_ (by first | (simp; done) | (simp; omega) | omega) _ | refine below_alloc ?_ _ | refine below_step ?_ (by assumption))) HI.out).mono ?_
      rintro e w3 ⟨rfl, hb⟩
      have HI3 := Lib.hid ((HI.out.below hb).more hb.size)
      have hB_w3 : Below w.heap.size w w3 := (by repeat (first | exact Below.refl _ _ | assumption | refine Below.setCell ?_ (by first | (simp; done) | (simp; omega) | omega) _ | refine Below.drew ?_ | refine below_drewN ?_ _ | refine Below.alloc ?_ (by first | (simp; done) | (simp; omega) | omega) _ | refine below_alloc ?_ _ | refine below_step ?_ (by assumption))); have hz_w3 := hB_w3.size; have hsw30 : w.heap.size < w3.heap.size := Nat.lt_of_lt_of_le (by first | (simp; done) | (simp; omega) | omega) hb.size; have hnw30 : ¬ w.heap.size = w3.heap.size := (by omega); have hmw30 : ¬ w3.heap.size = w.heap.size := (by omega); have hlw30_0 : w.heap.size ≤ w3.heap.size := (by omega); have hlw30_1 : w.heap.size ≤ w3.heap.size + 1 := (by omega); have hlw30_2 : w.heap.size ≤ w3.heap.size + 1 + 1 := (by omega); have hkw30 : w3.cell? ⟨w.heap.size, 0, none⟩ = some (.int .i64 fi) := (by rw [hb.cell (p := ⟨w.heap.size, 0, none⟩) (by first | (simp; done) | (simp; omega) | omega)]; first | (go_simp; done) | assumption); have hkw31 : w3.cell? ⟨w.heap.size, 1, none⟩ = some (.int .i64 ga) := (by rw [hb.cell (p := ⟨w.heap.size, 1, none⟩) (by first | (simp; done) | (simp; omega) | omega)]; first | (go_simp; done) | assumption); have hkw32 : w3.cell? ⟨w.heap.size, 2, none⟩ = some (.int .i64 to) := (by rw [hb.cell (p := ⟨w.heap.size, 2, none⟩) (by first | (simp; done) | (simp; omega) | omega)]; first | (go_simp; done) | assumption); have hkw33 : w3.cell? ⟨w.heap.size, 3, none⟩ = some (.int .i64 le) := (by rw [hb.cell (p := ⟨w.heap.size, 3, none⟩) (by first | (simp; done) | (simp; omega) | omega)]; first | (go_simp; done) | assumption); have hkw34 : w3.cell? ⟨w.heap.size, 4, none⟩ = some (.int .i64 la) := (by rw [hb.cell (p := ⟨w.heap.size, 4, none⟩) (by first | (simp; done) | (simp; omega) | omega)]; first | (go_simp; done) | assumption); have hkw35 : w3.cell? ⟨w.heap.size, 5, none⟩ = some (.int .i64 st) := (by rw [hb.cell (p := ⟨w.heap.size, 5, none⟩) (by first | (simp; done) | (simp; omega) | omega)]; first | (go_simp; done) | assumption); clear hb hB_w2 hlw20_0 hlw20_1 hlw20_2 hkw20 hkw21 hkw22 hkw23 hkw24 hkw25
      have HY3 := Lib.hid (HY.out.below hB_w3)
      clear HI HY
      generalize hxl : xs.length = m at *
      have HXL := Lib.hid hxl
      clear hxl
      by_cases hlt : m < n
      · go_wp2_with (go_at_call 13; refine (awake_any _).mono ?_; rintro e w4 ⟨rfl, hb1⟩)
        go_ret
        exact ⟨rfl, (by repeat (first | exact Below.refl _ _ | assumption | refine Below.setCell ?_ (by first | (simp; done) | (simp; omega) | omega) _ | refine Below.drew ?_ | refine below_drewN ?_ _ | refine Below.alloc ?_ (by first | (simp; done) | (simp; omega) | omega) _ | refine below_alloc ?_ _ | refine below_step ?_ (by assumption)))⟩
      · have hmn : m = n := by omega
        subst hmn
        go_wp2
        go_loopw [9] (fun i wr => ∃ k : Nat, k ≤ m ∧ i = .int .i64 k ∧ Hid (∀ j, j < k → num xs j = num ds j) ∧ Below w3.heap.size w3 wr) (fun i _ => m - (intOf i).toNat)
        case atStart => exact ⟨0, Nat.zero_le _, rfl, Lib.hid (fun j hj => by omega), Below.refl _ _⟩
        case round =>
          obtain ⟨k, hk, rfl, hj, hb⟩ := hrel
          have hb' := hb
          have hs3 := hb.size
          have hBr : Below w.heap.size w wr := hB_w3.trans (hb.mono hz_w3)
          by_cases hkm : k < m
          · obtain ⟨b, off, rfl, hb0, hc0⟩ := (HI3.out.below hb).at_ k hkm
            obtain ⟨b', off', rfl, hb1, hc1⟩ := (HY3.out.below (hb.mono hz_w3)).at_ k hkm
            have hle := (HP.out (by first | trivial | exact HXL.out) k hkm hj.out)
            have hnx : num xs k = num ds k → Hid (∀ j, j < k + 1 → num xs j = num ds j) := fun h => Lib.hid (fun j hjj => by
              by_cases e : j = k
              · subst e; exact h
              · exact hj.out j (by omega))
            have HNX := Lib.hid hnx
            change wr.cell? ⟨b, off + k, none⟩ = some (.int .i64 (num xs k)) at hc0
            change wr.cell? ⟨b', off' + k, none⟩ = some (.int .i64 (num ds k)) at hc1
            clear hnx hj
            generalize num xs k = X at *
            generalize num ds k = D at *
            have hb2 : b < wr.heap.size := by omega
            have hb3 : b' < wr.heap.size := by omega
            have hk1 : (k : Int) < m := by omega
            have hk2 : ¬ m ≤ k := by omega
            by_cases hxd : X = D
            · have h4 := HNX.out hxd
              have hxe : (X == D) = true := by simpa using hxd
              subst hxd
              go_wp2
              (refine wp_region_later (by kernel_rfl) (by kernel_rfl) ?_; (repeat (go_big_quiet_step ((fail)))); refine wpQuiet_nil ?_)
              intro w4 hb
              have hb5 := hb'.trans (hb.mono hs3)
              go_wp2
              go_roundw
              case rel => exact ⟨k + 1, by omega, by go_num, h4, hb5⟩
              case measure => first | (simp [intOf]; done) | (simp [intOf]; omega)
            · have hxe : (X == D) = false := by simpa using hxd
              have hxl : decide (X < D) = true := decide_eq_true (by omega)
              have hxl2 : X < D := by omega
              clear hxd
              go_wp2
              (refine wp_region_later (by kernel_rfl) (by kernel_rfl) ?_; (repeat (go_big_quiet_step ((fail)))); refine wpQuiet_nil ?_)
              intro w4 hb
              have hc04 : w4.cell? ⟨b, off + k, none⟩ = some (.int .i64 X) := (hb.cell (p := ⟨b, off + k, none⟩) hb2).trans hc0
              have hc14 : w4.cell? ⟨b', off' + k, none⟩ = some (.int .i64 D) := (hb.cell (p := ⟨b', off' + k, none⟩) hb3).trans hc1
              have hB4 : Below w.heap.size w w4 := hBr.trans (hb.mono (by omega))
              have hs4 := hb.size
              have hb24 : b < w4.heap.size := by omega
              have hb34 : b' < w4.heap.size := by omega
              clear hb
              go_wp2
              (refine wp_region_later (by kernel_rfl) (by kernel_rfl) ?_; (repeat (go_big_quiet_step ((go_at_call 13; exact later_call (awake_any _))))); refine wpQuiet_nil ?_)
              intro w5 hb
              go_wp2
              go_ret
              exact ⟨rfl, hB4.trans (hb.mono hB4.size)⟩
          · go_wp2_with (go_at_call 13; refine (awake_any _).mono ?_; rintro e w4 ⟨rfl, hb1⟩)
            go_ret
            exact ⟨rfl, hBr.trans (hb1.mono hBr.size)⟩
  · have hs' : (decide (len ≤ 80) && decide (n ≤ 80)) = false := by simpa using hs
    rw [hs'] at c0
    have C0 := Lib.hid c0
    clear c0 hx hy hs hs'
    go_enter Try.func3, Try.ntmps3
    go_wp2_with (first | (go_at_call 11; refine (C0.out _).mono ?_; rintro e w' ⟨rfl, rfl⟩) | (go_at_call 13; refine (awake_any _).mono ?_; rintro e w1 ⟨rfl, hb1⟩))
    go_ret
    exact ⟨rfl, (by repeat (first | exact Below.refl _ _ | assumption | refine Below.setCell ?_ (by first | (simp; done) | (simp; omega) | omega) _ | refine Below.drew ?_ | refine below_drewN ?_ _ | refine Below.alloc ?_ (by first | (simp; done) | (simp; omega) | omega) _ | refine below_alloc ?_ _ | refine below_step ?_ (by assumption)))⟩
end Go.Proofs.Ytecocbohaggokaa
