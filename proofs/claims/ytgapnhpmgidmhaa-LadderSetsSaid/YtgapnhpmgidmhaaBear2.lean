/- Ladders on dogs: Set of the program. -/
import Derived.Test.YtgapnhpmgidmhaaBear
set_option linter.unusedSimpArgs false
set_option linter.unusedVariables false
namespace Go.Proofs.Ytgapnhpmgidmhaa
open Go.RowKit
attribute [local go_sem] Later.cell

set_option maxRecDepth 20000 in
set_option maxHeartbeats 4000000 in
theorem Set_any (c : Clb) (A : Option Addr) (len cap : Nat) (l : List J) (A' : Option Addr) (n cap' : Nat) (ds : List Int) (A2 : Option Addr) (m cap2 : Nat) (ls : List Int) (w : World) (hm : len ≤ 9223372036854775807) (hm' : n ≤ 100000000) (hm2 : m ≤ 100000000) (hx : Rows 2 jointV dJ w w.heap.size A len l) (hy : Ints w w.heap.size A' n ds) (hz : Ints w w.heap.size A2 m ls) :
    Calls Try.prog 6 #[climbV c, .slice A len cap, .slice A' n cap', .slice A2 m cap2] w fun e w' => e = .returned (.bool (setB c l ds ls)) ∧ Below w.heap.size w w' := by
  have hR : setB c l ds ls = (rightB c l ds && (!ls.isEmpty && (ascB ds.length ls && set1 c l ds ls))) := rfl
  have c1 := fun W (h : Below w.heap.size w W) => Right_any c A len cap l A' n cap' ds W hm (by omega) ((hx.below h).more h.size) ((hy.below h).more h.size)
  have c2 := fun W (h : Below w.heap.size w W) => asc_any A2 m cap2 ls n W (by omega) (by omega) ((hz.below h).more h.size)
  rw [hy.1] at hR
  cases hr : rightB c l ds
  · rw [hr] at hR c1
    rw [Bool.false_and] at hR
    rw [hR]
    have C1 := Lib.hid c1
    clear c1 c2 hx hy hz hr hR
    go_enter Try.func6, Try.ntmps6
    go_wp2_with fail
    refine (C1.out _ (by repeat (first | exact Below.refl _ _ | assumption | refine Below.setCell ?_ (by first | (simp; done) | (simp; omega) | omega) _ | refine Below.drew ?_ | refine below_drewN ?_ _ | refine Below.alloc ?_ (by first | (simp; done) | (simp; omega) | omega) _ | refine below_alloc ?_ _ | refine below_step ?_ (by assumption)))).mono ?_
    rintro e w1 ⟨rfl, hb⟩
    have hB_w1 : Below w.heap.size w w1 := (by repeat (first | exact Below.refl _ _ | assumption | refine Below.setCell ?_ (by first | (simp; done) | (simp; omega) | omega) _ | refine Below.drew ?_ | refine below_drewN ?_ _ | refine Below.alloc ?_ (by first | (simp; done) | (simp; omega) | omega) _ | refine below_alloc ?_ _ | refine below_step ?_ (by assumption))); have hz_w1 := hB_w1.size; clear hb
    go_wp2
    go_ret
    exact ⟨rfl, (by repeat (first | exact Below.refl _ _ | assumption | refine Below.setCell ?_ (by first | (simp; done) | (simp; omega) | omega) _ | refine Below.drew ?_ | refine below_drewN ?_ _ | refine Below.alloc ?_ (by first | (simp; done) | (simp; omega) | omega) _ | refine below_alloc ?_ _ | refine below_step ?_ (by assumption)))⟩
  · have hwk := wall_ok hr
    have hvv := Bool.and_eq_true .. ▸ right_valid hr
    obtain ⟨hvc, hvj⟩ := hvv
    rw [hr] at hR c1
    rw [Bool.true_and] at hR
    by_cases hm0 : m = 0
    · have hnil : ls = [] := List.eq_nil_of_length_eq_zero (by rw [hz.1]; exact hm0)
      rw [hnil] at hR ⊢
      rw [hR]
      subst hm0
      have C1 := Lib.hid c1
      clear c1 c2 hx hy hz hr hR hwk hvc hvj
      go_enter Try.func6, Try.ntmps6
      go_wp2_with fail
      refine (C1.out _ (by repeat (first | exact Below.refl _ _ | assumption | refine Below.setCell ?_ (by first | (simp; done) | (simp; omega) | omega) _ | refine Below.drew ?_ | refine below_drewN ?_ _ | refine Below.alloc ?_ (by first | (simp; done) | (simp; omega) | omega) _ | refine below_alloc ?_ _ | refine below_step ?_ (by assumption)))).mono ?_
      rintro e w1 ⟨rfl, hb⟩
      have hB_w1 : Below w.heap.size w w1 := (by repeat (first | exact Below.refl _ _ | assumption | refine Below.setCell ?_ (by first | (simp; done) | (simp; omega) | omega) _ | refine Below.drew ?_ | refine below_drewN ?_ _ | refine Below.alloc ?_ (by first | (simp; done) | (simp; omega) | omega) _ | refine below_alloc ?_ _ | refine below_step ?_ (by assumption))); have hz_w1 := hB_w1.size; clear hb
      go_wp2
      go_ret
      exact ⟨rfl, (by repeat (first | exact Below.refl _ _ | assumption | refine Below.setCell ?_ (by first | (simp; done) | (simp; omega) | omega) _ | refine Below.drew ?_ | refine below_drewN ?_ _ | refine Below.alloc ?_ (by first | (simp; done) | (simp; omega) | omega) _ | refine below_alloc ?_ _ | refine below_step ?_ (by assumption)))⟩
    · have hne : ls.isEmpty = false := by
        cases ls with
        | nil => exact absurd hz.1.symm hm0
        | cons _ _ => rfl
      have hm00 : ((m : Int) == 0) = false := by simpa using hm0
      rw [hne, Bool.not_false, Bool.true_and] at hR
      cases ha : ascB n ls
      · rw [ha] at hR c2
        rw [Bool.false_and] at hR
        rw [hR]
        have C1 := Lib.hid c1
        have C2 := Lib.hid c2
        clear c1 c2 hx hy hz hr hR hne ha hm0 hwk hvc hvj
        go_enter Try.func6, Try.ntmps6
        go_wp2_with fail
        refine (C1.out _ (by repeat (first | exact Below.refl _ _ | assumption | refine Below.setCell ?_ (by first | (simp; done) | (simp; omega) | omega) _ | refine Below.drew ?_ | refine below_drewN ?_ _ | refine Below.alloc ?_ (by first | (simp; done) | (simp; omega) | omega) _ | refine below_alloc ?_ _ | refine below_step ?_ (by assumption)))).mono ?_
        rintro e w1 ⟨rfl, hb⟩
        have hB_w1 : Below w.heap.size w w1 := (by repeat (first | exact Below.refl _ _ | assumption | refine Below.setCell ?_ (by first | (simp; done) | (simp; omega) | omega) _ | refine Below.drew ?_ | refine below_drewN ?_ _ | refine Below.alloc ?_ (by first | (simp; done) | (simp; omega) | omega) _ | refine below_alloc ?_ _ | refine below_step ?_ (by assumption))); have hz_w1 := hB_w1.size; clear hb
        go_wp2_with fail
        refine (C2.out _ (by repeat (first | exact Below.refl _ _ | assumption | refine Below.setCell ?_ (by first | (simp; done) | (simp; omega) | omega) _ | refine Below.drew ?_ | refine below_drewN ?_ _ | refine Below.alloc ?_ (by first | (simp; done) | (simp; omega) | omega) _ | refine below_alloc ?_ _ | refine below_step ?_ (by assumption)))).mono ?_
        rintro e w2 ⟨rfl, hb⟩
        have hB_w2 : Below w.heap.size w w2 := (by repeat (first | exact Below.refl _ _ | assumption | refine Below.setCell ?_ (by first | (simp; done) | (simp; omega) | omega) _ | refine Below.drew ?_ | refine below_drewN ?_ _ | refine Below.alloc ?_ (by first | (simp; done) | (simp; omega) | omega) _ | refine below_alloc ?_ _ | refine below_step ?_ (by assumption))); have hz_w2 := hB_w2.size; clear hb
        go_wp2
        go_ret
        exact ⟨rfl, (by repeat (first | exact Below.refl _ _ | assumption | refine Below.setCell ?_ (by first | (simp; done) | (simp; omega) | omega) _ | refine Below.drew ?_ | refine below_drewN ?_ _ | refine Below.alloc ?_ (by first | (simp; done) | (simp; omega) | omega) _ | refine below_alloc ?_ _ | refine below_step ?_ (by assumption)))⟩
      · rw [ha] at hR c2
        rw [Bool.true_and] at hR
        have has := ascB_spec ha
        rw [hz.1] at has
        have c3 := fun b f W (h : Below w.heap.size w W) (hb : b < (n : Int)) (hf : f < n) => after_any c A len cap l A' n cap' ds b f W hvc hm hm' ((hx.below h).more h.size) ((hy.below h).more h.size) hwk hb hf
        have c4 := fun k W (h : Below w.heap.size w W) (hk : k < n) => ends_any c A len cap l A' n cap' ds k W hvc hm hm' ((hx.below h).more h.size) ((hy.below h).more h.size) hwk hk
        have hstep : ∀ k D, k < m → num ls k = ((D : Nat) : Int) → setX c l ds ls k = aftB c l ds (before ls k) D := fun k D hk hD => setX_aft hD (fun h0 => ⟨(has.1 (k - 1) (by omega)).1, has.2 (k - 1) k (by omega) hk⟩)
        have hlast : set1 c l ds ls = ((List.range ls.length).all (setX c l ds ls) && decide (c.to ≤ hL l ds (num ls (m - 1)) + c.le)) := by rw [← hz.1]; rfl
        rw [hz.1] at hlast
        have hmp : 0 < m := by omega
        have HR := Lib.hid hR
        have HL := Lib.hid hlast
        have C1 := Lib.hid c1
        have C2 := Lib.hid c2
        have C3 := Lib.hid c3
        have C4 := Lib.hid c4
        have HZ := Lib.hid hz
        have HS := Lib.hid hstep
        have HAS := Lib.hid has
        clear c1 c2 c3 c4 hx hy hz hR hne ha hm0 has hstep hlast hvc hvj hwk hr
        go_enter Try.func6, Try.ntmps6
        go_wp2_with fail
        refine (C1.out _ (by repeat (first | exact Below.refl _ _ | assumption | refine Below.setCell ?_ (by first | (simp; done) | (simp; omega) | omega) _ | refine Below.drew ?_ | refine below_drewN ?_ _ | refine Below.alloc ?_ (by first | (simp; done) | (simp; omega) | omega) _ | refine below_alloc ?_ _ | refine below_step ?_ (by assumption)))).mono ?_
        rintro e w1 ⟨rfl, hb⟩
        have hB_w1 : Below w.heap.size w w1 := (by repeat (first | exact Below.refl _ _ | assumption | refine Below.setCell ?_ (by first | (simp; done) | (simp; omega) | omega) _ | refine Below.drew ?_ | refine below_drewN ?_ _ | refine Below.alloc ?_ (by first | (simp; done) | (simp; omega) | omega) _ | refine below_alloc ?_ _ | refine below_step ?_ (by assumption))); have hz_w1 := hB_w1.size; have hsw10 : w.heap.size < w1.heap.size := Nat.lt_of_lt_of_le (by first | (simp; done) | (simp; omega) | omega) hb.size; have hnw10 : ¬ w.heap.size = w1.heap.size := (by omega); have hmw10 : ¬ w1.heap.size = w.heap.size := (by omega); have hlw10_0 : w.heap.size ≤ w1.heap.size := (by omega); have hlw10_1 : w.heap.size ≤ w1.heap.size + 1 := (by omega); have hlw10_2 : w.heap.size ≤ w1.heap.size + 1 + 1 := (by omega); have hkw10 : w1.cell? ⟨w.heap.size, 0, none⟩ = some (.int .i64 c.fi) := (by rw [hb.cell (p := ⟨w.heap.size, 0, none⟩) (by first | (simp; done) | (simp; omega) | omega)]; first | (go_simp; done) | assumption); have hkw11 : w1.cell? ⟨w.heap.size, 1, none⟩ = some (.int .i64 c.ga) := (by rw [hb.cell (p := ⟨w.heap.size, 1, none⟩) (by first | (simp; done) | (simp; omega) | omega)]; first | (go_simp; done) | assumption); have hkw12 : w1.cell? ⟨w.heap.size, 2, none⟩ = some (.int .i64 c.to) := (by rw [hb.cell (p := ⟨w.heap.size, 2, none⟩) (by first | (simp; done) | (simp; omega) | omega)]; first | (go_simp; done) | assumption); have hkw13 : w1.cell? ⟨w.heap.size, 3, none⟩ = some (.int .i64 c.le) := (by rw [hb.cell (p := ⟨w.heap.size, 3, none⟩) (by first | (simp; done) | (simp; omega) | omega)]; first | (go_simp; done) | assumption); have hkw14 : w1.cell? ⟨w.heap.size, 4, none⟩ = some (.int .i64 c.la) := (by rw [hb.cell (p := ⟨w.heap.size, 4, none⟩) (by first | (simp; done) | (simp; omega) | omega)]; first | (go_simp; done) | assumption); have hkw15 : w1.cell? ⟨w.heap.size, 5, none⟩ = some (.int .i64 c.st) := (by rw [hb.cell (p := ⟨w.heap.size, 5, none⟩) (by first | (simp; done) | (simp; omega) | omega)]; first | (go_simp; done) | assumption); clear hb
        go_wp2_with fail
        refine (C2.out _ (by repeat (first | exact Below.refl _ _ | assumption | refine Below.setCell ?_ (by first | (simp; done) | (simp; omega) | omega) _ | refine Below.drew ?_ | refine below_drewN ?_ _ | refine Below.alloc ?_ (by first | (simp; done) | (simp; omega) | omega) _ | refine below_alloc ?_ _ | refine below_step ?_ (by assumption)))).mono ?_
        rintro e w2 ⟨rfl, hb⟩
        have hB_w2 : Below w.heap.size w w2 := (by repeat (first | exact Below.refl _ _ | assumption | refine Below.setCell ?_ (by first | (simp; done) | (simp; omega) | omega) _ | refine Below.drew ?_ | refine below_drewN ?_ _ | refine Below.alloc ?_ (by first | (simp; done) | (simp; omega) | omega) _ | refine below_alloc ?_ _ | refine below_step ?_ (by assumption))); have hz_w2 := hB_w2.size; have hsw20 : w.heap.size < w2.heap.size := Nat.lt_of_lt_of_le (by first | (simp; done) | (simp; omega) | omega) hb.size; have hnw20 : ¬ w.heap.size = w2.heap.size := (by omega); have hmw20 : ¬ w2.heap.size = w.heap.size := (by omega); have hlw20_0 : w.heap.size ≤ w2.heap.size := (by omega); have hlw20_1 : w.heap.size ≤ w2.heap.size + 1 := (by omega); have hlw20_2 : w.heap.size ≤ w2.heap.size + 1 + 1 := (by omega); have hkw20 : w2.cell? ⟨w.heap.size, 0, none⟩ = some (.int .i64 c.fi) := (by rw [hb.cell (p := ⟨w.heap.size, 0, none⟩) (by first | (simp; done) | (simp; omega) | omega)]; first | (go_simp; done) | assumption); have hkw21 : w2.cell? ⟨w.heap.size, 1, none⟩ = some (.int .i64 c.ga) := (by rw [hb.cell (p := ⟨w.heap.size, 1, none⟩) (by first | (simp; done) | (simp; omega) | omega)]; first | (go_simp; done) | assumption); have hkw22 : w2.cell? ⟨w.heap.size, 2, none⟩ = some (.int .i64 c.to) := (by rw [hb.cell (p := ⟨w.heap.size, 2, none⟩) (by first | (simp; done) | (simp; omega) | omega)]; first | (go_simp; done) | assumption); have hkw23 : w2.cell? ⟨w.heap.size, 3, none⟩ = some (.int .i64 c.le) := (by rw [hb.cell (p := ⟨w.heap.size, 3, none⟩) (by first | (simp; done) | (simp; omega) | omega)]; first | (go_simp; done) | assumption); have hkw24 : w2.cell? ⟨w.heap.size, 4, none⟩ = some (.int .i64 c.la) := (by rw [hb.cell (p := ⟨w.heap.size, 4, none⟩) (by first | (simp; done) | (simp; omega) | omega)]; first | (go_simp; done) | assumption); have hkw25 : w2.cell? ⟨w.heap.size, 5, none⟩ = some (.int .i64 c.st) := (by rw [hb.cell (p := ⟨w.heap.size, 5, none⟩) (by first | (simp; done) | (simp; omega) | omega)]; first | (go_simp; done) | assumption); clear hb hB_w1 hlw10_0 hlw10_1 hlw10_2 hkw10 hkw11 hkw12 hkw13 hkw14 hkw15
        go_wp2
        go_loopw [36, 10] (fun i x wr => ∃ k : Nat, k ≤ m ∧ i = .int .i64 k ∧ x = .int .i64 (before ls k) ∧ Hid ((List.range k).all (setX c l ds ls) = true) ∧ Below (w2.alloc (.cells #[.int .i64 c.fi, .int .i64 c.ga, .int .i64 c.to, .int .i64 c.le, .int .i64 c.la, .int .i64 c.st, .slice A len cap, .slice A' n cap'] 42)).heap.size (w2.alloc (.cells #[.int .i64 c.fi, .int .i64 c.ga, .int .i64 c.to, .int .i64 c.le, .int .i64 c.la, .int .i64 c.st, .slice A len cap, .slice A' n cap'] 42)) wr) (fun i _ _ => m - (intOf i).toNat)
        case atStart => exact ⟨0, Nat.zero_le _, rfl, rfl, Lib.hid rfl, Below.refl _ _⟩
        case round =>
          obtain ⟨k, hk, rfl, rfl, hT, hb⟩ := hrel
          have hb' := hb
          have hB0 : Below w.heap.size w wr := (hB_w2.alloc hz_w2 _).trans (hb.mono (by simp; omega))
          have hB_wr : Below w.heap.size w wr := (by repeat (first | exact Below.refl _ _ | assumption | refine Below.setCell ?_ (by first | (simp; done) | (simp; omega) | omega) _ | refine Below.drew ?_ | refine below_drewN ?_ _ | refine Below.alloc ?_ (by first | (simp; done) | (simp; omega) | omega) _ | refine below_alloc ?_ _ | refine below_step ?_ (by assumption))); have hz_wr := hB_wr.size; have hswr0 : w2.heap.size < wr.heap.size := Nat.lt_of_lt_of_le (by first | (simp; done) | (simp; omega) | omega) hb.size; have hnwr0 : ¬ w2.heap.size = wr.heap.size := (by omega); have hmwr0 : ¬ wr.heap.size = w2.heap.size := (by omega); have hlwr0_0 : w2.heap.size ≤ wr.heap.size := (by omega); have hlwr0_1 : w2.heap.size ≤ wr.heap.size + 1 := (by omega); have hlwr0_2 : w2.heap.size ≤ wr.heap.size + 1 + 1 := (by omega); have hkwr0 : wr.cell? ⟨w2.heap.size, 0, none⟩ = some (.int .i64 c.fi) := (by rw [hb.cell (p := ⟨w2.heap.size, 0, none⟩) (by first | (simp; done) | (simp; omega) | omega)]; first | (go_simp; done) | assumption); have hkwr1 : wr.cell? ⟨w2.heap.size, 1, none⟩ = some (.int .i64 c.ga) := (by rw [hb.cell (p := ⟨w2.heap.size, 1, none⟩) (by first | (simp; done) | (simp; omega) | omega)]; first | (go_simp; done) | assumption); have hkwr2 : wr.cell? ⟨w2.heap.size, 2, none⟩ = some (.int .i64 c.to) := (by rw [hb.cell (p := ⟨w2.heap.size, 2, none⟩) (by first | (simp; done) | (simp; omega) | omega)]; first | (go_simp; done) | assumption); have hkwr3 : wr.cell? ⟨w2.heap.size, 3, none⟩ = some (.int .i64 c.le) := (by rw [hb.cell (p := ⟨w2.heap.size, 3, none⟩) (by first | (simp; done) | (simp; omega) | omega)]; first | (go_simp; done) | assumption); have hkwr4 : wr.cell? ⟨w2.heap.size, 4, none⟩ = some (.int .i64 c.la) := (by rw [hb.cell (p := ⟨w2.heap.size, 4, none⟩) (by first | (simp; done) | (simp; omega) | omega)]; first | (go_simp; done) | assumption); have hkwr5 : wr.cell? ⟨w2.heap.size, 5, none⟩ = some (.int .i64 c.st) := (by rw [hb.cell (p := ⟨w2.heap.size, 5, none⟩) (by first | (simp; done) | (simp; omega) | omega)]; first | (go_simp; done) | assumption); have hkwr6 : wr.cell? ⟨w2.heap.size, 6, none⟩ = some (.slice A len cap) := (by rw [hb.cell (p := ⟨w2.heap.size, 6, none⟩) (by first | (simp; done) | (simp; omega) | omega)]; first | (go_simp; done) | assumption); have hkwr7 : wr.cell? ⟨w2.heap.size, 7, none⟩ = some (.slice A' n cap') := (by rw [hb.cell (p := ⟨w2.heap.size, 7, none⟩) (by first | (simp; done) | (simp; omega) | omega)]; first | (go_simp; done) | assumption); clear hb hB_w2 hlw20_0 hlw20_1 hlw20_2 hkw20 hkw21 hkw22 hkw23 hkw24 hkw25
          by_cases hlt : k < m
          · obtain ⟨b, off, rfl, hb0, hc1⟩ := (HZ.out.below hB0).at_ k hlt
            have hdk := HAS.out.1 k hlt
            obtain ⟨D, hD⟩ : ∃ D : Nat, num ls k = (D : Int) := ⟨_, (Int.toNat_of_nonneg hdk.1).symm⟩
            have hDl : D < n := by omega
            change wr.cell? ⟨b, off + k, none⟩ = some (.int .i64 (num ls k)) at hc1
            rw [hD] at hc1
            have hst := HS.out k D hlt hD
            have hbf : before ls k < n := by
              unfold before
              split
              · omega
              · exact (HAS.out.1 (k - 1) (by omega)).2
            have c5 := fun W (h : Below w.heap.size w W) => C3.out (before ls k) D W h hbf hDl
            have hnx : before ls (k + 1) = (D : Int) := by unfold before; rw [if_neg (by omega), Nat.add_sub_cancel]; exact hD
            have HNX := Lib.hid hnx
            have HA := Lib.hid (fun hp => range_yes (p := setX c l ds ls) hT.out hp)
            have HF := Lib.hid (fun hp => range_no (p := setX c l ds ls) (show k < ls.length by rw [HZ.out.1]; exact hlt) hp)
            generalize before ls k = bf at *
            generalize aftB c l ds bf D = F at *
            have hb1 : b < wr.heap.size := by omega
            have C5 := Lib.hid c5
            clear c5 hnx hD hdk hT
            cases F
            · have h4 := Lib.hid (HF.out hst)
              clear hst
              go_wp2_with fail
              refine (C5.out _ (by repeat (first | exact Below.refl _ _ | assumption | refine Below.setCell ?_ (by first | (simp; done) | (simp; omega) | omega) _ | refine Below.drew ?_ | refine below_drewN ?_ _ | refine Below.alloc ?_ (by first | (simp; done) | (simp; omega) | omega) _ | refine below_alloc ?_ _ | refine below_step ?_ (by assumption)))).mono ?_
              rintro e w4 ⟨rfl, hb⟩
              have hB_w4 : Below w.heap.size w w4 := (by repeat (first | exact Below.refl _ _ | assumption | refine Below.setCell ?_ (by first | (simp; done) | (simp; omega) | omega) _ | refine Below.drew ?_ | refine below_drewN ?_ _ | refine Below.alloc ?_ (by first | (simp; done) | (simp; omega) | omega) _ | refine below_alloc ?_ _ | refine below_step ?_ (by assumption))); have hz_w4 := hB_w4.size; clear hb
              go_wp2
              go_ret
              exact ⟨ret_bool (by rw [HR.out, HL.out, ← HZ.out.1, h4.out]; rfl), (by repeat (first | exact Below.refl _ _ | assumption | refine Below.setCell ?_ (by first | (simp; done) | (simp; omega) | omega) _ | refine Below.drew ?_ | refine below_drewN ?_ _ | refine Below.alloc ?_ (by first | (simp; done) | (simp; omega) | omega) _ | refine below_alloc ?_ _ | refine below_step ?_ (by assumption)))⟩
            · have h4 := Lib.hid (HA.out hst)
              clear hst
              go_wp2_with fail
              refine (C5.out _ (by repeat (first | exact Below.refl _ _ | assumption | refine Below.setCell ?_ (by first | (simp; done) | (simp; omega) | omega) _ | refine Below.drew ?_ | refine below_drewN ?_ _ | refine Below.alloc ?_ (by first | (simp; done) | (simp; omega) | omega) _ | refine below_alloc ?_ _ | refine below_step ?_ (by assumption)))).mono ?_
              rintro e w4 ⟨rfl, hb⟩
              have hbq := hb
              have hB_w4 : Below w.heap.size w w4 := (by repeat (first | exact Below.refl _ _ | assumption | refine Below.setCell ?_ (by first | (simp; done) | (simp; omega) | omega) _ | refine Below.drew ?_ | refine below_drewN ?_ _ | refine Below.alloc ?_ (by first | (simp; done) | (simp; omega) | omega) _ | refine below_alloc ?_ _ | refine below_step ?_ (by assumption))); have hz_w4 := hB_w4.size; clear hb
              have hb5 := hb'.trans (hbq.mono hb'.size)
              clear hbq
              go_wp2
              go_roundw
              case rel => exact ⟨k + 1, by omega, by go_num, by rw [HNX.out], h4, hb5⟩
              case measure => simp [intOf]; omega
          · have hkm : k = m := by omega
            have hdk := HAS.out.1 (m - 1) (by omega)
            obtain ⟨D, hDe⟩ : ∃ D : Nat, num ls (m - 1) = (D : Int) := ⟨_, (Int.toNat_of_nonneg hdk.1).symm⟩
            have hDl : D < n := by omega
            have c6 := fun W (h : Below w.heap.size w W) => C4.out D W h hDl
            have hbf : before ls k = (D : Int) := by unfold before; rw [if_neg (by omega), hkm]; exact hDe
            have hfin : Hid (setB c l ds ls = decide (c.to ≤ hD l ds D + c.le)) := Lib.hid (by
              have h5 := hT.out
              rw [hkm] at h5
              have h6 := HL.out
              rw [h5, Bool.true_and, hDe] at h6
              rw [HR.out, h6]; rfl)
            generalize hD l ds D = H at *
            rw [hbf]
            have C6 := Lib.hid c6
            clear c6 hDe hdk hT hkm hbf
            go_wp2_with fail
            refine (C6.out _ (by repeat (first | exact Below.refl _ _ | assumption | refine Below.setCell ?_ (by first | (simp; done) | (simp; omega) | omega) _ | refine Below.drew ?_ | refine below_drewN ?_ _ | refine Below.alloc ?_ (by first | (simp; done) | (simp; omega) | omega) _ | refine below_alloc ?_ _ | refine below_step ?_ (by assumption)))).mono ?_
            rintro e w4 ⟨rfl, hb⟩
            have hB_w4 : Below w.heap.size w w4 := (by repeat (first | exact Below.refl _ _ | assumption | refine Below.setCell ?_ (by first | (simp; done) | (simp; omega) | omega) _ | refine Below.drew ?_ | refine below_drewN ?_ _ | refine Below.alloc ?_ (by first | (simp; done) | (simp; omega) | omega) _ | refine below_alloc ?_ _ | refine below_step ?_ (by assumption))); have hz_w4 := hB_w4.size; clear hb
            go_wp2
            go_ret
            exact ⟨ret_bool hfin.out.symm, (by repeat (first | exact Below.refl _ _ | assumption | refine Below.setCell ?_ (by first | (simp; done) | (simp; omega) | omega) _ | refine Below.drew ?_ | refine below_drewN ?_ _ | refine Below.alloc ?_ (by first | (simp; done) | (simp; omega) | omega) _ | refine below_alloc ?_ _ | refine below_step ?_ (by assumption)))⟩
end Go.Proofs.Ytgapnhpmgidmhaa
