/- Ladders on dogs: the reference's Set. -/
import Derived.Test.YtgapnhpmgidmhaaBear4
import Derived.Test.YtgapnhpmgidmhaaTail
set_option linter.unusedSimpArgs false
set_option linter.unusedVariables false
namespace Go.Proofs.Ytgapnhpmgidmhaa
open Go.RowKit
attribute [local go_sem] Later.cell Same.cell

theorem setB_both (c : Clb) (l : List J) (ds ls : List Int) : setB c l ds ls = (rightB c l ds && (!ls.isEmpty && ((List.range ls.length).all (bothS c l ds ls) && topB c l ds ls))) := by
  unfold setB
  rw [set_both]

set_option maxRecDepth 20000 in
set_option maxHeartbeats 8000000 in
theorem rSet_any (c : Clb) (A : Option Addr) (len cap : Nat) (l : List J) (A' : Option Addr) (n cap' : Nat) (ds : List Int) (A2 : Option Addr) (m cap2 : Nat) (ls : List Int) (w : World) (hm : len ≤ 9223372036854775807) (hm' : n ≤ 100000000) (hm2 : m ≤ 100000000) (hx : Rows 2 jointV dJ w w.heap.size A len l) (hy : Ints w w.heap.size A' n ds) (hz : Ints w w.heap.size A2 m ls) :
    Calls Try.prog 9 #[climbV c, .slice A len cap, .slice A' n cap', .slice A2 m cap2] w fun e w' => e = .returned (.bool (setB c l ds ls)) ∧ Below w.heap.size w w' := by
  have hR := setB_both c l ds ls
  have c1 := fun W (h : Below w.heap.size w W) => rRight_any c A len cap l A' n cap' ds W hm (by omega) ((hx.below h).more h.size) ((hy.below h).more h.size)
  cases hr : rightB c l ds
  · rw [hr] at hR c1
    rw [Bool.false_and] at hR
    rw [hR]
    have C1 := Lib.hid c1
    clear c1 hx hy hz hr hR
    go_enter Try.func9, Try.ntmps9
    go_wp2_with fail
    refine (C1.out _ (by repeat (first | exact Below.refl _ _ | assumption | refine Below.setCell ?_ (by first | (simp; done) | (simp; omega) | omega) _ | refine Below.drew ?_ | refine below_drewN ?_ _ | refine Below.alloc ?_ (by first | (simp; done) | (simp; omega) | omega) _ | refine below_alloc ?_ _ | refine below_step ?_ (by assumption)))).mono ?_
    rintro e w1 ⟨rfl, hb⟩
    have hB_w1 : Below w.heap.size w w1 := (by repeat (first | exact Below.refl _ _ | assumption | refine Below.setCell ?_ (by first | (simp; done) | (simp; omega) | omega) _ | refine Below.drew ?_ | refine below_drewN ?_ _ | refine Below.alloc ?_ (by first | (simp; done) | (simp; omega) | omega) _ | refine below_alloc ?_ _ | refine below_step ?_ (by assumption))); have hz_w1 := hB_w1.size; clear hb
    go_wp2
    go_ret
    exact ⟨rfl, (by repeat (first | exact Below.refl _ _ | assumption | refine Below.setCell ?_ (by first | (simp; done) | (simp; omega) | omega) _ | refine Below.drew ?_ | refine below_drewN ?_ _ | refine Below.alloc ?_ (by first | (simp; done) | (simp; omega) | omega) _ | refine below_alloc ?_ _ | refine below_step ?_ (by assumption)))⟩
  · have hwk := wall_ok hr
    have hvv := Bool.and_eq_true .. ▸ right_valid hr
    obtain ⟨hvc, hvj⟩ := hvv
    rw [hr] at hR c1
    rw [Bool.true_and] at hR
    by_cases hm0 : m = 0
    · have hnil : ls = [] := List.eq_nil_of_length_eq_zero (by rw [hz.1]; exact hm0)
      rw [hnil] at hR ⊢
      rw [hR]
      subst hm0
      have C1 := Lib.hid c1
      clear c1 hx hy hz hr hR hwk hvc hvj
      go_enter Try.func9, Try.ntmps9
      go_wp2_with fail
      refine (C1.out _ (by repeat (first | exact Below.refl _ _ | assumption | refine Below.setCell ?_ (by first | (simp; done) | (simp; omega) | omega) _ | refine Below.drew ?_ | refine below_drewN ?_ _ | refine Below.alloc ?_ (by first | (simp; done) | (simp; omega) | omega) _ | refine below_alloc ?_ _ | refine below_step ?_ (by assumption)))).mono ?_
      rintro e w1 ⟨rfl, hb⟩
      have hB_w1 : Below w.heap.size w w1 := (by repeat (first | exact Below.refl _ _ | assumption | refine Below.setCell ?_ (by first | (simp; done) | (simp; omega) | omega) _ | refine Below.drew ?_ | refine below_drewN ?_ _ | refine Below.alloc ?_ (by first | (simp; done) | (simp; omega) | omega) _ | refine below_alloc ?_ _ | refine below_step ?_ (by assumption))); have hz_w1 := hB_w1.size; clear hb
      go_wp2
      go_ret
      exact ⟨rfl, (by repeat (first | exact Below.refl _ _ | assumption | refine Below.setCell ?_ (by first | (simp; done) | (simp; omega) | omega) _ | refine Below.drew ?_ | refine below_drewN ?_ _ | refine Below.alloc ?_ (by first | (simp; done) | (simp; omega) | omega) _ | refine below_alloc ?_ _ | refine below_step ?_ (by assumption)))⟩
    · have hne : ls.isEmpty = false := by
        cases ls with
        | nil => exact absurd hz.1.symm hm0
        | cons _ _ => rfl
      have hm00 : ((m : Int) == 0) = false := by simpa using hm0
      have hmp : 0 < m := by omega
      rw [hne, Bool.not_false, Bool.true_and] at hR
      have hvs := vC_spec hvc
      have hle := hvs.2.2.2.1
      have hla := hvs.2.2.2.2.1
      have hfi := hvs.1
      have c2 := fun x W => rwithin_any x 0 ((n : Int) - 1) W
      have c3 := fun f W (h : Below w.heap.size w W) (hf : f < n) => ron_any c A len cap l A' n cap' ds f W hvc hm (by omega) ((hx.below h).more h.size) ((hy.below h).more h.size) hwk hf
      have c4 := fun f W (h : Below w.heap.size w W) (hf : f < n) => rheight_any A len cap l A' n cap' ds f W hm (by omega) ((hx.below h).more h.size) ((hy.below h).more h.size) hwk hf
      have hon : ∀ f, onN c l ds f = (onI c l ds f n).length := fun f => by unfold onN; rw [hy.1]
      have hole : ∀ f, onN c l ds f ≤ n := fun f => by have := onN_le c l ds f; rw [hy.1] at this; exact this
      have hbd := hwk.bd
      rw [hy.1] at hbd
      have hbx : ∀ k, bothS c l ds ls k = (ascX n ls k && setX c l ds ls k) := fun k => by rw [← hy.1]; rfl
      have hpre : ∀ k, (List.range k).all (bothS c l ds ls) = true → ∀ j, j < k → 0 ≤ num ls j ∧ num ls j < n := fun k h j hj => by
        have h1 := List.all_eq_true.1 h j (List.mem_range.2 hj)
        rw [hbx, Bool.and_eq_true, ascX, Bool.and_eq_true] at h1
        have := withinB_iff.1 h1.1.1
        omega
      have hlast : topB c l ds ls = decide (c.to ≤ hL l ds (num ls (m - 1)) + c.le) := by rw [← hz.1]; rfl
      have HP := Lib.hid hpre
      have HBX := Lib.hid hbx
      have HR := Lib.hid hR
      have HL := Lib.hid hlast
      have HON := Lib.hid hon
      have HOL := Lib.hid hole
      have HBD := Lib.hid hbd
      have C1 := Lib.hid c1
      have C2 := Lib.hid c2
      have C3 := Lib.hid c3
      have C4 := Lib.hid c4
      have HZ := Lib.hid hz
      clear c1 c2 c3 c4 hx hy hz hR hne hm0 hvs hvc hvj hwk hr hon hole hbd hbx hpre hlast
      go_enter Try.func9, Try.ntmps9
      go_wp2_with fail
      refine (C1.out _ (by repeat (first | exact Below.refl _ _ | assumption | refine Below.setCell ?_ (by first | (simp; done) | (simp; omega) | omega) _ | refine Below.drew ?_ | refine below_drewN ?_ _ | refine Below.alloc ?_ (by first | (simp; done) | (simp; omega) | omega) _ | refine below_alloc ?_ _ | refine below_step ?_ (by assumption)))).mono ?_
      rintro e w1 ⟨rfl, hb⟩
      have hB_w1 : Below w.heap.size w w1 := (by repeat (first | exact Below.refl _ _ | assumption | refine Below.setCell ?_ (by first | (simp; done) | (simp; omega) | omega) _ | refine Below.drew ?_ | refine below_drewN ?_ _ | refine Below.alloc ?_ (by first | (simp; done) | (simp; omega) | omega) _ | refine below_alloc ?_ _ | refine below_step ?_ (by assumption))); have hz_w1 := hB_w1.size; have hsw10 : w.heap.size < w1.heap.size := Nat.lt_of_lt_of_le (by first | (simp; done) | (simp; omega) | omega) hb.size; have hnw10 : ¬ w.heap.size = w1.heap.size := (by omega); have hmw10 : ¬ w1.heap.size = w.heap.size := (by omega); have hlw10_0 : w.heap.size ≤ w1.heap.size := (by omega); have hlw10_1 : w.heap.size ≤ w1.heap.size + 1 := (by omega); have hlw10_2 : w.heap.size ≤ w1.heap.size + 1 + 1 := (by omega); have hkw10 : w1.cell? ⟨w.heap.size, 0, none⟩ = some (.int .i64 c.fi) := (by rw [hb.cell (p := ⟨w.heap.size, 0, none⟩) (by first | (simp; done) | (simp; omega) | omega)]; first | (go_simp; done) | assumption); have hkw11 : w1.cell? ⟨w.heap.size, 1, none⟩ = some (.int .i64 c.ga) := (by rw [hb.cell (p := ⟨w.heap.size, 1, none⟩) (by first | (simp; done) | (simp; omega) | omega)]; first | (go_simp; done) | assumption); have hkw12 : w1.cell? ⟨w.heap.size, 2, none⟩ = some (.int .i64 c.to) := (by rw [hb.cell (p := ⟨w.heap.size, 2, none⟩) (by first | (simp; done) | (simp; omega) | omega)]; first | (go_simp; done) | assumption); have hkw13 : w1.cell? ⟨w.heap.size, 3, none⟩ = some (.int .i64 c.le) := (by rw [hb.cell (p := ⟨w.heap.size, 3, none⟩) (by first | (simp; done) | (simp; omega) | omega)]; first | (go_simp; done) | assumption); have hkw14 : w1.cell? ⟨w.heap.size, 4, none⟩ = some (.int .i64 c.la) := (by rw [hb.cell (p := ⟨w.heap.size, 4, none⟩) (by first | (simp; done) | (simp; omega) | omega)]; first | (go_simp; done) | assumption); have hkw15 : w1.cell? ⟨w.heap.size, 5, none⟩ = some (.int .i64 c.st) := (by rw [hb.cell (p := ⟨w.heap.size, 5, none⟩) (by first | (simp; done) | (simp; omega) | omega)]; first | (go_simp; done) | assumption); clear hb
      go_wp2
      go_loopw [9] (fun i wr => ∃ k : Nat, k ≤ m ∧ i = .int .i64 k ∧ Hid ((List.range k).all (bothS c l ds ls) = true) ∧ Below w1.heap.size w1 wr) (fun i _ => m - (intOf i).toNat)
      case atStart => exact ⟨0, Nat.zero_le _, rfl, Lib.hid rfl, Below.refl _ _⟩
      case round =>
        obtain ⟨k, hk, rfl, hT, hb⟩ := hrel
        have hb' := hb
        have hB0 : Below w.heap.size w wr := hB_w1.trans (hb.mono hz_w1)
        have hB_wr : Below w.heap.size w wr := (by repeat (first | exact Below.refl _ _ | assumption | refine Below.setCell ?_ (by first | (simp; done) | (simp; omega) | omega) _ | refine Below.drew ?_ | refine below_drewN ?_ _ | refine Below.alloc ?_ (by first | (simp; done) | (simp; omega) | omega) _ | refine below_alloc ?_ _ | refine below_step ?_ (by assumption))); have hz_wr := hB_wr.size; have hswr0 : w.heap.size < wr.heap.size := Nat.lt_of_lt_of_le (by first | (simp; done) | (simp; omega) | omega) hb.size; have hnwr0 : ¬ w.heap.size = wr.heap.size := (by omega); have hmwr0 : ¬ wr.heap.size = w.heap.size := (by omega); have hlwr0_0 : w.heap.size ≤ wr.heap.size := (by omega); have hlwr0_1 : w.heap.size ≤ wr.heap.size + 1 := (by omega); have hlwr0_2 : w.heap.size ≤ wr.heap.size + 1 + 1 := (by omega); have hkwr0 : wr.cell? ⟨w.heap.size, 0, none⟩ = some (.int .i64 c.fi) := (by rw [hb.cell (p := ⟨w.heap.size, 0, none⟩) (by first | (simp; done) | (simp; omega) | omega)]; first | (go_simp; done) | assumption); have hkwr1 : wr.cell? ⟨w.heap.size, 1, none⟩ = some (.int .i64 c.ga) := (by rw [hb.cell (p := ⟨w.heap.size, 1, none⟩) (by first | (simp; done) | (simp; omega) | omega)]; first | (go_simp; done) | assumption); have hkwr2 : wr.cell? ⟨w.heap.size, 2, none⟩ = some (.int .i64 c.to) := (by rw [hb.cell (p := ⟨w.heap.size, 2, none⟩) (by first | (simp; done) | (simp; omega) | omega)]; first | (go_simp; done) | assumption); have hkwr3 : wr.cell? ⟨w.heap.size, 3, none⟩ = some (.int .i64 c.le) := (by rw [hb.cell (p := ⟨w.heap.size, 3, none⟩) (by first | (simp; done) | (simp; omega) | omega)]; first | (go_simp; done) | assumption); have hkwr4 : wr.cell? ⟨w.heap.size, 4, none⟩ = some (.int .i64 c.la) := (by rw [hb.cell (p := ⟨w.heap.size, 4, none⟩) (by first | (simp; done) | (simp; omega) | omega)]; first | (go_simp; done) | assumption); have hkwr5 : wr.cell? ⟨w.heap.size, 5, none⟩ = some (.int .i64 c.st) := (by rw [hb.cell (p := ⟨w.heap.size, 5, none⟩) (by first | (simp; done) | (simp; omega) | omega)]; first | (go_simp; done) | assumption); clear hb hB_w1 hlw10_0 hlw10_1 hlw10_2 hkw10 hkw11 hkw12 hkw13 hkw14 hkw15
        by_cases hlt : k < m
        · obtain ⟨b, off, rfl, hb0, hc1⟩ := (HZ.out.below hB0).at_ k hlt
          change wr.cell? ⟨b, off + k, none⟩ = some (.int .i64 (num ls k)) at hc1
          have hb1 : b < wr.heap.size := by omega
          have HA := Lib.hid (fun hp => range_yes (p := bothS c l ds ls) hT.out hp)
          have HF := Lib.hid (fun hp => range_no (p := bothS c l ds ls) (show k < ls.length by rw [HZ.out.1]; exact hlt) hp)
          have HE := Lib.hid (fun (h : (List.range ls.length).all (bothS c l ds ls) = false) => show setB c l ds ls = false by rw [HR.out, h]; rfl)
          have hu := HBX.out k
          have hw1 : IntKind.i64.wrap ((n : Int) - 1) = (n : Int) - 1 := IntWalk.i64_in _ (by omega)
          have hk1 : (k : Int) < m := by omega
          have hbd' : Below wr.heap.size wr wr.drew := (Below.refl _ _).drew
          have c2 := C2.out (num ls k)
          by_cases hwi : withinB (num ls k) 0 ((n : Int) - 1) = true
          · have hdk := withinB_iff.1 hwi
            obtain ⟨D, hDe⟩ : ∃ D : Nat, num ls k = (D : Int) := ⟨_, (Int.toNat_of_nonneg hdk.1).symm⟩
            have hDl : D < n := by omega
            have hbD := HBD.out D hDl
            have hon := HON.out D
            have hol := HOL.out D
            have c3 := fun W (h : Below w.heap.size w W) => C3.out D W h hDl
            have c4 := fun W (h : Below w.heap.size w W) => C4.out D W h hDl
            rw [hwi] at c2
            have C5 := Lib.hid c3
            have C6 := Lib.hid c4
            rcases Nat.eq_zero_or_pos k with rfl | hk0
            · rw [ascX_zero, setX_zero, hwi, Bool.true_and, hDe] at hu
              rw [hDe] at hc1 c2
              unfold two hL at hu
              rw [Int.toNat_natCast] at hu
              simp only [Nat.add_zero] at hc1
              rw [hon] at hu hol
              generalize onI c l ds D n = R at *
              generalize hD l ds D = X at *
              have C7 := Lib.hid c2
              have HU := Lib.hid hu
              clear c2 c3 c4 hu hDe hwi hon
              by_cases h2 : 2 ≤ R.length
              · have h2' : decide ((R.length : Int) < 2) = false := decide_eq_false (by omega)
                have HU2 : Hid (bothS c l ds ls 0 = decide (X ≤ c.fi)) := Lib.hid (by rw [HU.out, decide_eq_true h2]; rfl)
                go_wp2
                (refine wp_region_tail 33 (by kernel_rfl) (by kernel_rfl) ?_; simp only [List.take_succ_cons, List.take_zero, List.drop_succ_cons, List.drop_zero]; (repeat (go_big_quiet_step ((go_at_call 22; exact same_same (C7.out _))))); refine wpQuiet_nil ?_)
                go_wp2_with fail
                refine (C5.out _ (by repeat (first | exact Below.refl _ _ | assumption | refine Below.setCell ?_ (by first | (simp; done) | (simp; omega) | omega) _ | refine Below.drew ?_ | refine below_drewN ?_ _ | refine Below.alloc ?_ (by first | (simp; done) | (simp; omega) | omega) _ | refine below_alloc ?_ _ | refine below_step ?_ (by assumption)))).mono ?_
                rintro e w5 ⟨⟨v5, rfl, ho5⟩, hb⟩
                obtain ⟨A5, k5, rfl, hm5, hm6, -⟩ := own_ints ho5
                clear ho5
                have hc15 : w5.cell? ⟨b, off, none⟩ = some (.int .i64 (D : Int)) := by rw [hb.cell (p := ⟨b, off, none⟩) (by simpa using hb1)]; exact hc1
                have hbq := hbd'.trans (hb.mono (by simp))
                have hB_w5 : Below w.heap.size w w5 := (by repeat (first | exact Below.refl _ _ | assumption | refine Below.setCell ?_ (by first | (simp; done) | (simp; omega) | omega) _ | refine Below.drew ?_ | refine below_drewN ?_ _ | refine Below.alloc ?_ (by first | (simp; done) | (simp; omega) | omega) _ | refine below_alloc ?_ _ | refine below_step ?_ (by assumption))); have hz_w5 := hB_w5.size; have hsw50 : w.heap.size < w5.heap.size := Nat.lt_of_lt_of_le (by first | (simp; done) | (simp; omega) | omega) hb.size; have hnw50 : ¬ w.heap.size = w5.heap.size := (by omega); have hmw50 : ¬ w5.heap.size = w.heap.size := (by omega); have hlw50_0 : w.heap.size ≤ w5.heap.size := (by omega); have hlw50_1 : w.heap.size ≤ w5.heap.size + 1 := (by omega); have hlw50_2 : w.heap.size ≤ w5.heap.size + 1 + 1 := (by omega); have hkw50 : w5.cell? ⟨w.heap.size, 0, none⟩ = some (.int .i64 c.fi) := (by rw [hb.cell (p := ⟨w.heap.size, 0, none⟩) (by first | (simp; done) | (simp; omega) | omega)]; first | (go_simp; done) | assumption); have hkw51 : w5.cell? ⟨w.heap.size, 1, none⟩ = some (.int .i64 c.ga) := (by rw [hb.cell (p := ⟨w.heap.size, 1, none⟩) (by first | (simp; done) | (simp; omega) | omega)]; first | (go_simp; done) | assumption); have hkw52 : w5.cell? ⟨w.heap.size, 2, none⟩ = some (.int .i64 c.to) := (by rw [hb.cell (p := ⟨w.heap.size, 2, none⟩) (by first | (simp; done) | (simp; omega) | omega)]; first | (go_simp; done) | assumption); have hkw53 : w5.cell? ⟨w.heap.size, 3, none⟩ = some (.int .i64 c.le) := (by rw [hb.cell (p := ⟨w.heap.size, 3, none⟩) (by first | (simp; done) | (simp; omega) | omega)]; first | (go_simp; done) | assumption); have hkw54 : w5.cell? ⟨w.heap.size, 4, none⟩ = some (.int .i64 c.la) := (by rw [hb.cell (p := ⟨w.heap.size, 4, none⟩) (by first | (simp; done) | (simp; omega) | omega)]; first | (go_simp; done) | assumption); have hkw55 : w5.cell? ⟨w.heap.size, 5, none⟩ = some (.int .i64 c.st) := (by rw [hb.cell (p := ⟨w.heap.size, 5, none⟩) (by first | (simp; done) | (simp; omega) | omega)]; first | (go_simp; done) | assumption); clear hb
                have hb5 := hb'.trans (hbq.mono hb'.size)
                have hb15 : b < w5.heap.size := by omega
                clear hbq hb'
                go_wp2_with fail
                refine (C6.out _ (by repeat (first | exact Below.refl _ _ | assumption | refine Below.setCell ?_ (by first | (simp; done) | (simp; omega) | omega) _ | refine Below.drew ?_ | refine below_drewN ?_ _ | refine Below.alloc ?_ (by first | (simp; done) | (simp; omega) | omega) _ | refine below_alloc ?_ _ | refine below_step ?_ (by assumption)))).mono ?_
                rintro e w6 ⟨rfl, hb⟩
                have hc16 : w6.cell? ⟨b, off, none⟩ = some (.int .i64 (D : Int)) := by rw [hb.cell (p := ⟨b, off, none⟩) hb15]; exact hc15
                have hbq := hb
                have hB_w6 : Below w.heap.size w w6 := (by repeat (first | exact Below.refl _ _ | assumption | refine Below.setCell ?_ (by first | (simp; done) | (simp; omega) | omega) _ | refine Below.drew ?_ | refine below_drewN ?_ _ | refine Below.alloc ?_ (by first | (simp; done) | (simp; omega) | omega) _ | refine below_alloc ?_ _ | refine below_step ?_ (by assumption))); have hz_w6 := hB_w6.size; have hsw60 : w.heap.size < w6.heap.size := Nat.lt_of_lt_of_le (by first | (simp; done) | (simp; omega) | omega) hb.size; have hnw60 : ¬ w.heap.size = w6.heap.size := (by omega); have hmw60 : ¬ w6.heap.size = w.heap.size := (by omega); have hlw60_0 : w.heap.size ≤ w6.heap.size := (by omega); have hlw60_1 : w.heap.size ≤ w6.heap.size + 1 := (by omega); have hlw60_2 : w.heap.size ≤ w6.heap.size + 1 + 1 := (by omega); have hkw60 : w6.cell? ⟨w.heap.size, 0, none⟩ = some (.int .i64 c.fi) := (by rw [hb.cell (p := ⟨w.heap.size, 0, none⟩) (by first | (simp; done) | (simp; omega) | omega)]; first | (go_simp; done) | assumption); have hkw61 : w6.cell? ⟨w.heap.size, 1, none⟩ = some (.int .i64 c.ga) := (by rw [hb.cell (p := ⟨w.heap.size, 1, none⟩) (by first | (simp; done) | (simp; omega) | omega)]; first | (go_simp; done) | assumption); have hkw62 : w6.cell? ⟨w.heap.size, 2, none⟩ = some (.int .i64 c.to) := (by rw [hb.cell (p := ⟨w.heap.size, 2, none⟩) (by first | (simp; done) | (simp; omega) | omega)]; first | (go_simp; done) | assumption); have hkw63 : w6.cell? ⟨w.heap.size, 3, none⟩ = some (.int .i64 c.le) := (by rw [hb.cell (p := ⟨w.heap.size, 3, none⟩) (by first | (simp; done) | (simp; omega) | omega)]; first | (go_simp; done) | assumption); have hkw64 : w6.cell? ⟨w.heap.size, 4, none⟩ = some (.int .i64 c.la) := (by rw [hb.cell (p := ⟨w.heap.size, 4, none⟩) (by first | (simp; done) | (simp; omega) | omega)]; first | (go_simp; done) | assumption); have hkw65 : w6.cell? ⟨w.heap.size, 5, none⟩ = some (.int .i64 c.st) := (by rw [hb.cell (p := ⟨w.heap.size, 5, none⟩) (by first | (simp; done) | (simp; omega) | omega)]; first | (go_simp; done) | assumption); clear hb hB_w5 hlw50_0 hlw50_1 hlw50_2 hkw50 hkw51 hkw52 hkw53 hkw54 hkw55
                have hb6 := hb5.trans (hbq.mono hb5.size)
                have hb16 : b < w6.heap.size := by omega
                clear hbq hb5
                by_cases hf : X ≤ c.fi
                · have h4 := Lib.hid (HA.out (HU2.out.trans (decide_eq_true hf)))
                  have hf2 : decide (c.fi < X) = false := decide_eq_false (by omega)
                  go_wp2
                  (refine wp_region_later (by kernel_rfl) (by kernel_rfl) ?_; (repeat (go_big_quiet_step ((fail)))); refine wpQuiet_nil ?_)
                  intro w7 hb
                  have hb7 := hb6.trans (hb.mono hb6.size)
                  go_wp2
                  go_roundw
                  case rel => exact ⟨1, by omega, by go_num, h4, hb7⟩
                  case measure => simp [intOf]; omega
                · have h4 := Lib.hid (HE.out (HF.out (HU2.out.trans (decide_eq_false hf))))
                  have hf2 : decide (c.fi < X) = true := decide_eq_true (by omega)
                  have hf3 : c.fi < X := by omega
                  go_wp2
                  (refine wp_region_later (by kernel_rfl) (by kernel_rfl) ?_; (repeat (go_big_quiet_step ((fail)))); refine wpQuiet_nil ?_)
                  intro w7 hb
                  go_wp2
                  go_ret
                  exact ⟨ret_bool h4.out.symm, hB_w6.trans (hb.mono hB_w6.size)⟩
              · have h2' : decide ((R.length : Int) < 2) = true := decide_eq_true (by omega)
                have h4 := Lib.hid (HE.out (HF.out (HU.out.trans (by rw [decide_eq_false h2]; rfl))))
                go_wp2
                (refine wp_region_tail 33 (by kernel_rfl) (by kernel_rfl) ?_; simp only [List.take_succ_cons, List.take_zero, List.drop_succ_cons, List.drop_zero]; (repeat (go_big_quiet_step ((go_at_call 22; exact same_same (C7.out _))))); refine wpQuiet_nil ?_)
                go_wp2_with fail
                refine (C5.out _ (by repeat (first | exact Below.refl _ _ | assumption | refine Below.setCell ?_ (by first | (simp; done) | (simp; omega) | omega) _ | refine Below.drew ?_ | refine below_drewN ?_ _ | refine Below.alloc ?_ (by first | (simp; done) | (simp; omega) | omega) _ | refine below_alloc ?_ _ | refine below_step ?_ (by assumption)))).mono ?_
                rintro e w5 ⟨⟨v5, rfl, ho5⟩, hb⟩
                obtain ⟨A5, k5, rfl, hm5, hm6, -⟩ := own_ints ho5
                clear ho5
                have hB_w5 : Below w.heap.size w w5 := (by repeat (first | exact Below.refl _ _ | assumption | refine Below.setCell ?_ (by first | (simp; done) | (simp; omega) | omega) _ | refine Below.drew ?_ | refine below_drewN ?_ _ | refine Below.alloc ?_ (by first | (simp; done) | (simp; omega) | omega) _ | refine below_alloc ?_ _ | refine below_step ?_ (by assumption))); have hz_w5 := hB_w5.size; clear hb
                go_wp2
                go_ret
                exact ⟨ret_bool h4.out.symm, (by repeat (first | exact Below.refl _ _ | assumption | refine Below.setCell ?_ (by first | (simp; done) | (simp; omega) | omega) _ | refine Below.drew ?_ | refine below_drewN ?_ _ | refine Below.alloc ?_ (by first | (simp; done) | (simp; omega) | omega) _ | refine below_alloc ?_ _ | refine below_step ?_ (by assumption)))⟩
            · obtain ⟨j, rfl⟩ : ∃ j, k = j + 1 := ⟨k - 1, by omega⟩
              obtain ⟨b', off', he, _, hd1⟩ := (HZ.out.below hB0).at_ j (by omega)
              cases he
              change wr.cell? ⟨b, off + j, none⟩ = some (.int .i64 (num ls j)) at hd1
              have hdj := HP.out (j + 1) hT.out j (by omega)
              obtain ⟨E, hEe⟩ : ∃ E : Nat, num ls j = (E : Int) := ⟨_, (Int.toNat_of_nonneg hdj.1).symm⟩
              have hEl : E < n := by omega
              have hbE := HBD.out E hEl
              have c8 := fun W (h : Below w.heap.size w W) => C4.out E W h hEl
              have C8 := Lib.hid c8
              rw [ascX_succ, setX_succ, hwi, Bool.true_and, hDe, hEe] at hu
              rw [hDe] at hc1 c2
              rw [hEe] at hd1 hdj
              unfold two hL at hu
              rw [Int.toNat_natCast, Int.toNat_natCast, hon] at hu
              rw [hon] at hol
              generalize onI c l ds D n = R at *
              generalize hD l ds D = X at *
              generalize hD l ds E = X' at *
              have C7 := Lib.hid c2
              have HU := Lib.hid hu
              have hjj1 : (j : Int) < m := by omega
              have hjj2 : (j : Int) + 1 < m := by omega
              have hwj : IntKind.i64.wrap (j : Int) = j := IntWalk.i64_in _ (by omega)
              have hjj3 : ¬ m ≤ j := by omega
              have hjj4 : j < m := by omega
              have hjz : ((j : Int) + 1 == 0) = false := by simp; omega
              have hjz2 : (((j + 1 : Nat) : Int) == 0) = false := by simp; omega
              clear c2 c3 c4 c8 hu hDe hEe hwi hon hdk hdj
              by_cases hde : E < D
              · have hde2 : decide ((E : Int) < (D : Int)) = true := decide_eq_true (by omega)
                have HU1 : Hid (bothS c l ds ls (j + 1) = (decide (2 ≤ R.length) && decide (X - X' ≤ c.le - c.la))) := Lib.hid (by rw [HU.out, hde2]; rfl)
                have hde3 : decide (D ≤ E) = false := decide_eq_false (by omega)
                clear HU hde2
                by_cases h2 : 2 ≤ R.length
                · have h2' : decide ((R.length : Int) < 2) = false := decide_eq_false (by omega)
                  have HU2 : Hid (bothS c l ds ls (j + 1) = decide (X - X' ≤ c.le - c.la)) := Lib.hid (by rw [HU1.out, decide_eq_true h2]; rfl)
                  clear HU1
                  go_wp2
                  (refine wp_region_tail 33 (by kernel_rfl) (by kernel_rfl) ?_; simp only [List.take_succ_cons, List.take_zero, List.drop_succ_cons, List.drop_zero]; (repeat (go_big_quiet_step ((go_at_call 22; exact same_same (C7.out _))))); refine wpQuiet_nil ?_)
                  go_wp2_with fail
                  refine (C5.out _ (by repeat (first | exact Below.refl _ _ | assumption | refine Below.setCell ?_ (by first | (simp; done) | (simp; omega) | omega) _ | refine Below.drew ?_ | refine below_drewN ?_ _ | refine Below.alloc ?_ (by first | (simp; done) | (simp; omega) | omega) _ | refine below_alloc ?_ _ | refine below_step ?_ (by assumption)))).mono ?_
                  rintro e w5 ⟨⟨v5, rfl, ho5⟩, hb⟩
                  obtain ⟨A5, k5, rfl, hm5, hm6, -⟩ := own_ints ho5
                  clear ho5
                  have hc15 : w5.cell? ⟨b, off + (j + 1), none⟩ = some (.int .i64 (D : Int)) := by rw [hb.cell (p := ⟨b, off + (j + 1), none⟩) (by simpa using hb1)]; exact hc1
                  have hd15 : w5.cell? ⟨b, off + j, none⟩ = some (.int .i64 (E : Int)) := by rw [hb.cell (p := ⟨b, off + j, none⟩) (by simpa using hb1)]; exact hd1
                  have hbq := hbd'.trans (hb.mono (by simp))
                  have hB_w5 : Below w.heap.size w w5 := (by repeat (first | exact Below.refl _ _ | assumption | refine Below.setCell ?_ (by first | (simp; done) | (simp; omega) | omega) _ | refine Below.drew ?_ | refine below_drewN ?_ _ | refine Below.alloc ?_ (by first | (simp; done) | (simp; omega) | omega) _ | refine below_alloc ?_ _ | refine below_step ?_ (by assumption))); have hz_w5 := hB_w5.size; have hsw50 : w.heap.size < w5.heap.size := Nat.lt_of_lt_of_le (by first | (simp; done) | (simp; omega) | omega) hb.size; have hnw50 : ¬ w.heap.size = w5.heap.size := (by omega); have hmw50 : ¬ w5.heap.size = w.heap.size := (by omega); have hlw50_0 : w.heap.size ≤ w5.heap.size := (by omega); have hlw50_1 : w.heap.size ≤ w5.heap.size + 1 := (by omega); have hlw50_2 : w.heap.size ≤ w5.heap.size + 1 + 1 := (by omega); have hkw50 : w5.cell? ⟨w.heap.size, 0, none⟩ = some (.int .i64 c.fi) := (by rw [hb.cell (p := ⟨w.heap.size, 0, none⟩) (by first | (simp; done) | (simp; omega) | omega)]; first | (go_simp; done) | assumption); have hkw51 : w5.cell? ⟨w.heap.size, 1, none⟩ = some (.int .i64 c.ga) := (by rw [hb.cell (p := ⟨w.heap.size, 1, none⟩) (by first | (simp; done) | (simp; omega) | omega)]; first | (go_simp; done) | assumption); have hkw52 : w5.cell? ⟨w.heap.size, 2, none⟩ = some (.int .i64 c.to) := (by rw [hb.cell (p := ⟨w.heap.size, 2, none⟩) (by first | (simp; done) | (simp; omega) | omega)]; first | (go_simp; done) | assumption); have hkw53 : w5.cell? ⟨w.heap.size, 3, none⟩ = some (.int .i64 c.le) := (by rw [hb.cell (p := ⟨w.heap.size, 3, none⟩) (by first | (simp; done) | (simp; omega) | omega)]; first | (go_simp; done) | assumption); have hkw54 : w5.cell? ⟨w.heap.size, 4, none⟩ = some (.int .i64 c.la) := (by rw [hb.cell (p := ⟨w.heap.size, 4, none⟩) (by first | (simp; done) | (simp; omega) | omega)]; first | (go_simp; done) | assumption); have hkw55 : w5.cell? ⟨w.heap.size, 5, none⟩ = some (.int .i64 c.st) := (by rw [hb.cell (p := ⟨w.heap.size, 5, none⟩) (by first | (simp; done) | (simp; omega) | omega)]; first | (go_simp; done) | assumption); clear hb
                  have hb5 := hb'.trans (hbq.mono hb'.size)
                  have hb15 : b < w5.heap.size := by omega
                  clear hbq hb'
                  go_wp2_with fail
                  refine (C6.out _ (by repeat (first | exact Below.refl _ _ | assumption | refine Below.setCell ?_ (by first | (simp; done) | (simp; omega) | omega) _ | refine Below.drew ?_ | refine below_drewN ?_ _ | refine Below.alloc ?_ (by first | (simp; done) | (simp; omega) | omega) _ | refine below_alloc ?_ _ | refine below_step ?_ (by assumption)))).mono ?_
                  rintro e w6 ⟨rfl, hb⟩
                  have hc16 : w6.cell? ⟨b, off + (j + 1), none⟩ = some (.int .i64 (D : Int)) := by rw [hb.cell (p := ⟨b, off + (j + 1), none⟩) hb15]; exact hc15
                  have hd16 : w6.cell? ⟨b, off + j, none⟩ = some (.int .i64 (E : Int)) := by rw [hb.cell (p := ⟨b, off + j, none⟩) hb15]; exact hd15
                  have hbq := hb
                  have hB_w6 : Below w.heap.size w w6 := (by repeat (first | exact Below.refl _ _ | assumption | refine Below.setCell ?_ (by first | (simp; done) | (simp; omega) | omega) _ | refine Below.drew ?_ | refine below_drewN ?_ _ | refine Below.alloc ?_ (by first | (simp; done) | (simp; omega) | omega) _ | refine below_alloc ?_ _ | refine below_step ?_ (by assumption))); have hz_w6 := hB_w6.size; have hsw60 : w.heap.size < w6.heap.size := Nat.lt_of_lt_of_le (by first | (simp; done) | (simp; omega) | omega) hb.size; have hnw60 : ¬ w.heap.size = w6.heap.size := (by omega); have hmw60 : ¬ w6.heap.size = w.heap.size := (by omega); have hlw60_0 : w.heap.size ≤ w6.heap.size := (by omega); have hlw60_1 : w.heap.size ≤ w6.heap.size + 1 := (by omega); have hlw60_2 : w.heap.size ≤ w6.heap.size + 1 + 1 := (by omega); have hkw60 : w6.cell? ⟨w.heap.size, 0, none⟩ = some (.int .i64 c.fi) := (by rw [hb.cell (p := ⟨w.heap.size, 0, none⟩) (by first | (simp; done) | (simp; omega) | omega)]; first | (go_simp; done) | assumption); have hkw61 : w6.cell? ⟨w.heap.size, 1, none⟩ = some (.int .i64 c.ga) := (by rw [hb.cell (p := ⟨w.heap.size, 1, none⟩) (by first | (simp; done) | (simp; omega) | omega)]; first | (go_simp; done) | assumption); have hkw62 : w6.cell? ⟨w.heap.size, 2, none⟩ = some (.int .i64 c.to) := (by rw [hb.cell (p := ⟨w.heap.size, 2, none⟩) (by first | (simp; done) | (simp; omega) | omega)]; first | (go_simp; done) | assumption); have hkw63 : w6.cell? ⟨w.heap.size, 3, none⟩ = some (.int .i64 c.le) := (by rw [hb.cell (p := ⟨w.heap.size, 3, none⟩) (by first | (simp; done) | (simp; omega) | omega)]; first | (go_simp; done) | assumption); have hkw64 : w6.cell? ⟨w.heap.size, 4, none⟩ = some (.int .i64 c.la) := (by rw [hb.cell (p := ⟨w.heap.size, 4, none⟩) (by first | (simp; done) | (simp; omega) | omega)]; first | (go_simp; done) | assumption); have hkw65 : w6.cell? ⟨w.heap.size, 5, none⟩ = some (.int .i64 c.st) := (by rw [hb.cell (p := ⟨w.heap.size, 5, none⟩) (by first | (simp; done) | (simp; omega) | omega)]; first | (go_simp; done) | assumption); clear hb hB_w5 hlw50_0 hlw50_1 hlw50_2 hkw50 hkw51 hkw52 hkw53 hkw54 hkw55
                  have hb6 := hb5.trans (hbq.mono hb5.size)
                  have hb16 : b < w6.heap.size := by omega
                  clear hbq hb5
                  by_cases hf : X - X' ≤ c.le - c.la
                  · have h4 := Lib.hid (HA.out (HU2.out.trans (decide_eq_true hf)))
                    have hf2 : decide (c.le - c.la < X - X') = false := decide_eq_false (by omega)
                    go_wp2
                    (refine wp_region_later (by kernel_rfl) (by kernel_rfl) ?_; (repeat (go_big_quiet_step ((go_at_call 20; exact later_call (C8.out _ (below_step hB_w6 (‹Later _›).h)))))); refine wpQuiet_nil ?_)
                    intro w7 hb
                    have hb7 := hb6.trans (hb.mono hb6.size)
                    go_wp2
                    go_roundw
                    case rel => exact ⟨j + 1 + 1, by omega, by go_num, h4, hb7⟩
                    case measure => simp [intOf]; omega
                  · have h4 := Lib.hid (HE.out (HF.out (HU2.out.trans (decide_eq_false hf))))
                    have hf2 : decide (c.le - c.la < X - X') = true := decide_eq_true (by omega)
                    have hf3 : c.le - c.la < X - X' := by omega
                    go_wp2
                    (refine wp_region_later (by kernel_rfl) (by kernel_rfl) ?_; (repeat (go_big_quiet_step ((go_at_call 20; exact later_call (C8.out _ (below_step hB_w6 (‹Later _›).h)))))); refine wpQuiet_nil ?_)
                    intro w7 hb
                    go_wp2
                    go_ret
                    exact ⟨ret_bool h4.out.symm, hB_w6.trans (hb.mono hB_w6.size)⟩
                · have h2' : decide ((R.length : Int) < 2) = true := decide_eq_true (by omega)
                  have h4 := Lib.hid (HE.out (HF.out (HU1.out.trans (by rw [decide_eq_false h2]; rfl))))
                  clear HU1
                  go_wp2
                  (refine wp_region_tail 33 (by kernel_rfl) (by kernel_rfl) ?_; simp only [List.take_succ_cons, List.take_zero, List.drop_succ_cons, List.drop_zero]; (repeat (go_big_quiet_step ((go_at_call 22; exact same_same (C7.out _))))); refine wpQuiet_nil ?_)
                  go_wp2_with fail
                  refine (C5.out _ (by repeat (first | exact Below.refl _ _ | assumption | refine Below.setCell ?_ (by first | (simp; done) | (simp; omega) | omega) _ | refine Below.drew ?_ | refine below_drewN ?_ _ | refine Below.alloc ?_ (by first | (simp; done) | (simp; omega) | omega) _ | refine below_alloc ?_ _ | refine below_step ?_ (by assumption)))).mono ?_
                  rintro e w5 ⟨⟨v5, rfl, ho5⟩, hb⟩
                  obtain ⟨A5, k5, rfl, hm5, hm6, -⟩ := own_ints ho5
                  clear ho5
                  have hB_w5 : Below w.heap.size w w5 := (by repeat (first | exact Below.refl _ _ | assumption | refine Below.setCell ?_ (by first | (simp; done) | (simp; omega) | omega) _ | refine Below.drew ?_ | refine below_drewN ?_ _ | refine Below.alloc ?_ (by first | (simp; done) | (simp; omega) | omega) _ | refine below_alloc ?_ _ | refine below_step ?_ (by assumption))); have hz_w5 := hB_w5.size; clear hb
                  go_wp2
                  go_ret
                  exact ⟨ret_bool h4.out.symm, (by repeat (first | exact Below.refl _ _ | assumption | refine Below.setCell ?_ (by first | (simp; done) | (simp; omega) | omega) _ | refine Below.drew ?_ | refine below_drewN ?_ _ | refine Below.alloc ?_ (by first | (simp; done) | (simp; omega) | omega) _ | refine below_alloc ?_ _ | refine below_step ?_ (by assumption)))⟩
              · have h4 := Lib.hid (HE.out (HF.out (HU.out.trans (by rw [decide_eq_false (show ¬ (E : Int) < (D : Int) by omega)]; rfl))))
                have hde3 : decide (D ≤ E) = true := decide_eq_true (by omega)
                go_wp2
                (refine wp_region_later (by kernel_rfl) (by kernel_rfl) ?_; (repeat (go_big_quiet_step ((go_at_call 22; exact later_same (C7.out _))))); refine wpQuiet_nil ?_)
                intro w3 hb
                go_wp2
                go_ret
                exact ⟨ret_bool h4.out.symm, hB0.trans (hb.mono hB0.size)⟩
          · have hwi' : withinB (num ls k) 0 ((n : Int) - 1) = false := by simpa using hwi
            rw [hwi'] at c2
            have h4 := Lib.hid (HE.out (HF.out (hu.trans (by rw [ascX, hwi']; rfl))))
            have C7 := Lib.hid c2
            generalize num ls k = X at *
            clear hu hwi hwi' c2
            go_wp2
            (refine wp_region_later (by kernel_rfl) (by kernel_rfl) ?_; (repeat (go_big_quiet_step ((go_at_call 22; exact later_same (C7.out _))))); refine wpQuiet_nil ?_)
            intro w3 hb
            go_wp2
            go_ret
            exact ⟨ret_bool h4.out.symm, hB0.trans (hb.mono hB0.size)⟩
        · have hkm : k = m := by omega
          have hdk := HP.out k hT.out (m - 1) (by omega)
          obtain ⟨j, hj⟩ : ∃ j, m = j + 1 := ⟨m - 1, by omega⟩
          rw [hj, Nat.add_sub_cancel] at hdk
          obtain ⟨b, off, rfl, hb0, hc1⟩ := (HZ.out.below hB0).at_ j (by omega)
          obtain ⟨D, hDe⟩ : ∃ D : Nat, num ls j = (D : Int) := ⟨_, (Int.toNat_of_nonneg hdk.1).symm⟩
          have hDl : D < n := by omega
          have c4 := fun W (h : Below w.heap.size w W) => C4.out D W h hDl
          have hbD := HBD.out D hDl
          have hfin : Hid (setB c l ds ls = decide (c.to ≤ hD l ds D + c.le)) := Lib.hid (by
            have h5 := hT.out
            have h6 := HL.out
            rw [hj, Nat.add_sub_cancel, hDe] at h6
            unfold hL at h6
            rw [Int.toNat_natCast] at h6
            rw [hkm, ← HZ.out.1] at h5
            rw [HR.out, h5, Bool.true_and, h6])
          change wr.cell? ⟨b, off + j, none⟩ = some (.int .i64 (num ls j)) at hc1
          rw [hDe] at hc1
          generalize hD l ds D = X at *
          have C6 := Lib.hid c4
          have hb1 : b < wr.heap.size := by omega
          clear hDe hdk hT hkm c4
          subst hj
          have hjj1 : (j : Int) < (j + 1 : Nat) := by omega
          have hwj : IntKind.i64.wrap (j : Int) = j := IntWalk.i64_in _ (by omega)
          go_wp2
          (refine wp_region_later (by kernel_rfl) (by kernel_rfl) ?_; (repeat (go_big_quiet_step ((go_at_call 20; exact later_call (C6.out _ (below_step hB_wr (‹Later _›).h)))))); refine wpQuiet_nil ?_)
          intro w4 hb
          go_wp2
          go_ret
          exact ⟨ret_bool hfin.out.symm, hB0.trans (hb.mono hB0.size)⟩
end Go.Proofs.Ytgapnhpmgidmhaa
