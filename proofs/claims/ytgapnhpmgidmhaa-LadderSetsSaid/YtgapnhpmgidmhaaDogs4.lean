/- Dogs: the reference's Right; the sound joints. -/
import Derived.Test.YtgapnhpmgidmhaaDogs3
set_option linter.unusedSimpArgs false
set_option linter.unusedVariables false
namespace Go.Proofs.Ytgapnhpmgidmhaa
open Go.RowKit
attribute [local go_sem] Later.cell

def bothX (c : Clb) (l : List J) (ds : List Int) (k : Nat) : Bool := ascX l.length ds k && stepX c l ds k
theorem rightB_both (c : Clb) (l : List J) (ds : List Int) : rightB c l ds = ((vC c && vJ l) && (!ds.isEmpty && ((List.range ds.length).all (bothX c l ds) && lastB c l ds))) := by
  unfold rightB
  rw [right_both]; rfl
set_option maxRecDepth 20000 in
set_option maxHeartbeats 8000000 in
theorem rRight_any (c : Clb) (A : Option Addr) (len cap : Nat) (l : List J) (A' : Option Addr) (n cap' : Nat) (ds : List Int) (w : World) (hm : len ≤ 9223372036854775807) (hm' : n ≤ 9223372036854775807) (hx : Rows 2 jointV dJ w w.heap.size A len l) (hy : Ints w w.heap.size A' n ds) :
    Calls Try.prog 19 #[climbV c, .slice A len cap, .slice A' n cap'] w fun e w' => e = .returned (.bool (rightB c l ds)) ∧ Below w.heap.size w w' := by
  have hR := rightB_both c l ds
  have c1 := fun W (h : Below w.heap.size w W) => rVJoints_any A len cap l W hm ((hx.below h).more h.size)
  have c2 := fun W => rVClimb_any c W
  cases hv1 : vJ l
  · rw [hv1, Bool.and_false, Bool.false_and] at hR
    rw [hv1] at c1
    rw [hR]
    have C1 := Lib.hid c1
    clear c1 c2 hx hy hv1 hR
    go_enter Try.func19, Try.ntmps19
    go_wp2_with fail
    refine (C1.out _ (by repeat (first | exact Below.refl _ _ | assumption | refine Below.setCell ?_ (by first | (simp; done) | (simp; omega) | omega) _ | refine Below.drew ?_ | refine below_drewN ?_ _ | refine Below.alloc ?_ (by first | (simp; done) | (simp; omega) | omega) _ | refine below_alloc ?_ _ | refine below_step ?_ (by assumption)))).mono ?_
    rintro e w1 ⟨rfl, hb⟩
    have hB_w1 : Below w.heap.size w w1 := (by repeat (first | exact Below.refl _ _ | assumption | refine Below.setCell ?_ (by first | (simp; done) | (simp; omega) | omega) _ | refine Below.drew ?_ | refine below_drewN ?_ _ | refine Below.alloc ?_ (by first | (simp; done) | (simp; omega) | omega) _ | refine below_alloc ?_ _ | refine below_step ?_ (by assumption))); have hz_w1 := hB_w1.size; clear hb
    go_wp2
    go_ret
    exact ⟨rfl, (by repeat (first | exact Below.refl _ _ | assumption | refine Below.setCell ?_ (by first | (simp; done) | (simp; omega) | omega) _ | refine Below.drew ?_ | refine below_drewN ?_ _ | refine Below.alloc ?_ (by first | (simp; done) | (simp; omega) | omega) _ | refine below_alloc ?_ _ | refine below_step ?_ (by assumption)))⟩
  · cases hv2 : vC c
    · rw [hv2, Bool.false_and, Bool.false_and] at hR
      rw [hv2] at c2
      rw [hv1] at c1
      rw [hR]
      have C1 := Lib.hid c1
      have C2 := Lib.hid c2
      clear c1 c2 hx hy hv1 hv2 hR
      go_enter Try.func19, Try.ntmps19
      go_wp2_with fail
      refine (C1.out _ (by repeat (first | exact Below.refl _ _ | assumption | refine Below.setCell ?_ (by first | (simp; done) | (simp; omega) | omega) _ | refine Below.drew ?_ | refine below_drewN ?_ _ | refine Below.alloc ?_ (by first | (simp; done) | (simp; omega) | omega) _ | refine below_alloc ?_ _ | refine below_step ?_ (by assumption)))).mono ?_
      rintro e w1 ⟨rfl, hb⟩
      have hB_w1 : Below w.heap.size w w1 := (by repeat (first | exact Below.refl _ _ | assumption | refine Below.setCell ?_ (by first | (simp; done) | (simp; omega) | omega) _ | refine Below.drew ?_ | refine below_drewN ?_ _ | refine Below.alloc ?_ (by first | (simp; done) | (simp; omega) | omega) _ | refine below_alloc ?_ _ | refine below_step ?_ (by assumption))); have hz_w1 := hB_w1.size; have hsw10 : w.heap.size < w1.heap.size := Nat.lt_of_lt_of_le (by first | (simp; done) | (simp; omega) | omega) hb.size; have hnw10 : ¬ w.heap.size = w1.heap.size := (by omega); have hmw10 : ¬ w1.heap.size = w.heap.size := (by omega); have hlw10_0 : w.heap.size ≤ w1.heap.size := (by omega); have hlw10_1 : w.heap.size ≤ w1.heap.size + 1 := (by omega); have hlw10_2 : w.heap.size ≤ w1.heap.size + 1 + 1 := (by omega); have hkw10 : w1.cell? ⟨w.heap.size, 0, none⟩ = some (.int .i64 c.fi) := (by rw [hb.cell (p := ⟨w.heap.size, 0, none⟩) (by first | (simp; done) | (simp; omega) | omega)]; first | (go_simp; done) | assumption); have hkw11 : w1.cell? ⟨w.heap.size, 1, none⟩ = some (.int .i64 c.ga) := (by rw [hb.cell (p := ⟨w.heap.size, 1, none⟩) (by first | (simp; done) | (simp; omega) | omega)]; first | (go_simp; done) | assumption); have hkw12 : w1.cell? ⟨w.heap.size, 2, none⟩ = some (.int .i64 c.to) := (by rw [hb.cell (p := ⟨w.heap.size, 2, none⟩) (by first | (simp; done) | (simp; omega) | omega)]; first | (go_simp; done) | assumption); have hkw13 : w1.cell? ⟨w.heap.size, 3, none⟩ = some (.int .i64 c.le) := (by rw [hb.cell (p := ⟨w.heap.size, 3, none⟩) (by first | (simp; done) | (simp; omega) | omega)]; first | (go_simp; done) | assumption); have hkw14 : w1.cell? ⟨w.heap.size, 4, none⟩ = some (.int .i64 c.la) := (by rw [hb.cell (p := ⟨w.heap.size, 4, none⟩) (by first | (simp; done) | (simp; omega) | omega)]; first | (go_simp; done) | assumption); have hkw15 : w1.cell? ⟨w.heap.size, 5, none⟩ = some (.int .i64 c.st) := (by rw [hb.cell (p := ⟨w.heap.size, 5, none⟩) (by first | (simp; done) | (simp; omega) | omega)]; first | (go_simp; done) | assumption); clear hb
      go_wp2_with fail
      refine (C2.out _).mono ?_
      rintro e w2 ⟨rfl, hb⟩
      have hB_w2 : Below w.heap.size w w2 := (by repeat (first | exact Below.refl _ _ | assumption | refine Below.setCell ?_ (by first | (simp; done) | (simp; omega) | omega) _ | refine Below.drew ?_ | refine below_drewN ?_ _ | refine Below.alloc ?_ (by first | (simp; done) | (simp; omega) | omega) _ | refine below_alloc ?_ _ | refine below_step ?_ (by assumption))); have hz_w2 := hB_w2.size; clear hb
      go_wp2
      go_ret
      exact ⟨rfl, (by repeat (first | exact Below.refl _ _ | assumption | refine Below.setCell ?_ (by first | (simp; done) | (simp; omega) | omega) _ | refine Below.drew ?_ | refine below_drewN ?_ _ | refine Below.alloc ?_ (by first | (simp; done) | (simp; omega) | omega) _ | refine below_alloc ?_ _ | refine below_step ?_ (by assumption)))⟩
    · rw [hv1, hv2, Bool.and_true, Bool.true_and] at hR
      by_cases hn : n = 0
      · have hnil : ds = [] := List.eq_nil_of_length_eq_zero (by rw [hy.1]; exact hn)
        rw [hnil] at hR ⊢
        rw [hR]
        subst hn
        rw [hv2] at c2
        rw [hv1] at c1
        have C1 := Lib.hid c1
        have C2 := Lib.hid c2
        clear c1 c2 hx hy hv1 hv2 hR
        go_enter Try.func19, Try.ntmps19
        go_wp2_with fail
        refine (C1.out _ (by repeat (first | exact Below.refl _ _ | assumption | refine Below.setCell ?_ (by first | (simp; done) | (simp; omega) | omega) _ | refine Below.drew ?_ | refine below_drewN ?_ _ | refine Below.alloc ?_ (by first | (simp; done) | (simp; omega) | omega) _ | refine below_alloc ?_ _ | refine below_step ?_ (by assumption)))).mono ?_
        rintro e w1 ⟨rfl, hb⟩
        have hB_w1 : Below w.heap.size w w1 := (by repeat (first | exact Below.refl _ _ | assumption | refine Below.setCell ?_ (by first | (simp; done) | (simp; omega) | omega) _ | refine Below.drew ?_ | refine below_drewN ?_ _ | refine Below.alloc ?_ (by first | (simp; done) | (simp; omega) | omega) _ | refine below_alloc ?_ _ | refine below_step ?_ (by assumption))); have hz_w1 := hB_w1.size; have hsw10 : w.heap.size < w1.heap.size := Nat.lt_of_lt_of_le (by first | (simp; done) | (simp; omega) | omega) hb.size; have hnw10 : ¬ w.heap.size = w1.heap.size := (by omega); have hmw10 : ¬ w1.heap.size = w.heap.size := (by omega); have hlw10_0 : w.heap.size ≤ w1.heap.size := (by omega); have hlw10_1 : w.heap.size ≤ w1.heap.size + 1 := (by omega); have hlw10_2 : w.heap.size ≤ w1.heap.size + 1 + 1 := (by omega); have hkw10 : w1.cell? ⟨w.heap.size, 0, none⟩ = some (.int .i64 c.fi) := (by rw [hb.cell (p := ⟨w.heap.size, 0, none⟩) (by first | (simp; done) | (simp; omega) | omega)]; first | (go_simp; done) | assumption); have hkw11 : w1.cell? ⟨w.heap.size, 1, none⟩ = some (.int .i64 c.ga) := (by rw [hb.cell (p := ⟨w.heap.size, 1, none⟩) (by first | (simp; done) | (simp; omega) | omega)]; first | (go_simp; done) | assumption); have hkw12 : w1.cell? ⟨w.heap.size, 2, none⟩ = some (.int .i64 c.to) := (by rw [hb.cell (p := ⟨w.heap.size, 2, none⟩) (by first | (simp; done) | (simp; omega) | omega)]; first | (go_simp; done) | assumption); have hkw13 : w1.cell? ⟨w.heap.size, 3, none⟩ = some (.int .i64 c.le) := (by rw [hb.cell (p := ⟨w.heap.size, 3, none⟩) (by first | (simp; done) | (simp; omega) | omega)]; first | (go_simp; done) | assumption); have hkw14 : w1.cell? ⟨w.heap.size, 4, none⟩ = some (.int .i64 c.la) := (by rw [hb.cell (p := ⟨w.heap.size, 4, none⟩) (by first | (simp; done) | (simp; omega) | omega)]; first | (go_simp; done) | assumption); have hkw15 : w1.cell? ⟨w.heap.size, 5, none⟩ = some (.int .i64 c.st) := (by rw [hb.cell (p := ⟨w.heap.size, 5, none⟩) (by first | (simp; done) | (simp; omega) | omega)]; first | (go_simp; done) | assumption); clear hb
        go_wp2_with fail
        refine (C2.out _).mono ?_
        rintro e w2 ⟨rfl, hb⟩
        have hB_w2 : Below w.heap.size w w2 := (by repeat (first | exact Below.refl _ _ | assumption | refine Below.setCell ?_ (by first | (simp; done) | (simp; omega) | omega) _ | refine Below.drew ?_ | refine below_drewN ?_ _ | refine Below.alloc ?_ (by first | (simp; done) | (simp; omega) | omega) _ | refine below_alloc ?_ _ | refine below_step ?_ (by assumption))); have hz_w2 := hB_w2.size; clear hb
        go_wp2
        go_ret
        exact ⟨rfl, (by repeat (first | exact Below.refl _ _ | assumption | refine Below.setCell ?_ (by first | (simp; done) | (simp; omega) | omega) _ | refine Below.drew ?_ | refine below_drewN ?_ _ | refine Below.alloc ?_ (by first | (simp; done) | (simp; omega) | omega) _ | refine below_alloc ?_ _ | refine below_step ?_ (by assumption)))⟩
      · have hne : ds.isEmpty = false := by
          cases ds with
          | nil => exact absurd hy.1.symm hn
          | cons _ _ => rfl
        have hn0 : ((n : Int) == 0) = false := by simpa using hn
        have hnp : 0 < n := by omega
        rw [hne, Bool.not_false, Bool.true_and] at hR
        have hvc := vC_spec hv2
        have hvj := vJ_spec hv1
        rw [hx.1] at hvj
        have hlen2 : len ≤ 200 := hvj.1
        have hga := hvc.2.1
        have hfi := hvc.1
        have hlast : lastB c l ds = decide (c.to ≤ hI l (num ds (n - 1)) + c.ga) := by rw [← hy.1]; rfl
        rw [hv2] at c2
        rw [hv1] at c1
        have hbx : ∀ k, bothX c l ds k = (ascX len ds k && stepX c l ds k) := fun k => by rw [← hx.1]; rfl
        have hpre : ∀ k, (List.range k).all (bothX c l ds) = true → ∀ j, j < k → 0 ≤ num ds j ∧ num ds j < len := fun k h j hj => by
          have h1 := List.all_eq_true.1 h j (List.mem_range.2 hj)
          rw [hbx, Bool.and_eq_true, ascX, Bool.and_eq_true] at h1
          have := withinB_iff.1 h1.1.1
          omega
        have HP := Lib.hid hpre
        have HBX := Lib.hid hbx
        have HR := Lib.hid hR
        have HL := Lib.hid hlast
        have C1 := Lib.hid c1
        have C2 := Lib.hid c2
        have HX := Lib.hid hx
        have HY := Lib.hid hy
        have HVJ := Lib.hid hvj
        clear c1 c2 hx hy hR hne hn hvc hvj hlast hv1 hv2 hbx hpre
        go_enter Try.func19, Try.ntmps19
        go_wp2_with fail
        refine (C1.out _ (by repeat (first | exact Below.refl _ _ | assumption | refine Below.setCell ?_ (by first | (simp; done) | (simp; omega) | omega) _ | refine Below.drew ?_ | refine below_drewN ?_ _ | refine Below.alloc ?_ (by first | (simp; done) | (simp; omega) | omega) _ | refine below_alloc ?_ _ | refine below_step ?_ (by assumption)))).mono ?_
        rintro e w1 ⟨rfl, hb⟩
        have hB_w1 : Below w.heap.size w w1 := (by repeat (first | exact Below.refl _ _ | assumption | refine Below.setCell ?_ (by first | (simp; done) | (simp; omega) | omega) _ | refine Below.drew ?_ | refine below_drewN ?_ _ | refine Below.alloc ?_ (by first | (simp; done) | (simp; omega) | omega) _ | refine below_alloc ?_ _ | refine below_step ?_ (by assumption))); have hz_w1 := hB_w1.size; have hsw10 : w.heap.size < w1.heap.size := Nat.lt_of_lt_of_le (by first | (simp; done) | (simp; omega) | omega) hb.size; have hnw10 : ¬ w.heap.size = w1.heap.size := (by omega); have hmw10 : ¬ w1.heap.size = w.heap.size := (by omega); have hlw10_0 : w.heap.size ≤ w1.heap.size := (by omega); have hlw10_1 : w.heap.size ≤ w1.heap.size + 1 := (by omega); have hlw10_2 : w.heap.size ≤ w1.heap.size + 1 + 1 := (by omega); have hkw10 : w1.cell? ⟨w.heap.size, 0, none⟩ = some (.int .i64 c.fi) := (by rw [hb.cell (p := ⟨w.heap.size, 0, none⟩) (by first | (simp; done) | (simp; omega) | omega)]; first | (go_simp; done) | assumption); have hkw11 : w1.cell? ⟨w.heap.size, 1, none⟩ = some (.int .i64 c.ga) := (by rw [hb.cell (p := ⟨w.heap.size, 1, none⟩) (by first | (simp; done) | (simp; omega) | omega)]; first | (go_simp; done) | assumption); have hkw12 : w1.cell? ⟨w.heap.size, 2, none⟩ = some (.int .i64 c.to) := (by rw [hb.cell (p := ⟨w.heap.size, 2, none⟩) (by first | (simp; done) | (simp; omega) | omega)]; first | (go_simp; done) | assumption); have hkw13 : w1.cell? ⟨w.heap.size, 3, none⟩ = some (.int .i64 c.le) := (by rw [hb.cell (p := ⟨w.heap.size, 3, none⟩) (by first | (simp; done) | (simp; omega) | omega)]; first | (go_simp; done) | assumption); have hkw14 : w1.cell? ⟨w.heap.size, 4, none⟩ = some (.int .i64 c.la) := (by rw [hb.cell (p := ⟨w.heap.size, 4, none⟩) (by first | (simp; done) | (simp; omega) | omega)]; first | (go_simp; done) | assumption); have hkw15 : w1.cell? ⟨w.heap.size, 5, none⟩ = some (.int .i64 c.st) := (by rw [hb.cell (p := ⟨w.heap.size, 5, none⟩) (by first | (simp; done) | (simp; omega) | omega)]; first | (go_simp; done) | assumption); clear hb
        go_wp2_with fail
        refine (C2.out _).mono ?_
        rintro e w2 ⟨rfl, hb⟩
        have hB_w2 : Below w.heap.size w w2 := (by repeat (first | exact Below.refl _ _ | assumption | refine Below.setCell ?_ (by first | (simp; done) | (simp; omega) | omega) _ | refine Below.drew ?_ | refine below_drewN ?_ _ | refine Below.alloc ?_ (by first | (simp; done) | (simp; omega) | omega) _ | refine below_alloc ?_ _ | refine below_step ?_ (by assumption))); have hz_w2 := hB_w2.size; have hsw20 : w.heap.size < w2.heap.size := Nat.lt_of_lt_of_le (by first | (simp; done) | (simp; omega) | omega) hb.size; have hnw20 : ¬ w.heap.size = w2.heap.size := (by omega); have hmw20 : ¬ w2.heap.size = w.heap.size := (by omega); have hlw20_0 : w.heap.size ≤ w2.heap.size := (by omega); have hlw20_1 : w.heap.size ≤ w2.heap.size + 1 := (by omega); have hlw20_2 : w.heap.size ≤ w2.heap.size + 1 + 1 := (by omega); have hkw20 : w2.cell? ⟨w.heap.size, 0, none⟩ = some (.int .i64 c.fi) := (by rw [hb.cell (p := ⟨w.heap.size, 0, none⟩) (by first | (simp; done) | (simp; omega) | omega)]; first | (go_simp; done) | assumption); have hkw21 : w2.cell? ⟨w.heap.size, 1, none⟩ = some (.int .i64 c.ga) := (by rw [hb.cell (p := ⟨w.heap.size, 1, none⟩) (by first | (simp; done) | (simp; omega) | omega)]; first | (go_simp; done) | assumption); have hkw22 : w2.cell? ⟨w.heap.size, 2, none⟩ = some (.int .i64 c.to) := (by rw [hb.cell (p := ⟨w.heap.size, 2, none⟩) (by first | (simp; done) | (simp; omega) | omega)]; first | (go_simp; done) | assumption); have hkw23 : w2.cell? ⟨w.heap.size, 3, none⟩ = some (.int .i64 c.le) := (by rw [hb.cell (p := ⟨w.heap.size, 3, none⟩) (by first | (simp; done) | (simp; omega) | omega)]; first | (go_simp; done) | assumption); have hkw24 : w2.cell? ⟨w.heap.size, 4, none⟩ = some (.int .i64 c.la) := (by rw [hb.cell (p := ⟨w.heap.size, 4, none⟩) (by first | (simp; done) | (simp; omega) | omega)]; first | (go_simp; done) | assumption); have hkw25 : w2.cell? ⟨w.heap.size, 5, none⟩ = some (.int .i64 c.st) := (by rw [hb.cell (p := ⟨w.heap.size, 5, none⟩) (by first | (simp; done) | (simp; omega) | omega)]; first | (go_simp; done) | assumption); clear hb hB_w1 hlw10_0 hlw10_1 hlw10_2 hkw10 hkw11 hkw12 hkw13 hkw14 hkw15
        go_wp2
        go_loopw [7] (fun i wr => ∃ k : Nat, k ≤ n ∧ i = .int .i64 k ∧ Hid ((List.range k).all (bothX c l ds) = true) ∧ Below w2.heap.size w2 wr) (fun i _ => n - (intOf i).toNat)
        case atStart => exact ⟨0, Nat.zero_le _, rfl, Lib.hid rfl, Below.refl _ _⟩
        case round =>
          obtain ⟨k, hk, rfl, hT, hb⟩ := hrel
          have hb' := hb
          have hB0 : Below w.heap.size w wr := hB_w2.trans (hb.mono hB_w2.size)
          have hB_wr : Below w.heap.size w wr := (by repeat (first | exact Below.refl _ _ | assumption | refine Below.setCell ?_ (by first | (simp; done) | (simp; omega) | omega) _ | refine Below.drew ?_ | refine below_drewN ?_ _ | refine Below.alloc ?_ (by first | (simp; done) | (simp; omega) | omega) _ | refine below_alloc ?_ _ | refine below_step ?_ (by assumption))); have hz_wr := hB_wr.size; have hswr0 : w.heap.size < wr.heap.size := Nat.lt_of_lt_of_le (by first | (simp; done) | (simp; omega) | omega) hb.size; have hnwr0 : ¬ w.heap.size = wr.heap.size := (by omega); have hmwr0 : ¬ wr.heap.size = w.heap.size := (by omega); have hlwr0_0 : w.heap.size ≤ wr.heap.size := (by omega); have hlwr0_1 : w.heap.size ≤ wr.heap.size + 1 := (by omega); have hlwr0_2 : w.heap.size ≤ wr.heap.size + 1 + 1 := (by omega); have hkwr0 : wr.cell? ⟨w.heap.size, 0, none⟩ = some (.int .i64 c.fi) := (by rw [hb.cell (p := ⟨w.heap.size, 0, none⟩) (by first | (simp; done) | (simp; omega) | omega)]; first | (go_simp; done) | assumption); have hkwr1 : wr.cell? ⟨w.heap.size, 1, none⟩ = some (.int .i64 c.ga) := (by rw [hb.cell (p := ⟨w.heap.size, 1, none⟩) (by first | (simp; done) | (simp; omega) | omega)]; first | (go_simp; done) | assumption); have hkwr2 : wr.cell? ⟨w.heap.size, 2, none⟩ = some (.int .i64 c.to) := (by rw [hb.cell (p := ⟨w.heap.size, 2, none⟩) (by first | (simp; done) | (simp; omega) | omega)]; first | (go_simp; done) | assumption); have hkwr3 : wr.cell? ⟨w.heap.size, 3, none⟩ = some (.int .i64 c.le) := (by rw [hb.cell (p := ⟨w.heap.size, 3, none⟩) (by first | (simp; done) | (simp; omega) | omega)]; first | (go_simp; done) | assumption); have hkwr4 : wr.cell? ⟨w.heap.size, 4, none⟩ = some (.int .i64 c.la) := (by rw [hb.cell (p := ⟨w.heap.size, 4, none⟩) (by first | (simp; done) | (simp; omega) | omega)]; first | (go_simp; done) | assumption); have hkwr5 : wr.cell? ⟨w.heap.size, 5, none⟩ = some (.int .i64 c.st) := (by rw [hb.cell (p := ⟨w.heap.size, 5, none⟩) (by first | (simp; done) | (simp; omega) | omega)]; first | (go_simp; done) | assumption); clear hb hB_w2 hlw20_0 hlw20_1 hlw20_2 hkw20 hkw21 hkw22 hkw23 hkw24 hkw25
          by_cases hlt : k < n
          · obtain ⟨b, off, rfl, hb0, hc1⟩ := (HY.out.below hB0).at_ k hlt
            change wr.cell? ⟨b, off + k, none⟩ = some (.int .i64 (num ds k)) at hc1
            have hb1 : b < wr.heap.size := by omega
            have HA := Lib.hid (fun hp => range_yes (p := bothX c l ds) hT.out hp)
            have HF := Lib.hid (fun hp => range_no (p := bothX c l ds) (show k < ds.length by rw [HY.out.1]; exact hlt) hp)
            have HE := Lib.hid (fun (h : (List.range ds.length).all (bothX c l ds) = false) => show rightB c l ds = false by rw [HR.out, h]; rfl)
            have hu := HBX.out k
            have hw1 : IntKind.i64.wrap ((len : Int) - 1) = (len : Int) - 1 := IntWalk.i64_in _ (by omega)
            by_cases hwi : withinB (num ds k) 0 ((len : Int) - 1) = true
            · have hdk := withinB_iff.1 hwi
              obtain ⟨D, hD⟩ : ∃ D : Nat, num ds k = (D : Int) := ⟨_, (Int.toNat_of_nonneg hdk.1).symm⟩
              have hDl : D < len := by omega
              obtain ⟨b2, off2, rfl, hb2, hj1, hj2⟩ := (HX.out.below hB0).atJ D hDl
              have hbh := HVJ.out.2.1 D hDl
              have hb3 : b2 < wr.heap.size := by omega
              have hD1 : (D : Int) < len := by omega
              have hD2 : ¬ len ≤ D := by omega
              rcases Nat.eq_zero_or_pos k with rfl | hk0
              · rw [ascX_zero, stepX_zero, hwi, Bool.true_and, hD, sI_nat, hI_nat] at hu
                rw [hD] at hc1 hwi hdk
                simp only [Nat.add_zero] at hc1
                generalize sndB l D = Y at *
                generalize hgt l D = X at *
                have HU := Lib.hid hu
                clear hu hD
                cases Y
                · have h4 := Lib.hid (HE.out (HF.out HU.out))
                  go_wp2
                  (refine wp_region_later (by kernel_rfl) (by kernel_rfl) ?_; (repeat (go_big_quiet_step ((go_at_call 22; exact later_same (rwithin_any _ _ _ _))))); refine wpQuiet_nil ?_)
                  intro w3 hb
                  go_wp2
                  go_ret
                  exact ⟨ret_bool h4.out.symm, hB0.trans (hb.mono hB0.size)⟩
                · go_wp2
                  (refine wp_region_later (by kernel_rfl) (by kernel_rfl) ?_; (repeat (go_big_quiet_step ((go_at_call 22; exact later_same (rwithin_any _ _ _ _))))); refine wpQuiet_nil ?_)
                  intro w3 hb
                  have hB3 : Below w.heap.size w w3 := hB0.trans (hb.mono hB0.size)
                  have hb5 : Hid (Below w2.heap.size w2 w3) := Lib.hid (hb'.trans (hb.mono hb'.size))
                  clear hb'
                  have hc13 : w3.cell? ⟨b, off, none⟩ = some (.int .i64 (D : Int)) := (hb.cell (p := ⟨b, off, none⟩) hb1).trans hc1
                  have hj13 : w3.cell? ⟨b2, off2 + D * 2, none⟩ = some (.int .i64 X) := (hb.cell (p := ⟨b2, off2 + D * 2, none⟩) hb3).trans hj1
                  have hB_w3 : Below w.heap.size w w3 := (by repeat (first | exact Below.refl _ _ | assumption | refine Below.setCell ?_ (by first | (simp; done) | (simp; omega) | omega) _ | refine Below.drew ?_ | refine below_drewN ?_ _ | refine Below.alloc ?_ (by first | (simp; done) | (simp; omega) | omega) _ | refine below_alloc ?_ _ | refine below_step ?_ (by assumption))); have hz_w3 := hB_w3.size; have hsw30 : w.heap.size < w3.heap.size := Nat.lt_of_lt_of_le (by first | (simp; done) | (simp; omega) | omega) hb.size; have hnw30 : ¬ w.heap.size = w3.heap.size := (by omega); have hmw30 : ¬ w3.heap.size = w.heap.size := (by omega); have hlw30_0 : w.heap.size ≤ w3.heap.size := (by omega); have hlw30_1 : w.heap.size ≤ w3.heap.size + 1 := (by omega); have hlw30_2 : w.heap.size ≤ w3.heap.size + 1 + 1 := (by omega); have hkw30 : w3.cell? ⟨w.heap.size, 0, none⟩ = some (.int .i64 c.fi) := (by rw [hb.cell (p := ⟨w.heap.size, 0, none⟩) (by first | (simp; done) | (simp; omega) | omega)]; first | (go_simp; done) | assumption); have hkw31 : w3.cell? ⟨w.heap.size, 1, none⟩ = some (.int .i64 c.ga) := (by rw [hb.cell (p := ⟨w.heap.size, 1, none⟩) (by first | (simp; done) | (simp; omega) | omega)]; first | (go_simp; done) | assumption); have hkw32 : w3.cell? ⟨w.heap.size, 2, none⟩ = some (.int .i64 c.to) := (by rw [hb.cell (p := ⟨w.heap.size, 2, none⟩) (by first | (simp; done) | (simp; omega) | omega)]; first | (go_simp; done) | assumption); have hkw33 : w3.cell? ⟨w.heap.size, 3, none⟩ = some (.int .i64 c.le) := (by rw [hb.cell (p := ⟨w.heap.size, 3, none⟩) (by first | (simp; done) | (simp; omega) | omega)]; first | (go_simp; done) | assumption); have hkw34 : w3.cell? ⟨w.heap.size, 4, none⟩ = some (.int .i64 c.la) := (by rw [hb.cell (p := ⟨w.heap.size, 4, none⟩) (by first | (simp; done) | (simp; omega) | omega)]; first | (go_simp; done) | assumption); have hkw35 : w3.cell? ⟨w.heap.size, 5, none⟩ = some (.int .i64 c.st) := (by rw [hb.cell (p := ⟨w.heap.size, 5, none⟩) (by first | (simp; done) | (simp; omega) | omega)]; first | (go_simp; done) | assumption); clear hb hB_wr hlwr0_0 hlwr0_1 hlwr0_2 hkwr0 hkwr1 hkwr2 hkwr3 hkwr4 hkwr5
                  have hb13 : b < w3.heap.size := by omega
                  have hb33 : b2 < w3.heap.size := by omega
                  by_cases hf : X ≤ c.fi
                  · have h4 := Lib.hid (HA.out (HU.out.trans (by rw [decide_eq_true hf]; rfl)))
                    have hf2 : decide (c.fi < X) = false := decide_eq_false (by omega)
                    go_wp2
                    (refine wp_region_later (by kernel_rfl) (by kernel_rfl) ?_; (repeat (go_big_quiet_step ((fail)))); refine wpQuiet_nil ?_)
                    intro w4 hb
                    have hb6 := hb5.out.trans (hb.mono hb5.out.size)
                    go_wp2
                    go_roundw
                    case rel => exact ⟨1, by omega, by go_num, h4, hb6⟩
                    case measure => simp [intOf]; omega
                  · have h4 := Lib.hid (HE.out (HF.out (HU.out.trans (by rw [decide_eq_false hf]; rfl))))
                    have hf2 : decide (c.fi < X) = true := decide_eq_true (by omega)
                    have hf3 : c.fi < X := by omega
                    have hz0 : ((0 : Nat) : Int) = 0 := rfl
                    go_wp2
                    (refine wp_region_later (by kernel_rfl) (by kernel_rfl) ?_; (repeat (go_big_quiet_step ((fail)))); refine wpQuiet_nil ?_)
                    intro w4 hb
                    go_wp2
                    go_ret
                    exact ⟨ret_bool h4.out.symm, hB3.trans (hb.mono hB3.size)⟩
              · obtain ⟨j, rfl⟩ : ∃ j, k = j + 1 := ⟨k - 1, by omega⟩
                obtain ⟨b', off', he, _, hd1⟩ := (HY.out.below hB0).at_ j (by omega)
                cases he
                change wr.cell? ⟨b, off + j, none⟩ = some (.int .i64 (num ds j)) at hd1
                have hdj := HP.out (j + 1) hT.out j (by omega)
                obtain ⟨E, hE⟩ : ∃ E : Nat, num ds j = (E : Int) := ⟨_, (Int.toNat_of_nonneg hdj.1).symm⟩
                have hEl : E < len := by omega
                obtain ⟨b2', off2', he2, _, hj3, hj4⟩ := (HX.out.below hB0).atJ E hEl
                cases he2
                have hbhE := HVJ.out.2.1 E hEl
                rw [ascX_succ, stepX_succ, hwi, Bool.true_and, hD, hE, sI_nat, hI_nat, hI_nat] at hu
                rw [hD] at hc1 hwi hdk
                rw [hE] at hd1 hdj
                generalize sndB l D = Y at *
                generalize hgt l D = X at *
                generalize sndB l E = Y' at *
                generalize hgt l E = X' at *
                have HU := Lib.hid hu
                have hE1 : (E : Int) < len := by omega
                have hE2 : ¬ len ≤ E := by omega
                have hjj1 : (j : Int) < n := by omega
                have hjj2 : (j : Int) + 1 < n := by omega
                have hwj : IntKind.i64.wrap (j : Int) = j := IntWalk.i64_in _ (by omega)
                have hjj3 : ¬ n ≤ j := by omega
                have hjj4 : j < n := by omega
                clear hu hD hE
                cases Y
                · have h4 := Lib.hid (HE.out (HF.out (HU.out.trans (by simp))))
                  go_wp2
                  (refine wp_region_later (by kernel_rfl) (by kernel_rfl) ?_; (repeat (go_big_quiet_step ((go_at_call 22; exact later_same (rwithin_any _ _ _ _))))); refine wpQuiet_nil ?_)
                  intro w3 hb
                  go_wp2
                  go_ret
                  exact ⟨ret_bool h4.out.symm, hB0.trans (hb.mono hB0.size)⟩
                · by_cases hde : E < D
                  · have hde2 : decide ((E : Int) < (D : Int)) = true := decide_eq_true (by omega)
                    have hde3 : decide (D ≤ E) = false := decide_eq_false (by omega)
                    have HU2 : Hid (bothX c l ds (j + 1) = decide (X - X' ≤ c.ga)) := Lib.hid (by rw [HU.out, hde2]; rfl)
                    clear HU hde2
                    go_wp2
                    (refine wp_region_later (by kernel_rfl) (by kernel_rfl) ?_; (repeat (go_big_quiet_step ((go_at_call 22; exact later_same (rwithin_any _ _ _ _))))); refine wpQuiet_nil ?_)
                    intro w3 hb
                    have hB3 : Below w.heap.size w w3 := hB0.trans (hb.mono hB0.size)
                    have hb5 : Hid (Below w2.heap.size w2 w3) := Lib.hid (hb'.trans (hb.mono hb'.size))
                    clear hb'
                    have hc13 : w3.cell? ⟨b, off + (j + 1), none⟩ = some (.int .i64 (D : Int)) := (hb.cell (p := ⟨b, off + (j + 1), none⟩) hb1).trans hc1
                    have hd13 : w3.cell? ⟨b, off + j, none⟩ = some (.int .i64 (E : Int)) := (hb.cell (p := ⟨b, off + j, none⟩) hb1).trans hd1
                    have hj13 : w3.cell? ⟨b2, off2 + D * 2, none⟩ = some (.int .i64 X) := (hb.cell (p := ⟨b2, off2 + D * 2, none⟩) hb3).trans hj1
                    have hj33 : w3.cell? ⟨b2, off2 + E * 2, none⟩ = some (.int .i64 X') := (hb.cell (p := ⟨b2, off2 + E * 2, none⟩) hb3).trans hj3
                    have hB_w3 : Below w.heap.size w w3 := (by repeat (first | exact Below.refl _ _ | assumption | refine Below.setCell ?_ (by first | (simp; done) | (simp; omega) | omega) _ | refine Below.drew ?_ | refine below_drewN ?_ _ | refine Below.alloc ?_ (by first | (simp; done) | (simp; omega) | omega) _ | refine below_alloc ?_ _ | refine below_step ?_ (by assumption))); have hz_w3 := hB_w3.size; have hsw30 : w.heap.size < w3.heap.size := Nat.lt_of_lt_of_le (by first | (simp; done) | (simp; omega) | omega) hb.size; have hnw30 : ¬ w.heap.size = w3.heap.size := (by omega); have hmw30 : ¬ w3.heap.size = w.heap.size := (by omega); have hlw30_0 : w.heap.size ≤ w3.heap.size := (by omega); have hlw30_1 : w.heap.size ≤ w3.heap.size + 1 := (by omega); have hlw30_2 : w.heap.size ≤ w3.heap.size + 1 + 1 := (by omega); have hkw30 : w3.cell? ⟨w.heap.size, 0, none⟩ = some (.int .i64 c.fi) := (by rw [hb.cell (p := ⟨w.heap.size, 0, none⟩) (by first | (simp; done) | (simp; omega) | omega)]; first | (go_simp; done) | assumption); have hkw31 : w3.cell? ⟨w.heap.size, 1, none⟩ = some (.int .i64 c.ga) := (by rw [hb.cell (p := ⟨w.heap.size, 1, none⟩) (by first | (simp; done) | (simp; omega) | omega)]; first | (go_simp; done) | assumption); have hkw32 : w3.cell? ⟨w.heap.size, 2, none⟩ = some (.int .i64 c.to) := (by rw [hb.cell (p := ⟨w.heap.size, 2, none⟩) (by first | (simp; done) | (simp; omega) | omega)]; first | (go_simp; done) | assumption); have hkw33 : w3.cell? ⟨w.heap.size, 3, none⟩ = some (.int .i64 c.le) := (by rw [hb.cell (p := ⟨w.heap.size, 3, none⟩) (by first | (simp; done) | (simp; omega) | omega)]; first | (go_simp; done) | assumption); have hkw34 : w3.cell? ⟨w.heap.size, 4, none⟩ = some (.int .i64 c.la) := (by rw [hb.cell (p := ⟨w.heap.size, 4, none⟩) (by first | (simp; done) | (simp; omega) | omega)]; first | (go_simp; done) | assumption); have hkw35 : w3.cell? ⟨w.heap.size, 5, none⟩ = some (.int .i64 c.st) := (by rw [hb.cell (p := ⟨w.heap.size, 5, none⟩) (by first | (simp; done) | (simp; omega) | omega)]; first | (go_simp; done) | assumption); clear hb hB_wr hlwr0_0 hlwr0_1 hlwr0_2 hkwr0 hkwr1 hkwr2 hkwr3 hkwr4 hkwr5
                    have hb13 : b < w3.heap.size := by omega
                    have hb33 : b2 < w3.heap.size := by omega
                    by_cases hf : X - X' ≤ c.ga
                    · have h4 := Lib.hid (HA.out (HU2.out.trans (by rw [decide_eq_true hf])))
                      have hf2 : decide (c.ga < X - X') = false := decide_eq_false (by omega)
                      have hjz : ((j : Int) + 1 == 0) = false := by simp; omega
                      have hjz2 : (((j + 1 : Nat) : Int) == 0) = false := by simp; omega
                      go_wp2
                      (refine wp_region_later (by kernel_rfl) (by kernel_rfl) ?_; (repeat (go_big_quiet_step ((fail)))); refine wpQuiet_nil ?_)
                      intro w4 hb
                      have hb6 := hb5.out.trans (hb.mono hb5.out.size)
                      go_wp2
                      go_roundw
                      case rel => exact ⟨j + 1 + 1, by omega, by go_num, h4, hb6⟩
                      case measure => simp [intOf]; omega
                    · have h4 := Lib.hid (HE.out (HF.out (HU2.out.trans (by rw [decide_eq_false hf]))))
                      have hf2 : decide (c.ga < X - X') = true := decide_eq_true (by omega)
                      have hf3 : c.ga < X - X' := by omega
                      have hjz : ((j : Int) + 1 == 0) = false := by simp; omega
                      have hjz2 : (((j + 1 : Nat) : Int) == 0) = false := by simp; omega
                      go_wp2
                      (refine wp_region_later (by kernel_rfl) (by kernel_rfl) ?_; (repeat (go_big_quiet_step ((fail)))); refine wpQuiet_nil ?_)
                      intro w4 hb
                      go_wp2
                      go_ret
                      exact ⟨ret_bool h4.out.symm, hB3.trans (hb.mono hB3.size)⟩
                  · have h4 := Lib.hid (HE.out (HF.out (HU.out.trans (by rw [decide_eq_false (show ¬ (E : Int) < (D : Int) by omega)]; rfl))))
                    have hde3 : decide (D ≤ E) = true := decide_eq_true (by omega)
                    go_wp2
                    (refine wp_region_later (by kernel_rfl) (by kernel_rfl) ?_; (repeat (go_big_quiet_step ((go_at_call 22; exact later_same (rwithin_any _ _ _ _))))); refine wpQuiet_nil ?_)
                    intro w3 hb
                    go_wp2
                    go_ret
                    exact ⟨ret_bool h4.out.symm, hB0.trans (hb.mono hB0.size)⟩
            · have hwi' : withinB (num ds k) 0 ((len : Int) - 1) = false := by simpa using hwi
              have h4 := Lib.hid (HE.out (HF.out (hu.trans (by rw [ascX, hwi']; rfl))))
              generalize num ds k = X at *
              clear hu hwi
              go_wp2
              (refine wp_region_later (by kernel_rfl) (by kernel_rfl) ?_; (repeat (go_big_quiet_step ((go_at_call 22; exact later_same (rwithin_any _ _ _ _))))); refine wpQuiet_nil ?_)
              intro w3 hb
              go_wp2
              go_ret
              exact ⟨ret_bool h4.out.symm, hB0.trans (hb.mono hB0.size)⟩
          · have hkn : k = n := by omega
            have hdk := HP.out k hT.out (n - 1) (by omega)
            obtain ⟨j, hj⟩ : ∃ j, n = j + 1 := ⟨n - 1, by omega⟩
            rw [hj, Nat.add_sub_cancel] at hdk
            obtain ⟨b, off, rfl, hb0, hc1⟩ := (HY.out.below hB0).at_ j (by omega)
            obtain ⟨D, hD⟩ : ∃ D : Nat, num ds j = (D : Int) := ⟨_, (Int.toNat_of_nonneg hdk.1).symm⟩
            have hDl : D < len := by omega
            obtain ⟨b2, off2, rfl, hb2, hj1, hj2⟩ := (HX.out.below hB0).atJ D hDl
            have hfin : Hid (rightB c l ds = decide (c.to ≤ hgt l D + c.ga)) := Lib.hid (by
              have h5 := hT.out
              have h6 := HL.out
              rw [hj, Nat.add_sub_cancel, hD, hI_nat] at h6
              rw [hkn, ← HY.out.1] at h5
              rw [HR.out, h5, Bool.true_and, h6])
            have hbh := HVJ.out.2.1 D hDl
            change wr.cell? ⟨b, off + j, none⟩ = some (.int .i64 (num ds j)) at hc1
            rw [hD] at hc1
            generalize hgt l D = X at *
            generalize sndB l D = Y at *
            have hb1 : b < wr.heap.size := by omega
            have hb3 : b2 < wr.heap.size := by omega
            have hD1 : (D : Int) < len := by omega
            have hD2 : ¬ len ≤ D := by omega
            clear hD hdk hT hkn
            subst hj
            have hjj1 : (j : Int) < (j + 1 : Nat) := by omega
            have hwj : IntKind.i64.wrap (j : Int) = j := IntWalk.i64_in _ (by omega)
            go_wp2
            (refine wp_region_later (by kernel_rfl) (by kernel_rfl) ?_; (repeat (go_big_quiet_step ((fail)))); refine wpQuiet_nil ?_)
            intro w4 hb
            go_wp2
            go_ret
            exact ⟨ret_bool hfin.out.symm, hB0.trans (hb.mono hB0.size)⟩
end Go.Proofs.Ytgapnhpmgidmhaa
