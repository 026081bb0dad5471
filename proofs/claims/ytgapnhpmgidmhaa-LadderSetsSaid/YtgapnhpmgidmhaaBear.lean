/- Ladders on dogs: ends, after, Set of the program. -/
import Derived.Test.YtgapnhpmgidmhaaOn
import Derived.Test.YtgapnhpmgidmhaaBearM
import Derived.Test.YtgapnhpmgidmhaaDogs3
set_option linter.unusedSimpArgs false
set_option linter.unusedVariables false
namespace Go.Proofs.Ytgapnhpmgidmhaa
open Go.RowKit
attribute [local go_sem] Later.cell

set_option maxHeartbeats 2000000 in
theorem ends_any (c : Clb) (A : Option Addr) (len cap : Nat) (l : List J) (A' : Option Addr) (n cap' : Nat) (ds : List Int) (k : Nat) (w : World) (hv : vC c = true) (hm : len ≤ 9223372036854775807) (hm' : n ≤ 100000000) (hx : Rows 2 jointV dJ w w.heap.size A len l) (hy : Ints w w.heap.size A' n ds) (hok : WallOk l ds) (hk : k < n) :
    Calls Try.prog 15 #[wallV c A len cap A' n cap', .int .i64 k] w fun e w' => e = .returned (.bool (decide (c.to ≤ hD l ds k + c.le))) ∧ Below w.heap.size w w' := by
  have c1 := fun W (h : Below w.heap.size w W) => height_any c A len cap l A' n cap' ds k W hm (by omega) ((hx.below h).more h.size) ((hy.below h).more h.size) hok hk
  have hle := (vC_spec hv).2.2.2.1
  have hbk := hok.bd k (by rw [hy.1]; exact hk)
  have C1 := Lib.hid c1
  clear c1 hx hy hok hv
  generalize hD l ds k = H at *
  go_enter Try.func15, Try.ntmps15
  go_wp2
  (refine wp_region_later (by kernel_rfl) (by kernel_rfl) ?_; (repeat (go_big_quiet_step ((go_at_call 28; exact later_call (C1.out _ (below_step ((Below.refl _ _).alloc (Nat.le_refl _) _) (‹Later _›).h)))))); refine wpQuiet_nil ?_)
  intro w4 hb
  go_wp2
  go_ret
  exact ⟨rfl, (by repeat (first | exact Below.refl _ _ | assumption | refine Below.setCell ?_ (by first | (simp; done) | (simp; omega) | omega) _ | refine Below.drew ?_ | refine below_drewN ?_ _ | refine Below.alloc ?_ (by first | (simp; done) | (simp; omega) | omega) _ | refine below_alloc ?_ _ | refine below_step ?_ (by assumption)))⟩

set_option maxRecDepth 20000 in
set_option maxHeartbeats 2000000 in
theorem after_any (c : Clb) (A : Option Addr) (len cap : Nat) (l : List J) (A' : Option Addr) (n cap' : Nat) (ds : List Int) (b : Int) (f : Nat) (w : World) (hv : vC c = true) (hm : len ≤ 9223372036854775807) (hm' : n ≤ 100000000) (hx : Rows 2 jointV dJ w w.heap.size A len l) (hy : Ints w w.heap.size A' n ds) (hok : WallOk l ds) (hbn : b < n) (hf : f < n) :
    Calls Try.prog 14 #[wallV c A len cap A' n cap', .int .i64 b, .int .i64 f] w fun e w' => e = .returned (.bool (aftB c l ds b f)) ∧ Below w.heap.size w w' := by
  have c0 := fun W (h : Below w.heap.size w W) => on_any c A len cap l A' n cap' ds f W hv hm hm' ((hx.below h).more h.size) ((hy.below h).more h.size) hok hf
  have c1 := fun k W (h : Below w.heap.size w W) (hk : k < n) => height_any c A len cap l A' n cap' ds k W hm (by omega) ((hx.below h).more h.size) ((hy.below h).more h.size) hok hk
  have hN : onN c l ds f = (onI c l ds f n).length := by unfold onN; rw [hy.1]
  have hNl := onI_len c l ds f n
  have hvs := vC_spec hv
  have hle := hvs.2.2.2.1
  have hla := hvs.2.2.2.2.1
  have hbf := hok.bd f (by rw [hy.1]; exact hf)
  by_cases h2 : 2 ≤ onN c l ds f
  · have h2' : decide (((onI c l ds f n).length : Int) < 2) = false := decide_eq_false (by omega)
    by_cases hneg : b < 0
    · have HE := Lib.hid (aftB_neg (l := l) (ds := ds) h2 hneg)
      have hneg' : decide (b < 0) = true := decide_eq_true hneg
      have c1f := fun W h => c1 f W h hf
      have C0 := Lib.hid c0
      have C1 := Lib.hid c1f
      clear c0 c1 c1f hx hy hok hv hvs h2 hN
      generalize onI c l ds f n = R at *
      generalize hD l ds f = H at *
      go_enter Try.func14, Try.ntmps14
      go_wp2_with fail
      refine (C0.out _ (by repeat (first | exact Below.refl _ _ | assumption | refine Below.setCell ?_ (by first | (simp; done) | (simp; omega) | omega) _ | refine Below.drew ?_ | refine below_drewN ?_ _ | refine Below.alloc ?_ (by first | (simp; done) | (simp; omega) | omega) _ | refine below_alloc ?_ _ | refine below_step ?_ (by assumption)))).mono ?_
      rintro e w1 ⟨⟨v, rfl, ho⟩, hb⟩
      obtain ⟨A1, k1, rfl, hm1, hm2, -⟩ := own_ints ho
      clear ho
      have hB_w1 : Below w.heap.size w w1 := (by repeat (first | exact Below.refl _ _ | assumption | refine Below.setCell ?_ (by first | (simp; done) | (simp; omega) | omega) _ | refine Below.drew ?_ | refine below_drewN ?_ _ | refine Below.alloc ?_ (by first | (simp; done) | (simp; omega) | omega) _ | refine below_alloc ?_ _ | refine below_step ?_ (by assumption))); have hz_w1 := hB_w1.size; have hsw10 : w.heap.size < w1.heap.size := Nat.lt_of_lt_of_le (by first | (simp; done) | (simp; omega) | omega) hb.size; have hnw10 : ¬ w.heap.size = w1.heap.size := (by omega); have hmw10 : ¬ w1.heap.size = w.heap.size := (by omega); have hlw10_0 : w.heap.size ≤ w1.heap.size := (by omega); have hlw10_1 : w.heap.size ≤ w1.heap.size + 1 := (by omega); have hlw10_2 : w.heap.size ≤ w1.heap.size + 1 + 1 := (by omega); have hkw10 : w1.cell? ⟨w.heap.size, 0, none⟩ = some (.int .i64 c.fi) := (by rw [hb.cell (p := ⟨w.heap.size, 0, none⟩) (by first | (simp; done) | (simp; omega) | omega)]; first | (go_simp; done) | assumption); have hkw11 : w1.cell? ⟨w.heap.size, 1, none⟩ = some (.int .i64 c.ga) := (by rw [hb.cell (p := ⟨w.heap.size, 1, none⟩) (by first | (simp; done) | (simp; omega) | omega)]; first | (go_simp; done) | assumption); have hkw12 : w1.cell? ⟨w.heap.size, 2, none⟩ = some (.int .i64 c.to) := (by rw [hb.cell (p := ⟨w.heap.size, 2, none⟩) (by first | (simp; done) | (simp; omega) | omega)]; first | (go_simp; done) | assumption); have hkw13 : w1.cell? ⟨w.heap.size, 3, none⟩ = some (.int .i64 c.le) := (by rw [hb.cell (p := ⟨w.heap.size, 3, none⟩) (by first | (simp; done) | (simp; omega) | omega)]; first | (go_simp; done) | assumption); have hkw14 : w1.cell? ⟨w.heap.size, 4, none⟩ = some (.int .i64 c.la) := (by rw [hb.cell (p := ⟨w.heap.size, 4, none⟩) (by first | (simp; done) | (simp; omega) | omega)]; first | (go_simp; done) | assumption); have hkw15 : w1.cell? ⟨w.heap.size, 5, none⟩ = some (.int .i64 c.st) := (by rw [hb.cell (p := ⟨w.heap.size, 5, none⟩) (by first | (simp; done) | (simp; omega) | omega)]; first | (go_simp; done) | assumption); have hkw16 : w1.cell? ⟨w.heap.size, 6, none⟩ = some (.slice A len cap) := (by rw [hb.cell (p := ⟨w.heap.size, 6, none⟩) (by first | (simp; done) | (simp; omega) | omega)]; first | (go_simp; done) | assumption); have hkw17 : w1.cell? ⟨w.heap.size, 7, none⟩ = some (.slice A' n cap') := (by rw [hb.cell (p := ⟨w.heap.size, 7, none⟩) (by first | (simp; done) | (simp; omega) | omega)]; first | (go_simp; done) | assumption); clear hb
      go_wp2
      (refine wp_region_later (by kernel_rfl) (by kernel_rfl) ?_; (repeat (go_big_quiet_step ((go_at_call 28; exact later_call (C1.out _ (below_step hB_w1 (‹Later _›).h)))))); refine wpQuiet_nil ?_)
      intro w4 hb
      go_wp2
      go_ret
      exact ⟨ret_bool HE.out.symm, (by repeat (first | exact Below.refl _ _ | assumption | refine Below.setCell ?_ (by first | (simp; done) | (simp; omega) | omega) _ | refine Below.drew ?_ | refine below_drewN ?_ _ | refine Below.alloc ?_ (by first | (simp; done) | (simp; omega) | omega) _ | refine below_alloc ?_ _ | refine below_step ?_ (by assumption)))⟩
    · obtain ⟨B, rfl⟩ : ∃ B : Nat, b = (B : Int) := ⟨b.toNat, by omega⟩
      have HE := Lib.hid (aftB_nat (c := c) (l := l) (ds := ds) (b := B) h2)
      have hneg' : decide ((B : Int) < 0) = false := decide_eq_false hneg
      have hbB := hok.bd B (by rw [hy.1]; omega)
      by_cases hBf : B < f
      · have HE2 : Hid (aftB c l ds B f = decide (hD l ds f - hD l ds B ≤ c.le - c.la)) := Lib.hid (by rw [HE.out, decide_eq_true hBf]; rfl)
        have hBf' : decide ((B : Int) < (f : Int)) = true := decide_eq_true (by omega)
        have hBf3 : (B : Int) < (f : Int) := by omega
        have hBf4 : decide (f ≤ B) = false := decide_eq_false (by omega)
        have hBf5 : decide (B < f) = true := decide_eq_true hBf
        have hBn : B < n := by omega
        have C0 := Lib.hid c0
        have C1 := Lib.hid c1
        clear c0 c1 hx hy hok hv hvs h2 hN HE
        generalize onI c l ds f n = R at *
        go_enter Try.func14, Try.ntmps14
        go_wp2_with fail
        refine (C0.out _ (by repeat (first | exact Below.refl _ _ | assumption | refine Below.setCell ?_ (by first | (simp; done) | (simp; omega) | omega) _ | refine Below.drew ?_ | refine below_drewN ?_ _ | refine Below.alloc ?_ (by first | (simp; done) | (simp; omega) | omega) _ | refine below_alloc ?_ _ | refine below_step ?_ (by assumption)))).mono ?_
        rintro e w1 ⟨⟨v, rfl, ho⟩, hb⟩
        obtain ⟨A1, k1, rfl, hm1, hm2, -⟩ := own_ints ho
        clear ho
        have hB_w1 : Below w.heap.size w w1 := (by repeat (first | exact Below.refl _ _ | assumption | refine Below.setCell ?_ (by first | (simp; done) | (simp; omega) | omega) _ | refine Below.drew ?_ | refine below_drewN ?_ _ | refine Below.alloc ?_ (by first | (simp; done) | (simp; omega) | omega) _ | refine below_alloc ?_ _ | refine below_step ?_ (by assumption))); have hz_w1 := hB_w1.size; have hsw10 : w.heap.size < w1.heap.size := Nat.lt_of_lt_of_le (by first | (simp; done) | (simp; omega) | omega) hb.size; have hnw10 : ¬ w.heap.size = w1.heap.size := (by omega); have hmw10 : ¬ w1.heap.size = w.heap.size := (by omega); have hlw10_0 : w.heap.size ≤ w1.heap.size := (by omega); have hlw10_1 : w.heap.size ≤ w1.heap.size + 1 := (by omega); have hlw10_2 : w.heap.size ≤ w1.heap.size + 1 + 1 := (by omega); have hkw10 : w1.cell? ⟨w.heap.size, 0, none⟩ = some (.int .i64 c.fi) := (by rw [hb.cell (p := ⟨w.heap.size, 0, none⟩) (by first | (simp; done) | (simp; omega) | omega)]; first | (go_simp; done) | assumption); have hkw11 : w1.cell? ⟨w.heap.size, 1, none⟩ = some (.int .i64 c.ga) := (by rw [hb.cell (p := ⟨w.heap.size, 1, none⟩) (by first | (simp; done) | (simp; omega) | omega)]; first | (go_simp; done) | assumption); have hkw12 : w1.cell? ⟨w.heap.size, 2, none⟩ = some (.int .i64 c.to) := (by rw [hb.cell (p := ⟨w.heap.size, 2, none⟩) (by first | (simp; done) | (simp; omega) | omega)]; first | (go_simp; done) | assumption); have hkw13 : w1.cell? ⟨w.heap.size, 3, none⟩ = some (.int .i64 c.le) := (by rw [hb.cell (p := ⟨w.heap.size, 3, none⟩) (by first | (simp; done) | (simp; omega) | omega)]; first | (go_simp; done) | assumption); have hkw14 : w1.cell? ⟨w.heap.size, 4, none⟩ = some (.int .i64 c.la) := (by rw [hb.cell (p := ⟨w.heap.size, 4, none⟩) (by first | (simp; done) | (simp; omega) | omega)]; first | (go_simp; done) | assumption); have hkw15 : w1.cell? ⟨w.heap.size, 5, none⟩ = some (.int .i64 c.st) := (by rw [hb.cell (p := ⟨w.heap.size, 5, none⟩) (by first | (simp; done) | (simp; omega) | omega)]; first | (go_simp; done) | assumption); have hkw16 : w1.cell? ⟨w.heap.size, 6, none⟩ = some (.slice A len cap) := (by rw [hb.cell (p := ⟨w.heap.size, 6, none⟩) (by first | (simp; done) | (simp; omega) | omega)]; first | (go_simp; done) | assumption); have hkw17 : w1.cell? ⟨w.heap.size, 7, none⟩ = some (.slice A' n cap') := (by rw [hb.cell (p := ⟨w.heap.size, 7, none⟩) (by first | (simp; done) | (simp; omega) | omega)]; first | (go_simp; done) | assumption); clear hb
        go_wp2
        (refine wp_region_later (by kernel_rfl) (by kernel_rfl) ?_; (repeat (go_big_quiet_step ((go_at_call 28; exact later_call (C1.out _ _ (below_step hB_w1 (‹Later _›).h) (by assumption)))))); refine wpQuiet_nil ?_)
        intro w4 hb
        go_wp2
        go_ret
        exact ⟨ret_bool HE2.out.symm, (by repeat (first | exact Below.refl _ _ | assumption | refine Below.setCell ?_ (by first | (simp; done) | (simp; omega) | omega) _ | refine Below.drew ?_ | refine below_drewN ?_ _ | refine Below.alloc ?_ (by first | (simp; done) | (simp; omega) | omega) _ | refine below_alloc ?_ _ | refine below_step ?_ (by assumption)))⟩
      · have HE2 : Hid (aftB c l ds B f = false) := Lib.hid (by rw [HE.out, decide_eq_false hBf]; rfl)
        have hBf' : decide ((B : Int) < (f : Int)) = false := decide_eq_false (by omega)
        have hBf2 : decide (B < f) = false := decide_eq_false hBf
        have hBf4 : decide (f ≤ B) = true := decide_eq_true (by omega)
        have C0 := Lib.hid c0
        clear c0 c1 hx hy hok hv hvs h2 hN HE
        generalize onI c l ds f n = R at *
        go_enter Try.func14, Try.ntmps14
        go_wp2_with fail
        refine (C0.out _ (by repeat (first | exact Below.refl _ _ | assumption | refine Below.setCell ?_ (by first | (simp; done) | (simp; omega) | omega) _ | refine Below.drew ?_ | refine below_drewN ?_ _ | refine Below.alloc ?_ (by first | (simp; done) | (simp; omega) | omega) _ | refine below_alloc ?_ _ | refine below_step ?_ (by assumption)))).mono ?_
        rintro e w1 ⟨⟨v, rfl, ho⟩, hb⟩
        obtain ⟨A1, k1, rfl, hm1, hm2, -⟩ := own_ints ho
        clear ho
        have hB_w1 : Below w.heap.size w w1 := (by repeat (first | exact Below.refl _ _ | assumption | refine Below.setCell ?_ (by first | (simp; done) | (simp; omega) | omega) _ | refine Below.drew ?_ | refine below_drewN ?_ _ | refine Below.alloc ?_ (by first | (simp; done) | (simp; omega) | omega) _ | refine below_alloc ?_ _ | refine below_step ?_ (by assumption))); have hz_w1 := hB_w1.size; have hsw10 : w.heap.size < w1.heap.size := Nat.lt_of_lt_of_le (by first | (simp; done) | (simp; omega) | omega) hb.size; have hnw10 : ¬ w.heap.size = w1.heap.size := (by omega); have hmw10 : ¬ w1.heap.size = w.heap.size := (by omega); have hlw10_0 : w.heap.size ≤ w1.heap.size := (by omega); have hlw10_1 : w.heap.size ≤ w1.heap.size + 1 := (by omega); have hlw10_2 : w.heap.size ≤ w1.heap.size + 1 + 1 := (by omega); have hkw10 : w1.cell? ⟨w.heap.size, 0, none⟩ = some (.int .i64 c.fi) := (by rw [hb.cell (p := ⟨w.heap.size, 0, none⟩) (by first | (simp; done) | (simp; omega) | omega)]; first | (go_simp; done) | assumption); have hkw11 : w1.cell? ⟨w.heap.size, 1, none⟩ = some (.int .i64 c.ga) := (by rw [hb.cell (p := ⟨w.heap.size, 1, none⟩) (by first | (simp; done) | (simp; omega) | omega)]; first | (go_simp; done) | assumption); have hkw12 : w1.cell? ⟨w.heap.size, 2, none⟩ = some (.int .i64 c.to) := (by rw [hb.cell (p := ⟨w.heap.size, 2, none⟩) (by first | (simp; done) | (simp; omega) | omega)]; first | (go_simp; done) | assumption); have hkw13 : w1.cell? ⟨w.heap.size, 3, none⟩ = some (.int .i64 c.le) := (by rw [hb.cell (p := ⟨w.heap.size, 3, none⟩) (by first | (simp; done) | (simp; omega) | omega)]; first | (go_simp; done) | assumption); have hkw14 : w1.cell? ⟨w.heap.size, 4, none⟩ = some (.int .i64 c.la) := (by rw [hb.cell (p := ⟨w.heap.size, 4, none⟩) (by first | (simp; done) | (simp; omega) | omega)]; first | (go_simp; done) | assumption); have hkw15 : w1.cell? ⟨w.heap.size, 5, none⟩ = some (.int .i64 c.st) := (by rw [hb.cell (p := ⟨w.heap.size, 5, none⟩) (by first | (simp; done) | (simp; omega) | omega)]; first | (go_simp; done) | assumption); have hkw16 : w1.cell? ⟨w.heap.size, 6, none⟩ = some (.slice A len cap) := (by rw [hb.cell (p := ⟨w.heap.size, 6, none⟩) (by first | (simp; done) | (simp; omega) | omega)]; first | (go_simp; done) | assumption); have hkw17 : w1.cell? ⟨w.heap.size, 7, none⟩ = some (.slice A' n cap') := (by rw [hb.cell (p := ⟨w.heap.size, 7, none⟩) (by first | (simp; done) | (simp; omega) | omega)]; first | (go_simp; done) | assumption); clear hb
        go_wp2
        (refine wp_region_later (by kernel_rfl) (by kernel_rfl) ?_; (repeat (go_big_quiet_step ((fail)))); refine wpQuiet_nil ?_)
        intro w4 hb
        go_wp2
        go_ret
        exact ⟨ret_bool HE2.out.symm, (by repeat (first | exact Below.refl _ _ | assumption | refine Below.setCell ?_ (by first | (simp; done) | (simp; omega) | omega) _ | refine Below.drew ?_ | refine below_drewN ?_ _ | refine Below.alloc ?_ (by first | (simp; done) | (simp; omega) | omega) _ | refine below_alloc ?_ _ | refine below_step ?_ (by assumption)))⟩
  · have HE := Lib.hid (aftB_few (l := l) (ds := ds) (b := b) h2)
    have h2' : decide (((onI c l ds f n).length : Int) < 2) = true := decide_eq_true (by omega)
    have C0 := Lib.hid c0
    clear c0 c1 hx hy hok hv hvs h2 hN
    generalize onI c l ds f n = R at *
    go_enter Try.func14, Try.ntmps14
    go_wp2_with fail
    refine (C0.out _ (by repeat (first | exact Below.refl _ _ | assumption | refine Below.setCell ?_ (by first | (simp; done) | (simp; omega) | omega) _ | refine Below.drew ?_ | refine below_drewN ?_ _ | refine Below.alloc ?_ (by first | (simp; done) | (simp; omega) | omega) _ | refine below_alloc ?_ _ | refine below_step ?_ (by assumption)))).mono ?_
    rintro e w1 ⟨⟨v, rfl, ho⟩, hb⟩
    obtain ⟨A1, k1, rfl, hm1, hm2, -⟩ := own_ints ho
    clear ho
    have hB_w1 : Below w.heap.size w w1 := (by repeat (first | exact Below.refl _ _ | assumption | refine Below.setCell ?_ (by first | (simp; done) | (simp; omega) | omega) _ | refine Below.drew ?_ | refine below_drewN ?_ _ | refine Below.alloc ?_ (by first | (simp; done) | (simp; omega) | omega) _ | refine below_alloc ?_ _ | refine below_step ?_ (by assumption))); have hz_w1 := hB_w1.size; clear hb
    go_wp2
    go_ret
    exact ⟨ret_bool HE.out.symm, (by repeat (first | exact Below.refl _ _ | assumption | refine Below.setCell ?_ (by first | (simp; done) | (simp; omega) | omega) _ | refine Below.drew ?_ | refine below_drewN ?_ _ | refine Below.alloc ?_ (by first | (simp; done) | (simp; omega) | omega) _ | refine below_alloc ?_ _ | refine below_step ?_ (by assumption)))⟩
end Go.Proofs.Ytgapnhpmgidmhaa
