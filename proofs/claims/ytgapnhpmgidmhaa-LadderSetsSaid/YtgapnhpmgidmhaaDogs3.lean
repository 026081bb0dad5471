/- Dogs: follows, last, Right of both. -/
import Derived.Test.YtgapnhpmgidmhaaDogs2
import Derived.Test.YtgapnhpmgidmhaaNeed
set_option linter.unusedSimpArgs false
set_option linter.unusedVariables false
namespace Go.Proofs.Ytgapnhpmgidmhaa
open Go.RowKit
attribute [local go_sem] Later.cell

theorem folB_neg {c : Clb} {l : List J} {b : Int} {d : Nat} (h : b < 0) : folB c l b d = decide (hgt l d ≤ c.fi) := if_pos h
theorem folB_nat (c : Clb) (l : List J) (b d : Nat) : folB c l (b : Int) d = (decide (b < d) && decide (hgt l d - hgt l b ≤ c.ga)) := by
  unfold folB
  rw [if_neg (by omega), hI_nat]
  congr 1
  exact decide_eq_decide.2 (by omega)
set_option maxHeartbeats 2000000 in
theorem follows_any (c : Clb) (A : Option Addr) (len cap : Nat) (l : List J) (b : Int) (d : Nat) (w : World) (hm : len ≤ 9223372036854775807) (hx : Rows 2 jointV dJ w w.heap.size A len l) (hh : ∀ k, k < len → 1 ≤ hgt l k ∧ hgt l k ≤ 200000)
    (hb : b < len) (hd : d < len) :
    Calls Try.prog 24 #[climbV c, .slice A len cap, .int .i64 b, .int .i64 d] w fun e w' => e = .returned (.bool (folB c l b d)) ∧ Below w.heap.size w w' := by
  obtain ⟨bl, off, rfl, hbl, hc1, hc2⟩ := hx.atJ d hd
  have hd1 : (d : Int) < len := by omega
  have hd2 : ¬ len ≤ d := by omega
  have hbh := hh d hd
  by_cases hneg : b < 0
  · have hv := folB_neg (c := c) (l := l) (d := d) hneg
    generalize folB c l b d = F at *
    generalize hgt l d = X at *
    generalize sndB l d = Y at *
    have HV := Lib.hid hv
    clear hv hx hh
    go_enter Try.func24, Try.ntmps24
    go_wp2
    (refine wp_region_later (by kernel_rfl) (by kernel_rfl) ?_; (repeat (go_big_quiet_step ((fail)))); refine wpQuiet_nil ?_)
    intro w1 hb
    go_wp2
    go_ret
    exact ⟨ret_bool (by rw [HV.out]), (by repeat (first | exact Below.refl _ _ | assumption | refine Below.setCell ?_ (by first | (simp; done) | (simp; omega) | omega) _ | refine Below.drew ?_ | refine below_drewN ?_ _ | refine Below.alloc ?_ (by first | (simp; done) | (simp; omega) | omega) _ | refine below_alloc ?_ _ | refine below_step ?_ (by assumption)))⟩
  · obtain ⟨B, rfl⟩ : ∃ B : Nat, b = (B : Int) := ⟨b.toNat, by omega⟩
    have hv := folB_nat c l B d
    obtain ⟨bl', off', he, _, hc3, hc4⟩ := hx.atJ B (by omega)
    cases he
    have hbB := hh B (by omega)
    have hB1 : (B : Int) < len := by omega
    have hB2 : ¬ len ≤ B := by omega
    generalize folB c l B d = F at *
    generalize hgt l d = X at *
    generalize sndB l d = Y at *
    generalize hgt l B = X' at *
    generalize sndB l B = Y' at *
    clear hx hh
    by_cases hlt : B < d
    · have HV : Hid (F = decide (X - X' ≤ c.ga)) := Lib.hid (by rw [hv, decide_eq_true hlt]; rfl)
      clear hv
      go_enter Try.func24, Try.ntmps24
      go_wp2
      (refine wp_region_later (by kernel_rfl) (by kernel_rfl) ?_; (repeat (go_big_quiet_step ((fail)))); refine wpQuiet_nil ?_)
      intro w1 hb
      go_wp2
      go_ret
      exact ⟨ret_bool (by rw [HV.out]), (by repeat (first | exact Below.refl _ _ | assumption | refine Below.setCell ?_ (by first | (simp; done) | (simp; omega) | omega) _ | refine Below.drew ?_ | refine below_drewN ?_ _ | refine Below.alloc ?_ (by first | (simp; done) | (simp; omega) | omega) _ | refine below_alloc ?_ _ | refine below_step ?_ (by assumption)))⟩
    · have HV : Hid (F = false) := Lib.hid (by rw [hv, decide_eq_false hlt]; rfl)
      have hlt' : decide ((B : Int) < (d : Int)) = false := decide_eq_false (by omega)
      have hlt2 : decide (B < d) = false := decide_eq_false hlt
      clear hv
      go_enter Try.func24, Try.ntmps24
      go_wp2
      (refine wp_region_later (by kernel_rfl) (by kernel_rfl) ?_; (repeat (go_big_quiet_step ((fail)))); refine wpQuiet_nil ?_)
      intro w1 hb
      go_wp2
      go_ret
      exact ⟨ret_bool (by rw [HV.out]), (by repeat (first | exact Below.refl _ _ | assumption | refine Below.setCell ?_ (by first | (simp; done) | (simp; omega) | omega) _ | refine Below.drew ?_ | refine below_drewN ?_ _ | refine Below.alloc ?_ (by first | (simp; done) | (simp; omega) | omega) _ | refine below_alloc ?_ _ | refine below_step ?_ (by assumption)))⟩
theorem last_any (c : Clb) (h : Int) (s : Bool) (w : World) (hh : 1 ≤ h ∧ h ≤ 200000) (hg : 1 ≤ c.ga ∧ c.ga ≤ 200000) :
    Calls Try.prog 25 #[climbV c, .agg #[.int .i64 h, .bool s]] w fun e w' => e = .returned (.bool (decide (c.to ≤ h + c.ga))) ∧ Below w.heap.size w w' := by
  go_enter Try.func25, Try.ntmps25
  go_wp2
  go_ret
  exact ⟨rfl, (by repeat (first | exact Below.refl _ _ | assumption | refine Below.setCell ?_ (by first | (simp; done) | (simp; omega) | omega) _ | refine Below.drew ?_ | refine below_drewN ?_ _ | refine Below.alloc ?_ (by first | (simp; done) | (simp; omega) | omega) _ | refine below_alloc ?_ _ | refine below_step ?_ (by assumption)))⟩

/-- The dog before the k-th one, -1 for the ground. -/
def before (ds : List Int) (k : Nat) : Int := if k = 0 then -1 else num ds (k - 1)
theorem stepX_fol {c : Clb} {l : List J} {ds : List Int} {k D : Nat} (hD : num ds k = (D : Int)) (hb : 0 < k → 0 ≤ num ds (k - 1) ∧ num ds (k - 1) < num ds k) : stepX c l ds k = (sndB l D && folB c l (before ds k) D) := by
  unfold stepX before
  rw [hD, sI_nat]
  congr 1
  by_cases hk : k = 0
  · subst hk
    rw [if_pos rfl, if_pos rfl, folB_neg (by decide), hD, hI_nat]
  · rw [if_neg hk, if_neg hk]
    have h2 := hb (by omega)
    unfold folB
    rw [if_neg (by omega), decide_eq_true (show num ds (k - 1) < D by omega), hI_nat, Bool.true_and]

set_option maxRecDepth 20000 in
set_option maxHeartbeats 4000000 in
theorem Right_any (c : Clb) (A : Option Addr) (len cap : Nat) (l : List J) (A' : Option Addr) (n cap' : Nat) (ds : List Int) (w : World) (hm : len ≤ 9223372036854775807) (hm' : n ≤ 9223372036854775807) (hx : Rows 2 jointV dJ w w.heap.size A len l) (hy : Ints w w.heap.size A' n ds) :
    Calls Try.prog 12 #[climbV c, .slice A len cap, .slice A' n cap'] w fun e w' => e = .returned (.bool (rightB c l ds)) ∧ Below w.heap.size w w' := by
  have hR : rightB c l ds = ((vC c && vJ l) && (!ds.isEmpty && (ascB l.length ds && right1 c l ds))) := rfl
  have c1 := fun W (h : Below w.heap.size w W) => valid_any c A len cap l W hm ((hx.below h).more h.size)
  have c2 := fun W (h : Below w.heap.size w W) => asc_any A' n cap' ds len W hm' hm ((hy.below h).more h.size)
  rw [hx.1] at hR
  cases hv : (vC c && vJ l)
  · rw [hv] at hR c1
    rw [Bool.false_and] at hR
    rw [hR]
    have C1 := Lib.hid c1
    clear c1 c2 hx hy hv hR
    go_enter Try.func12, Try.ntmps12
    go_wp2_with fail
    refine (C1.out _ (by repeat (first | exact Below.refl _ _ | assumption | refine Below.setCell ?_ (by first | (simp; done) | (simp; omega) | omega) _ | refine Below.drew ?_ | refine below_drewN ?_ _ | refine Below.alloc ?_ (by first | (simp; done) | (simp; omega) | omega) _ | refine below_alloc ?_ _ | refine below_step ?_ (by assumption)))).mono ?_
    rintro e w1 ⟨rfl, hb⟩
    have hB_w1 : Below w.heap.size w w1 := (by repeat (first | exact Below.refl _ _ | assumption | refine Below.setCell ?_ (by first | (simp; done) | (simp; omega) | omega) _ | refine Below.drew ?_ | refine below_drewN ?_ _ | refine Below.alloc ?_ (by first | (simp; done) | (simp; omega) | omega) _ | refine below_alloc ?_ _ | refine below_step ?_ (by assumption))); have hz_w1 := hB_w1.size; clear hb
    go_wp2
    go_ret
    exact ⟨rfl, (by repeat (first | exact Below.refl _ _ | assumption | refine Below.setCell ?_ (by first | (simp; done) | (simp; omega) | omega) _ | refine Below.drew ?_ | refine below_drewN ?_ _ | refine Below.alloc ?_ (by first | (simp; done) | (simp; omega) | omega) _ | refine below_alloc ?_ _ | refine below_step ?_ (by assumption)))⟩
  · rw [hv] at hR c1
    rw [Bool.true_and] at hR
    by_cases hn : n = 0
    · have hnil : ds = [] := List.eq_nil_of_length_eq_zero (by rw [hy.1]; exact hn)
      rw [hnil] at hR ⊢
      rw [hR]
      subst hn
      have C1 := Lib.hid c1
      clear c1 c2 hx hy hv hR
      go_enter Try.func12, Try.ntmps12
      go_wp2_with fail
      refine (C1.out _ (by repeat (first | exact Below.refl _ _ | assumption | refine Below.setCell ?_ (by first | (simp; done) | (simp; omega) | omega) _ | refine Below.drew ?_ | refine below_drewN ?_ _ | refine Below.alloc ?_ (by first | (simp; done) | (simp; omega) | omega) _ | refine below_alloc ?_ _ | refine below_step ?_ (by assumption)))).mono ?_
      rintro e w1 ⟨rfl, hb⟩
      have hB_w1 : Below w.heap.size w w1 := (by repeat (first | exact Below.refl _ _ | assumption | refine Below.setCell ?_ (by first | (simp; done) | (simp; omega) | omega) _ | refine Below.drew ?_ | refine below_drewN ?_ _ | refine Below.alloc ?_ (by first | (simp; done) | (simp; omega) | omega) _ | refine below_alloc ?_ _ | refine below_step ?_ (by assumption))); have hz_w1 := hB_w1.size; clear hb
      go_wp2
      go_ret
      exact ⟨rfl, (by repeat (first | exact Below.refl _ _ | assumption | refine Below.setCell ?_ (by first | (simp; done) | (simp; omega) | omega) _ | refine Below.drew ?_ | refine below_drewN ?_ _ | refine Below.alloc ?_ (by first | (simp; done) | (simp; omega) | omega) _ | refine below_alloc ?_ _ | refine below_step ?_ (by assumption)))⟩
    · have hne : ds.isEmpty = false := by
        cases ds with
        | nil => exact absurd hy.1.symm hn
        | cons _ _ => rfl
      have hn0 : ((n : Int) == 0) = false := by simpa using hn
      rw [hne, Bool.not_false, Bool.true_and] at hR
      cases ha : ascB len ds
      · rw [ha] at hR c2
        rw [Bool.false_and] at hR
        rw [hR]
        have C1 := Lib.hid c1
        have C2 := Lib.hid c2
        clear c1 c2 hx hy hv hR hne ha hn
        go_enter Try.func12, Try.ntmps12
        go_wp2_with fail
        refine (C1.out _ (by repeat (first | exact Below.refl _ _ | assumption | refine Below.setCell ?_ (by first | (simp; done) | (simp; omega) | omega) _ | refine Below.drew ?_ | refine below_drewN ?_ _ | refine Below.alloc ?_ (by first | (simp; done) | (simp; omega) | omega) _ | refine below_alloc ?_ _ | refine below_step ?_ (by assumption)))).mono ?_
        rintro e w1 ⟨rfl, hb⟩
        have hB_w1 : Below w.heap.size w w1 := (by repeat (first | exact Below.refl _ _ | assumption | refine Below.setCell ?_ (by first | (simp; done) | (simp; omega) | omega) _ | refine Below.drew ?_ | refine below_drewN ?_ _ | refine Below.alloc ?_ (by first | (simp; done) | (simp; omega) | omega) _ | refine below_alloc ?_ _ | refine below_step ?_ (by assumption))); have hz_w1 := hB_w1.size; clear hb
        go_wp2_with fail
        refine (C2.out _ (by repeat (first | exact Below.refl _ _ | assumption | refine Below.setCell ?_ (by first | (simp; done) | (simp; omega) | omega) _ | refine Below.drew ?_ | refine below_drewN ?_ _ | refine Below.alloc ?_ (by first | (simp; done) | (simp; omega) | omega) _ | refine below_alloc ?_ _ | refine below_step ?_ (by assumption)))).mono ?_
        rintro e w2 ⟨rfl, hb⟩
        have hB_w2 : Below w.heap.size w w2 := (by repeat (first | exact Below.refl _ _ | assumption | refine Below.setCell ?_ (by first | (simp; done) | (simp; omega) | omega) _ | refine Below.drew ?_ | refine below_drewN ?_ _ | refine Below.alloc ?_ (by first | (simp; done) | (simp; omega) | omega) _ | refine below_alloc ?_ _ | refine below_step ?_ (by assumption))); have hz_w2 := hB_w2.size; clear hb
        go_wp2
        go_ret
        exact ⟨rfl, (by repeat (first | exact Below.refl _ _ | assumption | refine Below.setCell ?_ (by first | (simp; done) | (simp; omega) | omega) _ | refine Below.drew ?_ | refine below_drewN ?_ _ | refine Below.alloc ?_ (by first | (simp; done) | (simp; omega) | omega) _ | refine below_alloc ?_ _ | refine below_step ?_ (by assumption)))⟩
      · rw [ha] at hR c2
        rw [Bool.true_and] at hR
        have hV := Bool.and_eq_true .. ▸ hv
        obtain ⟨hV1, hV2⟩ := hV
        have hvc := vC_spec hV1
        have hvj := vJ_spec hV2
        have has := ascB_spec ha
        rw [hx.1] at hvj
        rw [hy.1] at has
        have hlen2 : len ≤ 200 := hvj.1
        have hga := hvc.2.1
        have c3 := fun b D W (h : Below w.heap.size w W) (hb : b < (len : Int)) (hD : D < len) => follows_any c A len cap l b D W hm ((hx.below h).more h.size) hvj.2.1 hb hD
        have hstep : ∀ k D, k < n → num ds k = ((D : Nat) : Int) → stepX c l ds k = (sndB l D && folB c l (before ds k) D) := fun k D hk hD => stepX_fol hD (fun h0 => ⟨(has.1 (k - 1) (by omega)).1, has.2 (k - 1) k (by omega) hk⟩)
        have hlast : right1 c l ds = ((List.range ds.length).all (stepX c l ds) && decide (c.to ≤ hI l (num ds (n - 1)) + c.ga)) := by rw [← hy.1]; rfl
        rw [hy.1] at hlast
        have hnp : 0 < n := by omega
        have HR := Lib.hid hR
        have HL := Lib.hid hlast
        have C1 := Lib.hid c1
        have C2 := Lib.hid c2
        have C3 := Lib.hid c3
        have HX := Lib.hid hx
        have HY := Lib.hid hy
        have HS := Lib.hid hstep
        have HAS := Lib.hid has
        have HVJ := Lib.hid hvj
        clear c1 c2 c3 hx hy hv hR hne ha hn hvc hvj has hstep hlast hV1 hV2
        go_enter Try.func12, Try.ntmps12
        go_wp2_with fail
        refine (C1.out _ (by repeat (first | exact Below.refl _ _ | assumption | refine Below.setCell ?_ (by first | (simp; done) | (simp; omega) | omega) _ | refine Below.drew ?_ | refine below_drewN ?_ _ | refine Below.alloc ?_ (by first | (simp; done) | (simp; omega) | omega) _ | refine below_alloc ?_ _ | refine below_step ?_ (by assumption)))).mono ?_
        rintro e w1 ⟨rfl, hb⟩
        have hB_w1 : Below w.heap.size w w1 := (by repeat (first | exact Below.refl _ _ | assumption | refine Below.setCell ?_ (by first | (simp; done) | (simp; omega) | omega) _ | refine Below.drew ?_ | refine below_drewN ?_ _ | refine Below.alloc ?_ (by first | (simp; done) | (simp; omega) | omega) _ | refine below_alloc ?_ _ | refine below_step ?_ (by assumption))); have hz_w1 := hB_w1.size; have hsw10 : w.heap.size < w1.heap.size := Nat.lt_of_lt_of_le (by first | (simp; done) | (simp; omega) | omega) hb.size; have hnw10 : ¬ w.heap.size = w1.heap.size := (by omega); have hmw10 : ¬ w1.heap.size = w.heap.size := (by omega); have hlw10_0 : w.heap.size ≤ w1.heap.size := (by omega); have hlw10_1 : w.heap.size ≤ w1.heap.size + 1 := (by omega); have hlw10_2 : w.heap.size ≤ w1.heap.size + 1 + 1 := (by omega); have hkw10 : w1.cell? ⟨w.heap.size, 0, none⟩ = some (.int .i64 c.fi) := (by rw [hb.cell (p := ⟨w.heap.size, 0, none⟩) (by first | (simp; done) | (simp; omega) | omega)]; first | (go_simp; done) | assumption); have hkw11 : w1.cell? ⟨w.heap.size, 1, none⟩ = some (.int .i64 c.ga) := (by rw [hb.cell (p := ⟨w.heap.size, 1, none⟩) (by first | (simp; done) | (simp; omega) | omega)]; first | (go_simp; done) | assumption); have hkw12 : w1.cell? ⟨w.heap.size, 2, none⟩ = some (.int .i64 c.to) := (by rw [hb.cell (p := ⟨w.heap.size, 2, none⟩) (by first | (simp; done) | (simp; omega) | omega)]; first | (go_simp; done) | assumption); have hkw13 : w1.cell? ⟨w.heap.size, 3, none⟩ = some (.int .i64 c.le) := (by rw [hb.cell (p := ⟨w.heap.size, 3, none⟩) (by first | (simp; done) | (simp; omega) | omega)]; first | (go_simp; done) | assumption); have hkw14 : w1.cell? ⟨w.heap.size, 4, none⟩ = some (.int .i64 c.la) := (by rw [hb.cell (p := ⟨w.heap.size, 4, none⟩) (by first | (simp; done) | (simp; omega) | omega)]; first | (go_simp; done) | assumption); have hkw15 : w1.cell? ⟨w.heap.size, 5, none⟩ = some (.int .i64 c.st) := (by rw [hb.cell (p := ⟨w.heap.size, 5, none⟩) (by first | (simp; done) | (simp; omega) | omega)]; first | (go_simp; done) | assumption); clear hb
        go_wp2_with fail
        refine (C2.out _ (by repeat (first | exact Below.refl _ _ | assumption | refine Below.setCell ?_ (by first | (simp; done) | (simp; omega) | omega) _ | refine Below.drew ?_ | refine below_drewN ?_ _ | refine Below.alloc ?_ (by first | (simp; done) | (simp; omega) | omega) _ | refine below_alloc ?_ _ | refine below_step ?_ (by assumption)))).mono ?_
        rintro e w2 ⟨rfl, hb⟩
        have hB_w2 : Below w.heap.size w w2 := (by repeat (first | exact Below.refl _ _ | assumption | refine Below.setCell ?_ (by first | (simp; done) | (simp; omega) | omega) _ | refine Below.drew ?_ | refine below_drewN ?_ _ | refine Below.alloc ?_ (by first | (simp; done) | (simp; omega) | omega) _ | refine below_alloc ?_ _ | refine below_step ?_ (by assumption))); have hz_w2 := hB_w2.size; have hsw20 : w.heap.size < w2.heap.size := Nat.lt_of_lt_of_le (by first | (simp; done) | (simp; omega) | omega) hb.size; have hnw20 : ¬ w.heap.size = w2.heap.size := (by omega); have hmw20 : ¬ w2.heap.size = w.heap.size := (by omega); have hlw20_0 : w.heap.size ≤ w2.heap.size := (by omega); have hlw20_1 : w.heap.size ≤ w2.heap.size + 1 := (by omega); have hlw20_2 : w.heap.size ≤ w2.heap.size + 1 + 1 := (by omega); have hkw20 : w2.cell? ⟨w.heap.size, 0, none⟩ = some (.int .i64 c.fi) := (by rw [hb.cell (p := ⟨w.heap.size, 0, none⟩) (by first | (simp; done) | (simp; omega) | omega)]; first | (go_simp; done) | assumption); have hkw21 : w2.cell? ⟨w.heap.size, 1, none⟩ = some (.int .i64 c.ga) := (by rw [hb.cell (p := ⟨w.heap.size, 1, none⟩) (by first | (simp; done) | (simp; omega) | omega)]; first | (go_simp; done) | assumption); have hkw22 : w2.cell? ⟨w.heap.size, 2, none⟩ = some (.int .i64 c.to) := (by rw [hb.cell (p := ⟨w.heap.size, 2, none⟩) (by first | (simp; done) | (simp; omega) | omega)]; first | (go_simp; done) | assumption); have hkw23 : w2.cell? ⟨w.heap.size, 3, none⟩ = some (.int .i64 c.le) := (by rw [hb.cell (p := ⟨w.heap.size, 3, none⟩) (by first | (simp; done) | (simp; omega) | omega)]; first | (go_simp; done) | assumption); have hkw24 : w2.cell? ⟨w.heap.size, 4, none⟩ = some (.int .i64 c.la) := (by rw [hb.cell (p := ⟨w.heap.size, 4, none⟩) (by first | (simp; done) | (simp; omega) | omega)]; first | (go_simp; done) | assumption); have hkw25 : w2.cell? ⟨w.heap.size, 5, none⟩ = some (.int .i64 c.st) := (by rw [hb.cell (p := ⟨w.heap.size, 5, none⟩) (by first | (simp; done) | (simp; omega) | omega)]; first | (go_simp; done) | assumption); clear hb hB_w1 hlw10_0 hlw10_1 hlw10_2 hkw10 hkw11 hkw12 hkw13 hkw14 hkw15
        go_wp2
        go_loopw [28, 7] (fun i x wr => ∃ k : Nat, k ≤ n ∧ i = .int .i64 k ∧ x = .int .i64 (before ds k) ∧ Hid ((List.range k).all (stepX c l ds) = true) ∧ Below w2.heap.size w2 wr) (fun i _ _ => n - (intOf i).toNat)
        case atStart => exact ⟨0, Nat.zero_le _, rfl, rfl, Lib.hid rfl, Below.refl _ _⟩
        case round =>
          obtain ⟨k, hk, rfl, rfl, hT, hb⟩ := hrel
          have hb' := hb
          have hB0 : Below w.heap.size w wr := hB_w2.trans (hb.mono hB_w2.size)
          have hB_wr : Below w.heap.size w wr := (by repeat (first | exact Below.refl _ _ | assumption | refine Below.setCell ?_ (by first | (simp; done) | (simp; omega) | omega) _ | refine Below.drew ?_ | refine below_drewN ?_ _ | refine Below.alloc ?_ (by first | (simp; done) | (simp; omega) | omega) _ | refine below_alloc ?_ _ | refine below_step ?_ (by assumption))); have hz_wr := hB_wr.size; have hswr0 : w.heap.size < wr.heap.size := Nat.lt_of_lt_of_le (by first | (simp; done) | (simp; omega) | omega) hb.size; have hnwr0 : ¬ w.heap.size = wr.heap.size := (by omega); have hmwr0 : ¬ wr.heap.size = w.heap.size := (by omega); have hlwr0_0 : w.heap.size ≤ wr.heap.size := (by omega); have hlwr0_1 : w.heap.size ≤ wr.heap.size + 1 := (by omega); have hlwr0_2 : w.heap.size ≤ wr.heap.size + 1 + 1 := (by omega); have hkwr0 : wr.cell? ⟨w.heap.size, 0, none⟩ = some (.int .i64 c.fi) := (by rw [hb.cell (p := ⟨w.heap.size, 0, none⟩) (by first | (simp; done) | (simp; omega) | omega)]; first | (go_simp; done) | assumption); have hkwr1 : wr.cell? ⟨w.heap.size, 1, none⟩ = some (.int .i64 c.ga) := (by rw [hb.cell (p := ⟨w.heap.size, 1, none⟩) (by first | (simp; done) | (simp; omega) | omega)]; first | (go_simp; done) | assumption); have hkwr2 : wr.cell? ⟨w.heap.size, 2, none⟩ = some (.int .i64 c.to) := (by rw [hb.cell (p := ⟨w.heap.size, 2, none⟩) (by first | (simp; done) | (simp; omega) | omega)]; first | (go_simp; done) | assumption); have hkwr3 : wr.cell? ⟨w.heap.size, 3, none⟩ = some (.int .i64 c.le) := (by rw [hb.cell (p := ⟨w.heap.size, 3, none⟩) (by first | (simp; done) | (simp; omega) | omega)]; first | (go_simp; done) | assumption); have hkwr4 : wr.cell? ⟨w.heap.size, 4, none⟩ = some (.int .i64 c.la) := (by rw [hb.cell (p := ⟨w.heap.size, 4, none⟩) (by first | (simp; done) | (simp; omega) | omega)]; first | (go_simp; done) | assumption); have hkwr5 : wr.cell? ⟨w.heap.size, 5, none⟩ = some (.int .i64 c.st) := (by rw [hb.cell (p := ⟨w.heap.size, 5, none⟩) (by first | (simp; done) | (simp; omega) | omega)]; first | (go_simp; done) | assumption); clear hb hB_w2 hlw20_0 hlw20_1 hlw20_2 hkw20 hkw21 hkw22 hkw23 hkw24 hkw25
          by_cases hlt : k < n
          · obtain ⟨b, off, rfl, hb0, hc1⟩ := (HY.out.below hB0).at_ k hlt
            have hdk := HAS.out.1 k hlt
            obtain ⟨D, hD⟩ : ∃ D : Nat, num ds k = (D : Int) := ⟨_, (Int.toNat_of_nonneg hdk.1).symm⟩
            have hDl : D < len := by omega
            obtain ⟨b2, off2, rfl, hb2, hj1, hj2⟩ := (HX.out.below hB0).atJ D hDl
            change wr.cell? ⟨b, off + k, none⟩ = some (.int .i64 (num ds k)) at hc1
            rw [hD] at hc1
            have hst := HS.out k D hlt hD
            have hbf : before ds k < len := by
              unfold before
              split
              · omega
              · exact (HAS.out.1 (k - 1) (by omega)).2
            have c4 := fun W (h : Below w.heap.size w W) => C3.out (before ds k) D W h hbf hDl
            have hnx : before ds (k + 1) = (D : Int) := by unfold before; rw [if_neg (by omega), Nat.add_sub_cancel]; exact hD
            have HNX := Lib.hid hnx
            have HA := Lib.hid (fun hp => range_yes (p := stepX c l ds) hT.out hp)
            have HF := Lib.hid (fun hp => range_no (p := stepX c l ds) (show k < ds.length by rw [HY.out.1]; exact hlt) hp)
            generalize before ds k = bf at *
            generalize folB c l bf D = F at *
            generalize sndB l D = Y at *
            generalize hgt l D = X at *
            have hb1 : b < wr.heap.size := by omega
            have hb3 : b2 < wr.heap.size := by omega
            have hD1 : (D : Int) < len := by omega
            have hD2 : ¬ len ≤ D := by omega
            have C4 := Lib.hid c4
            clear c4 hnx hD hdk hT
            cases Y
            · have h4 := Lib.hid (HF.out hst)
              clear hst
              go_wp2
              go_ret
              exact ⟨ret_bool (by rw [HR.out, HL.out, ← HY.out.1, h4.out]; rfl), hB0⟩
            · cases F
              · have h4 := Lib.hid (HF.out hst)
                clear hst
                go_wp2_with fail
                refine (C4.out _ (by repeat (first | exact Below.refl _ _ | assumption | refine Below.setCell ?_ (by first | (simp; done) | (simp; omega) | omega) _ | refine Below.drew ?_ | refine below_drewN ?_ _ | refine Below.alloc ?_ (by first | (simp; done) | (simp; omega) | omega) _ | refine below_alloc ?_ _ | refine below_step ?_ (by assumption)))).mono ?_
                rintro e w4 ⟨rfl, hb⟩
                have hB_w4 : Below w.heap.size w w4 := (by repeat (first | exact Below.refl _ _ | assumption | refine Below.setCell ?_ (by first | (simp; done) | (simp; omega) | omega) _ | refine Below.drew ?_ | refine below_drewN ?_ _ | refine Below.alloc ?_ (by first | (simp; done) | (simp; omega) | omega) _ | refine below_alloc ?_ _ | refine below_step ?_ (by assumption))); have hz_w4 := hB_w4.size; clear hb
                go_wp2
                go_ret
                exact ⟨ret_bool (by rw [HR.out, HL.out, ← HY.out.1, h4.out]; rfl), (by repeat (first | exact Below.refl _ _ | assumption | refine Below.setCell ?_ (by first | (simp; done) | (simp; omega) | omega) _ | refine Below.drew ?_ | refine below_drewN ?_ _ | refine Below.alloc ?_ (by first | (simp; done) | (simp; omega) | omega) _ | refine below_alloc ?_ _ | refine below_step ?_ (by assumption)))⟩
              · have h4 := Lib.hid (HA.out hst)
                clear hst
                go_wp2_with fail
                refine (C4.out _ (by repeat (first | exact Below.refl _ _ | assumption | refine Below.setCell ?_ (by first | (simp; done) | (simp; omega) | omega) _ | refine Below.drew ?_ | refine below_drewN ?_ _ | refine Below.alloc ?_ (by first | (simp; done) | (simp; omega) | omega) _ | refine below_alloc ?_ _ | refine below_step ?_ (by assumption)))).mono ?_
                rintro e w4 ⟨rfl, hb⟩
                have hbq := hb
                have hB_w4 : Below w.heap.size w w4 := (by repeat (first | exact Below.refl _ _ | assumption | refine Below.setCell ?_ (by first | (simp; done) | (simp; omega) | omega) _ | refine Below.drew ?_ | refine below_drewN ?_ _ | refine Below.alloc ?_ (by first | (simp; done) | (simp; omega) | omega) _ | refine below_alloc ?_ _ | refine below_step ?_ (by assumption))); have hz_w4 := hB_w4.size; clear hb
                have hb5 : Below w2.heap.size w2 w4 := hb'.trans (hbq.mono hb'.size)
                clear hbq
                go_wp2
                go_roundw
                case rel => exact ⟨k + 1, by omega, by go_num, by rw [HNX.out], h4, hb5⟩
                case measure => simp [intOf]; omega
          · have hkn : k = n := by omega
            have hdk := HAS.out.1 (n - 1) (by omega)
            obtain ⟨D, hD⟩ : ∃ D : Nat, num ds (n - 1) = (D : Int) := ⟨_, (Int.toNat_of_nonneg hdk.1).symm⟩
            have hDl : D < len := by omega
            obtain ⟨b2, off2, rfl, hb2, hj1, hj2⟩ := (HX.out.below hB0).atJ D hDl
            have hbf : before ds k = (D : Int) := by unfold before; rw [if_neg (by omega), hkn]; exact hD
            have hfin : Hid (rightB c l ds = decide (c.to ≤ hgt l D + c.ga)) := Lib.hid (by
              have h5 := hT.out
              rw [hkn] at h5
              rw [HR.out, HL.out, h5, Bool.true_and, hD, hI_nat])
            have hbh := HVJ.out.2.1 D hDl
            have c5 := fun s W => last_any c (hgt l D) s W hbh hga
            generalize hgt l D = X at *
            generalize sndB l D = Y at *
            rw [hbf]
            have hb3 : b2 < wr.heap.size := by omega
            have hD1 : (D : Int) < len := by omega
            have hD2 : ¬ len ≤ D := by omega
            have C5 := Lib.hid c5
            clear c5 hbf hD hdk hT hkn
            go_wp2
            (refine wp_region_later (by kernel_rfl) (by kernel_rfl) ?_; (repeat (go_big_quiet_step ((go_at_call 25; exact later_call (C5.out _ _))))); refine wpQuiet_nil ?_)
            intro w4 hb
            go_wp2
            go_ret
            exact ⟨ret_bool hfin.out.symm, hB0.trans (hb.mono hB0.size)⟩
end Go.Proofs.Ytgapnhpmgidmhaa
