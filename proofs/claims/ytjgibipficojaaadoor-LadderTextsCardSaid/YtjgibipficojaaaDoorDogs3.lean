/- Dogs: follows, last, Right of both. -/
import Derived.Test.YtjgibipficojaaaDoorDogs2
import Derived.Test.YtjgibipficojaaaDoorNeed
set_option linter.unusedSimpArgs false
set_option linter.unusedVariables false
namespace Go.Proofs.YtjgibipficojaaaDoor
open Go.RowKit
attribute [local go_sem] Later.cell

theorem folB_neg {c : Clb} {l : List J} {b : Int} {d : Nat} (h : b < 0) : folB c l b d = decide (hgt l d ≤ c.fi) := if_pos h
theorem folB_nat (c : Clb) (l : List J) (b d : Nat) : folB c l (b : Int) d = (decide (b < d) && decide (hgt l d - hgt l b ≤ c.ga)) := by
  unfold folB
  rw [if_neg (by omega), hI_nat]
  congr 1
  exact decide_eq_decide.2 (by omega)
set_option maxHeartbeats 2000000 in
theorem follows_any (c : Clb) (A : Option Addr) (len cap : Nat) (l : List J) (b : Int) (d : Nat) (w : World) (hm : len ≤ 9223372036854775807) (hx : Rows 2 jointV dJ w w.heap.size A len l) (hh : ∀ k, k < len → 1 ≤ hgt l k ∧ hgt l k ≤ 200000)
    (hb : b < len) (hd : d < len) :
    Calls Tryd.prog 29 #[climbV c, .slice A len cap, .int .i64 b, .int .i64 d] w fun e w' => e = .returned (.bool (folB c l b d)) ∧ Below w.heap.size w w' := by
  obtain ⟨bl, off, rfl, hbl, hc1, hc2⟩ := hx.atJ d hd
  have hd1 : (d : Int) < len := by omega
  have hd2 : ¬ len ≤ d := by omega
  have hbh := hh d hd
  by_cases hneg : b < 0
  · have hv := folB_neg (c := c) (l := l) (d := d) hneg
    generalize folB c l b d = F at *
    generalize hgt l d = X at *
    generalize sndB l d = Y at *
    have HV := Lib.hid hv
    clear hv hx hh
    go_enter Tryd.func29, Tryd.ntmps29
    go_wp2
    (refine wp_region_later (by kernel_rfl) (by kernel_rfl) ?_; (repeat (go_big_quiet_step ((fail)))); refine wpQuiet_nil ?_)
    intro w1 hb
    go_wp2
    go_ret
    exact ⟨ret_bool (by rw [HV.out]), (by repeat (first | exact Below.refl _ _ | assumption | refine Below.setCell ?_ (by first | (simp; done) | (simp; omega) | omega) _ | refine Below.drew ?_ | refine below_drewN ?_ _ | refine Below.alloc ?_ (by first | (simp; done) | (simp; omega) | omega) _ | refine below_alloc ?_ _ | refine below_step ?_ (by assumption)))⟩
  · obtain ⟨B, rfl⟩ : ∃ B : Nat, b = (B : Int) := ⟨b.toNat, by omega⟩
    have hv := folB_nat c l B d
    obtain ⟨bl', off', he, _, hc3, hc4⟩ := hx.atJ B (by omega)
    cases he
    have hbB := hh B (by omega)
    have hB1 : (B : Int) < len := by omega
    have hB2 : ¬ len ≤ B := by omega
    generalize folB c l B d = F at *
    generalize hgt l d = X at *
    generalize sndB l d = Y at *
    generalize hgt l B = X' at *
    generalize sndB l B = Y' at *
    clear hx hh
    by_cases hlt : B < d
    · have HV : Hid (F = decide (X - X' ≤ c.ga)) := Lib.hid (by rw [hv, decide_eq_true hlt]; rfl)
      clear hv
      go_enter Tryd.func29, Tryd.ntmps29
      go_wp2
      (refine wp_region_later (by kernel_rfl) (by kernel_rfl) ?_; (repeat (go_big_quiet_step ((fail)))); refine wpQuiet_nil ?_)
      intro w1 hb
      go_wp2
      go_ret
      exact ⟨ret_bool (by rw [HV.out]), (by repeat (first | exact Below.refl _ _ | assumption | refine Below.setCell ?_ (by first | (simp; done) | (simp; omega) | omega) _ | refine Below.drew ?_ | refine below_drewN ?_ _ | refine Below.alloc ?_ (by first | (simp; done) | (simp; omega) | omega) _ | refine below_alloc ?_ _ | refine below_step ?_ (by assumption)))⟩
    · have HV : Hid (F = false) := Lib.hid (by rw [hv, decide_eq_false hlt]; rfl)
      have hlt' : decide ((B : Int) < (d : Int)) = false := decide_eq_false (by omega)
      have hlt2 : decide (B < d) = false := decide_eq_false hlt
      clear hv
      go_enter Tryd.func29, Tryd.ntmps29
      go_wp2
      (refine wp_region_later (by kernel_rfl) (by kernel_rfl) ?_; (repeat (go_big_quiet_step ((fail)))); refine wpQuiet_nil ?_)
      intro w1 hb
      go_wp2
      go_ret
      exact ⟨ret_bool (by rw [HV.out]), (by repeat (first | exact Below.refl _ _ | assumption | refine Below.setCell ?_ (by first | (simp; done) | (simp; omega) | omega) _ | refine Below.drew ?_ | refine below_drewN ?_ _ | refine Below.alloc ?_ (by first | (simp; done) | (simp; omega) | omega) _ | refine below_alloc ?_ _ | refine below_step ?_ (by assumption)))⟩
theorem last_any (c : Clb) (h : Int) (s : Bool) (w : World) (hh : 1 ≤ h ∧ h ≤ 200000) (hg : 1 ≤ c.ga ∧ c.ga ≤ 200000) :
    Calls Tryd.prog 34 #[climbV c, .agg #[.int .i64 h, .bool s]] w fun e w' => e = .returned (.bool (decide (c.to ≤ h + c.ga))) ∧ Below w.heap.size w w' := by
  go_enter Tryd.func34, Tryd.ntmps34
  go_wp2
  go_ret
  exact ⟨rfl, (by repeat (first | exact Below.refl _ _ | assumption | refine Below.setCell ?_ (by first | (simp; done) | (simp; omega) | omega) _ | refine Below.drew ?_ | refine below_drewN ?_ _ | refine Below.alloc ?_ (by first | (simp; done) | (simp; omega) | omega) _ | refine below_alloc ?_ _ | refine below_step ?_ (by assumption)))⟩

/-- The dog before the k-th one, -1 for the ground. -/
def before (ds : List Int) (k : Nat) : Int := if k = 0 then -1 else num ds (k - 1)
theorem stepX_fol {c : Clb} {l : List J} {ds : List Int} {k D : Nat} (hD : num ds k = (D : Int)) (hb : 0 < k → 0 ≤ num ds (k - 1) ∧ num ds (k - 1) < num ds k) : stepX c l ds k = (sndB l D && folB c l (before ds k) D) := by
  unfold stepX before
  rw [hD, sI_nat]
  congr 1
  by_cases hk : k = 0
  · subst hk
    rw [if_pos rfl, if_pos rfl, folB_neg (by decide), hD, hI_nat]
  · rw [if_neg hk, if_neg hk]
    have h2 := hb (by omega)
    unfold folB
    rw [if_neg (by omega), decide_eq_true (show num ds (k - 1) < D by omega), hI_nat, Bool.true_and]

end Go.Proofs.YtjgibipficojaaaDoor
