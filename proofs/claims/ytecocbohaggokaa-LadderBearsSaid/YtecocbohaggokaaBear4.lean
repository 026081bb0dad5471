/- What ladders bear: the program's Bears; the reference's height and greatest. -/
import Derived.Test.YtecocbohaggokaaBear3
import Derived.Test.YtecocbohaggokaaOnR
set_option linter.unusedSimpArgs false
set_option linter.unusedVariables false
namespace Go.Proofs.Ytecocbohaggokaa
open Go.RowKit
attribute [local go_sem] Later.cell

set_option maxHeartbeats 2000000 in
theorem Bears_any (c : Clb) (A : Option Addr) (len cap : Nat) (l : List J) (A' : Option Addr) (n cap' : Nat) (ds : List Int) (A2 : Option Addr) (m cap2 : Nat) (ls : List Int) (x : Int) (w : World) (hm : len ≤ 9223372036854775807) (hm' : n ≤ 100000) (hm2 : m ≤ 100000000) (hx : Rows 2 jointV dJ w w.heap.size A len l) (hy : Ints w w.heap.size A' n ds) (hz : Ints w w.heap.size A2 m ls) :
    Calls Try.prog 39 #[climbV c, .slice A len cap, .slice A' n cap', .slice A2 m cap2, .int .i64 x] w fun e w' => e = .returned (.tuple #[.bool (beV c l ds ls x), .int .i64 (beE c l ds ls x)]) ∧ Below w.heap.size w w' := by
  have c1 := fun W (h : Below w.heap.size w W) => bearing_any c A len cap l A' n cap' ds A2 m cap2 ls W hm hm' hm2 ((hx.below h).more h.size) ((hy.below h).more h.size) ((hz.below h).more h.size)
  have c2 := fun W => within_any x 0 1000000000 W
  have hE : bearE c l ds ls = if vC c && vJ l then (if setB c l ds ls then 0 else 10) else 1 := rfl
  have hE2 : beE c l ds ls x = if vC c && vJ l then (if withinB x 0 1000000000 then (if setB c l ds ls then 0 else 10) else 7) else 1 := rfl
  have hV : beV c l ds ls x = ((vC c && vJ l) && (withinB x 0 1000000000 && (setB c l ds ls && decide (x ≤ bearK c l ds ls ls.length)))) := rfl
  have hG : setB c l ds ls = true → bearG c l ds ls = bearK c l ds ls ls.length := fun h => by unfold bearG; rw [h]; rfl
  cases hv : (vC c && vJ l)
  · rw [hv] at hE hE2 hV
    change bearE c l ds ls = 1 at hE
    change beE c l ds ls x = 1 at hE2
    change beV c l ds ls x = false at hV
    rw [hE2, hV]
    rw [hE] at c1
    have C1 := Lib.hid c1
    clear c1 c2 hx hy hz hv hE hG hE2 hV
    go_enter Try.func39, Try.ntmps39
    go_wp2_with fail
    refine (C1.out _ (by repeat (first | exact Below.refl _ _ | assumption | refine Below.setCell ?_ (by first | (simp; done) | (simp; omega) | omega) _ | refine Below.drew ?_ | refine below_drewN ?_ _ | refine Below.alloc ?_ (by first | (simp; done) | (simp; omega) | omega) _ | refine below_alloc ?_ _ | refine below_step ?_ (by assumption)))).mono ?_
    rintro e w1 ⟨rfl, hb⟩
    have hB_w1 : Below w.heap.size w w1 := (by repeat (first | exact Below.refl _ _ | assumption | refine Below.setCell ?_ (by first | (simp; done) | (simp; omega) | omega) _ | refine Below.drew ?_ | refine below_drewN ?_ _ | refine Below.alloc ?_ (by first | (simp; done) | (simp; omega) | omega) _ | refine below_alloc ?_ _ | refine below_step ?_ (by assumption))); have hz_w1 := hB_w1.size; clear hb
    go_wp2
    go_ret2
    exact ⟨rfl, (by repeat (first | exact Below.refl _ _ | assumption | refine Below.setCell ?_ (by first | (simp; done) | (simp; omega) | omega) _ | refine Below.drew ?_ | refine below_drewN ?_ _ | refine Below.alloc ?_ (by first | (simp; done) | (simp; omega) | omega) _ | refine below_alloc ?_ _ | refine below_step ?_ (by assumption)))⟩
  · cases hw : withinB x 0 1000000000
    · rw [hw] at c2
      rw [hv, hw] at hE2 hV
      change beE c l ds ls x = 7 at hE2
      change beV c l ds ls x = false at hV
      rw [hv] at hE
      have hE3 : (bearE c l ds ls == 1) = false := by rw [hE, if_pos rfl]; split <;> rfl
      have hE4 : (bearE c l ds ls != 1) = true := by rw [hE, if_pos rfl]; split <;> rfl
      rw [hE2, hV]
      have C1 := Lib.hid c1
      have C2 := Lib.hid c2
      clear c1 c2 hx hy hz hv hE hG hE2 hV hw
      generalize bearE c l ds ls = E at *
      go_enter Try.func39, Try.ntmps39
      go_wp2_with fail
      refine (C1.out _ (by repeat (first | exact Below.refl _ _ | assumption | refine Below.setCell ?_ (by first | (simp; done) | (simp; omega) | omega) _ | refine Below.drew ?_ | refine below_drewN ?_ _ | refine Below.alloc ?_ (by first | (simp; done) | (simp; omega) | omega) _ | refine below_alloc ?_ _ | refine below_step ?_ (by assumption)))).mono ?_
      rintro e w1 ⟨rfl, hb⟩
      have hB_w1 : Below w.heap.size w w1 := (by repeat (first | exact Below.refl _ _ | assumption | refine Below.setCell ?_ (by first | (simp; done) | (simp; omega) | omega) _ | refine Below.drew ?_ | refine below_drewN ?_ _ | refine Below.alloc ?_ (by first | (simp; done) | (simp; omega) | omega) _ | refine below_alloc ?_ _ | refine below_step ?_ (by assumption))); have hz_w1 := hB_w1.size; clear hb
      go_wp2_with (go_at_call 53; refine (C2.out _).mono ?_; rintro e w' ⟨rfl, rfl⟩)
      go_ret2
      exact ⟨rfl, (by repeat (first | exact Below.refl _ _ | assumption | refine Below.setCell ?_ (by first | (simp; done) | (simp; omega) | omega) _ | refine Below.drew ?_ | refine below_drewN ?_ _ | refine Below.alloc ?_ (by first | (simp; done) | (simp; omega) | omega) _ | refine below_alloc ?_ _ | refine below_step ?_ (by assumption)))⟩
    · rw [hw] at c2
      rw [hv, hw] at hE2 hV
      rw [hv] at hE
      cases hs : setB c l ds ls
      · rw [hs] at hE hE2 hV
        change bearE c l ds ls = 10 at hE
        change beE c l ds ls x = 10 at hE2
        change beV c l ds ls x = false at hV
        rw [hE2, hV]
        rw [hE] at c1
        have C1 := Lib.hid c1
        have C2 := Lib.hid c2
        clear c1 c2 hx hy hz hv hE hG hE2 hV hs hw
        go_enter Try.func39, Try.ntmps39
        go_wp2_with fail
        refine (C1.out _ (by repeat (first | exact Below.refl _ _ | assumption | refine Below.setCell ?_ (by first | (simp; done) | (simp; omega) | omega) _ | refine Below.drew ?_ | refine below_drewN ?_ _ | refine Below.alloc ?_ (by first | (simp; done) | (simp; omega) | omega) _ | refine below_alloc ?_ _ | refine below_step ?_ (by assumption)))).mono ?_
        rintro e w1 ⟨rfl, hb⟩
        have hB_w1 : Below w.heap.size w w1 := (by repeat (first | exact Below.refl _ _ | assumption | refine Below.setCell ?_ (by first | (simp; done) | (simp; omega) | omega) _ | refine Below.drew ?_ | refine below_drewN ?_ _ | refine Below.alloc ?_ (by first | (simp; done) | (simp; omega) | omega) _ | refine below_alloc ?_ _ | refine below_step ?_ (by assumption))); have hz_w1 := hB_w1.size; clear hb
        go_wp2_with (go_at_call 53; refine (C2.out _).mono ?_; rintro e w' ⟨rfl, rfl⟩)
        go_ret2
        exact ⟨rfl, (by repeat (first | exact Below.refl _ _ | assumption | refine Below.setCell ?_ (by first | (simp; done) | (simp; omega) | omega) _ | refine Below.drew ?_ | refine below_drewN ?_ _ | refine Below.alloc ?_ (by first | (simp; done) | (simp; omega) | omega) _ | refine below_alloc ?_ _ | refine below_step ?_ (by assumption)))⟩
      · have hGG := hG hs
        rw [hs] at hE hE2 hV
        rw [← hGG] at hV
        change bearE c l ds ls = 0 at hE
        change beE c l ds ls x = 0 at hE2
        change beV c l ds ls x = decide (x ≤ bearG c l ds ls) at hV
        rw [hE2, hV]
        rw [hE] at c1
        generalize bearG c l ds ls = G at *
        have C1 := Lib.hid c1
        have C2 := Lib.hid c2
        clear c1 c2 hx hy hz hv hE hG hE2 hV hs hw hGG
        go_enter Try.func39, Try.ntmps39
        go_wp2_with fail
        refine (C1.out _ (by repeat (first | exact Below.refl _ _ | assumption | refine Below.setCell ?_ (by first | (simp; done) | (simp; omega) | omega) _ | refine Below.drew ?_ | refine below_drewN ?_ _ | refine Below.alloc ?_ (by first | (simp; done) | (simp; omega) | omega) _ | refine below_alloc ?_ _ | refine below_step ?_ (by assumption)))).mono ?_
        rintro e w1 ⟨rfl, hb⟩
        have hB_w1 : Below w.heap.size w w1 := (by repeat (first | exact Below.refl _ _ | assumption | refine Below.setCell ?_ (by first | (simp; done) | (simp; omega) | omega) _ | refine Below.drew ?_ | refine below_drewN ?_ _ | refine Below.alloc ?_ (by first | (simp; done) | (simp; omega) | omega) _ | refine below_alloc ?_ _ | refine below_step ?_ (by assumption))); have hz_w1 := hB_w1.size; clear hb
        go_wp2_with (go_at_call 53; refine (C2.out _).mono ?_; rintro e w' ⟨rfl, rfl⟩)
        go_ret2
        exact ⟨rfl, (by repeat (first | exact Below.refl _ _ | assumption | refine Below.setCell ?_ (by first | (simp; done) | (simp; omega) | omega) _ | refine Below.drew ?_ | refine below_drewN ?_ _ | refine Below.alloc ?_ (by first | (simp; done) | (simp; omega) | omega) _ | refine below_alloc ?_ _ | refine below_step ?_ (by assumption)))⟩
set_option maxHeartbeats 1000000 in
theorem Greatest_any (c : Clb) (A : Option Addr) (len cap : Nat) (l : List J) (A' : Option Addr) (n cap' : Nat) (ds : List Int) (A2 : Option Addr) (m cap2 : Nat) (ls : List Int) (w : World) (hm : len ≤ 9223372036854775807) (hm' : n ≤ 100000) (hm2 : m ≤ 100000000) (hx : Rows 2 jointV dJ w w.heap.size A len l) (hy : Ints w w.heap.size A' n ds) (hz : Ints w w.heap.size A2 m ls) :
    Calls Try.prog 41 #[climbV c, .slice A len cap, .slice A' n cap', .slice A2 m cap2] w fun e w' => e = .returned (.tuple #[.int .i64 (bearG c l ds ls), .int .i64 (bearE c l ds ls)]) ∧ Below w.heap.size w w' := by
  have c1 := fun W (h : Below w.heap.size w W) => bearing_any c A len cap l A' n cap' ds A2 m cap2 ls W hm hm' hm2 ((hx.below h).more h.size) ((hy.below h).more h.size) ((hz.below h).more h.size)
  generalize bearG c l ds ls = G at *
  generalize bearE c l ds ls = E at *
  have C1 := Lib.hid c1
  clear c1 hx hy hz
  go_enter Try.func41, Try.ntmps41
  go_wp2_with fail
  refine (C1.out _ (by repeat (first | exact Below.refl _ _ | assumption | refine Below.setCell ?_ (by first | (simp; done) | (simp; omega) | omega) _ | refine Below.drew ?_ | refine below_drewN ?_ _ | refine Below.alloc ?_ (by first | (simp; done) | (simp; omega) | omega) _ | refine below_alloc ?_ _ | refine below_step ?_ (by assumption)))).mono ?_
  rintro e w1 ⟨rfl, hb⟩
  have hB_w1 : Below w.heap.size w w1 := (by repeat (first | exact Below.refl _ _ | assumption | refine Below.setCell ?_ (by first | (simp; done) | (simp; omega) | omega) _ | refine Below.drew ?_ | refine below_drewN ?_ _ | refine Below.alloc ?_ (by first | (simp; done) | (simp; omega) | omega) _ | refine below_alloc ?_ _ | refine below_step ?_ (by assumption))); have hz_w1 := hB_w1.size; clear hb
  go_wp2
  go_ret2
  exact ⟨rfl, (by repeat (first | exact Below.refl _ _ | assumption | refine Below.setCell ?_ (by first | (simp; done) | (simp; omega) | omega) _ | refine Below.drew ?_ | refine below_drewN ?_ _ | refine Below.alloc ?_ (by first | (simp; done) | (simp; omega) | omega) _ | refine below_alloc ?_ _ | refine below_step ?_ (by assumption)))⟩

/-! ### The reference -/
set_option maxHeartbeats 2000000 in
theorem rheight_any (A : Option Addr) (len cap : Nat) (l : List J) (A' : Option Addr) (n cap' : Nat) (ds : List Int) (k : Nat) (w : World) (hm : len ≤ 9223372036854775807) (hm' : n ≤ 9223372036854775807) (hx : Rows 2 jointV dJ w w.heap.size A len l) (hy : Ints w w.heap.size A' n ds) (hok : WallOk l ds) (hk : k < n) :
    Calls Try.prog 71 #[.slice A len cap, .slice A' n cap', .int .i64 k] w fun e w' => e = .returned (.int .i64 (hD l ds k)) ∧ Below w.heap.size w w' := by
  obtain ⟨d, b, off, b', off', hd, rfl, hb0, rfl, hb0', hc', hc1⟩ := dog_at hx hy hok hk
  generalize hD l ds k = H at *
  have hd2 : (d : Int) < len := by omega
  have hk2 : (k : Int) < n := by omega
  clear hx hy hok
  go_enter Try.func71, Try.ntmps71
  go_wp2
  go_ret
  exact ⟨rfl, (by repeat (first | exact Below.refl _ _ | assumption | refine Below.setCell ?_ (by first | (simp; done) | (simp; omega) | omega) _ | refine Below.drew ?_ | refine below_drewN ?_ _ | refine Below.alloc ?_ (by first | (simp; done) | (simp; omega) | omega) _ | refine below_alloc ?_ _ | refine below_step ?_ (by assumption)))⟩

set_option maxRecDepth 20000 in
set_option maxHeartbeats 4000000 in
theorem greatest_any (c : Clb) (A : Option Addr) (len cap : Nat) (l : List J) (A' : Option Addr) (n cap' : Nat) (ds : List Int) (A2 : Option Addr) (m cap2 : Nat) (ls : List Int) (w : World) (hm : len ≤ 9223372036854775807) (hm' : n ≤ 100000) (hm2 : m ≤ 100000000) (hx : Rows 2 jointV dJ w w.heap.size A len l) (hy : Ints w w.heap.size A' n ds) (hz : Ints w w.heap.size A2 m ls) (hr : setB c l ds ls = true) :
    Calls Try.prog 67 #[climbV c, .slice A len cap, .slice A' n cap', .slice A2 m cap2] w fun e w' => e = .returned (.int .i64 (bearK c l ds ls m)) ∧ Below w.heap.size w w' := by
  have hvv := Bool.and_eq_true .. ▸ right_valid (set_right hr)
  have hwk := wall_ok (set_right hr)
  have hst := (vC_spec hvv.1).2.2.2.2.2
  have hsp := (set_spec hr).2
  rw [hz.1, hy.1] at hsp
  have c3 := fun f W (h : Below w.heap.size w W) (hf : f < n) => ron_any c A len cap l A' n cap' ds f W hvv.1 hm (by omega) ((hx.below h).more h.size) ((hy.below h).more h.size) hwk hf
  have hbd := fun k h => bearK_bd (c := c) (l := l) (ds := ds) (ls := ls) hst.1 (fun k hk => ((set_spec hr).2 k hk).2.2) k h
  rw [hz.1] at hbd
  have hnx : ∀ k, bearK c l ds ls (k + 1) = min (bearK c l ds ls k) (c.st * ((onN c l ds (num ls k).toNat : Int) - 1)) := fun k => rfl
  have hon : ∀ f, onN c l ds f = (onI c l ds f n).length := fun f => by unfold onN; rw [hy.1]
  have hole : ∀ f, onN c l ds f ≤ n := fun f => by have := onN_le c l ds f; rw [hy.1] at this; exact this
  have C3 := Lib.hid c3
  have HZ := Lib.hid hz
  have HSP := Lib.hid hsp
  have HBD := Lib.hid hbd
  have HNX := Lib.hid hnx
  have HON := Lib.hid hon
  have HOL := Lib.hid hole
  clear c3 hx hy hz hr hvv hwk hsp hbd hnx hon hole
  go_enter Try.func67, Try.ntmps67
  go_wp2
  go_loopw [10, 9] (fun i x wr => ∃ k : Nat, k ≤ m ∧ i = .int .i64 k ∧ x = .int .i64 (bearK c l ds ls k) ∧ Below (w.alloc (.cells #[.int .i64 c.fi, .int .i64 c.ga, .int .i64 c.to, .int .i64 c.le, .int .i64 c.la, .int .i64 c.st] 23)).heap.size (w.alloc (.cells #[.int .i64 c.fi, .int .i64 c.ga, .int .i64 c.to, .int .i64 c.le, .int .i64 c.la, .int .i64 c.st] 23)) wr) (fun i _ _ => m - (intOf i).toNat)
  case atStart => exact ⟨0, Nat.zero_le _, rfl, rfl, Below.refl _ _⟩
  case round =>
    obtain ⟨k, hk, rfl, rfl, hb⟩ := hrel
    have hb' := hb
    have hB0 : Below w.heap.size w wr := ((Below.refl _ _).alloc (Nat.le_refl _) _).trans (hb.mono (by simp))
    have hB0s := hB0.size
    have hB_wr : Below w.heap.size w wr := (by repeat (first | exact Below.refl _ _ | assumption | refine Below.setCell ?_ (by first | (simp; done) | (simp; omega) | omega) _ | refine Below.drew ?_ | refine below_drewN ?_ _ | refine Below.alloc ?_ (by first | (simp; done) | (simp; omega) | omega) _ | refine below_alloc ?_ _ | refine below_step ?_ (by assumption))); have hz_wr := hB_wr.size; have hswr0 : w.heap.size < wr.heap.size := Nat.lt_of_lt_of_le (by first | (simp; done) | (simp; omega) | omega) hb.size; have hnwr0 : ¬ w.heap.size = wr.heap.size := (by omega); have hmwr0 : ¬ wr.heap.size = w.heap.size := (by omega); have hlwr0_0 : w.heap.size ≤ wr.heap.size := (by omega); have hlwr0_1 : w.heap.size ≤ wr.heap.size + 1 := (by omega); have hlwr0_2 : w.heap.size ≤ wr.heap.size + 1 + 1 := (by omega); have hkwr0 : wr.cell? ⟨w.heap.size, 0, none⟩ = some (.int .i64 c.fi) := (by rw [hb.cell (p := ⟨w.heap.size, 0, none⟩) (by first | (simp; done) | (simp; omega) | omega)]; first | (go_simp; done) | assumption); have hkwr1 : wr.cell? ⟨w.heap.size, 1, none⟩ = some (.int .i64 c.ga) := (by rw [hb.cell (p := ⟨w.heap.size, 1, none⟩) (by first | (simp; done) | (simp; omega) | omega)]; first | (go_simp; done) | assumption); have hkwr2 : wr.cell? ⟨w.heap.size, 2, none⟩ = some (.int .i64 c.to) := (by rw [hb.cell (p := ⟨w.heap.size, 2, none⟩) (by first | (simp; done) | (simp; omega) | omega)]; first | (go_simp; done) | assumption); have hkwr3 : wr.cell? ⟨w.heap.size, 3, none⟩ = some (.int .i64 c.le) := (by rw [hb.cell (p := ⟨w.heap.size, 3, none⟩) (by first | (simp; done) | (simp; omega) | omega)]; first | (go_simp; done) | assumption); have hkwr4 : wr.cell? ⟨w.heap.size, 4, none⟩ = some (.int .i64 c.la) := (by rw [hb.cell (p := ⟨w.heap.size, 4, none⟩) (by first | (simp; done) | (simp; omega) | omega)]; first | (go_simp; done) | assumption); have hkwr5 : wr.cell? ⟨w.heap.size, 5, none⟩ = some (.int .i64 c.st) := (by rw [hb.cell (p := ⟨w.heap.size, 5, none⟩) (by first | (simp; done) | (simp; omega) | omega)]; first | (go_simp; done) | assumption); clear hb
    by_cases hlt : k < m
    · obtain ⟨b, off, rfl, hb0, hc1⟩ := (HZ.out.below hB0).at_ k hlt
      have hdk := HSP.out k hlt
      obtain ⟨D, hDe⟩ : ∃ D : Nat, num ls k = (D : Int) := ⟨_, (Int.toNat_of_nonneg hdk.1).symm⟩
      have hDl : D < n := by omega
      change wr.cell? ⟨b, off + k, none⟩ = some (.int .i64 (num ls k)) at hc1
      have hnx := HNX.out k
      have hol := HOL.out D
      have hbd := HBD.out k (by omega)
      rw [hDe, Int.toNat_natCast, HON.out] at hnx hdk
      rw [HON.out] at hol
      rw [hDe] at hc1
      have hdk2 := hdk.2.2
      have c4 := fun W (h : Below w.heap.size w W) => C3.out D W h hDl
      generalize onI c l ds D n = R at *
      generalize bearK c l ds ls k = G at *
      have C4 := Lib.hid c4
      have hb1 : b < wr.heap.size := by omega
      obtain ⟨q, hq⟩ : ∃ q : Nat, R.length = q + 1 := ⟨R.length - 1, by omega⟩
      have hp0 : 0 ≤ c.st * ((R.length : Int) - 1) := Int.mul_nonneg (by omega) (by omega)
      have hp1 : c.st * ((R.length : Int) - 1) ≤ 1000000 * ((R.length : Int) - 1) := Int.mul_le_mul_of_nonneg_right (by omega) (by omega)
      have hp2 : c.st * ((R.length : Int) - 1) ≤ 9223372036854775807 := by omega
      have hk1 : (k : Int) < m := by omega
      have hbd' : Below wr.heap.size wr wr.drew := (Below.refl _ _).drew
      by_cases hlg : c.st * ((R.length : Int) - 1) < G
      · have hmin : min G (c.st * ((R.length : Int) - 1)) = c.st * ((R.length : Int) - 1) := by omega
        rw [hmin] at hnx
        have HNX2 := Lib.hid hnx
        clear c4 hnx hDe hdk hp1 hq hmin
        go_wp2
        go_region_with (go_at_call 62; refine (C4.out _ (by repeat (first | exact Below.refl _ _ | assumption | refine Below.setCell ?_ (by first | (simp; done) | (simp; omega) | omega) _ | refine Below.drew ?_ | refine below_drewN ?_ _ | refine Below.alloc ?_ (by first | (simp; done) | (simp; omega) | omega) _ | refine below_alloc ?_ _ | refine below_step ?_ (by assumption)))).mono ?_; rintro e w5 ⟨⟨v5, rfl, ho5⟩, hb⟩; obtain ⟨A5, k5, rfl, hm5, hm6, -⟩ := own_ints ho5; clear ho5; have hbq := hbd'.trans (hb.mono (by simp)); have hB_w5 : Below w.heap.size w w5 := (by repeat (first | exact Below.refl _ _ | assumption | refine Below.setCell ?_ (by first | (simp; done) | (simp; omega) | omega) _ | refine Below.drew ?_ | refine below_drewN ?_ _ | refine Below.alloc ?_ (by first | (simp; done) | (simp; omega) | omega) _ | refine below_alloc ?_ _ | refine below_step ?_ (by assumption))); have hz_w5 := hB_w5.size; have hsw50 : w.heap.size < w5.heap.size := Nat.lt_of_lt_of_le (by first | (simp; done) | (simp; omega) | omega) hb.size; have hnw50 : ¬ w.heap.size = w5.heap.size := (by omega); have hmw50 : ¬ w5.heap.size = w.heap.size := (by omega); have hlw50_0 : w.heap.size ≤ w5.heap.size := (by omega); have hlw50_1 : w.heap.size ≤ w5.heap.size + 1 := (by omega); have hlw50_2 : w.heap.size ≤ w5.heap.size + 1 + 1 := (by omega); have hkw50 : w5.cell? ⟨w.heap.size, 0, none⟩ = some (.int .i64 c.fi) := (by rw [hb.cell (p := ⟨w.heap.size, 0, none⟩) (by first | (simp; done) | (simp; omega) | omega)]; first | (go_simp; done) | assumption); have hkw51 : w5.cell? ⟨w.heap.size, 1, none⟩ = some (.int .i64 c.ga) := (by rw [hb.cell (p := ⟨w.heap.size, 1, none⟩) (by first | (simp; done) | (simp; omega) | omega)]; first | (go_simp; done) | assumption); have hkw52 : w5.cell? ⟨w.heap.size, 2, none⟩ = some (.int .i64 c.to) := (by rw [hb.cell (p := ⟨w.heap.size, 2, none⟩) (by first | (simp; done) | (simp; omega) | omega)]; first | (go_simp; done) | assumption); have hkw53 : w5.cell? ⟨w.heap.size, 3, none⟩ = some (.int .i64 c.le) := (by rw [hb.cell (p := ⟨w.heap.size, 3, none⟩) (by first | (simp; done) | (simp; omega) | omega)]; first | (go_simp; done) | assumption); have hkw54 : w5.cell? ⟨w.heap.size, 4, none⟩ = some (.int .i64 c.la) := (by rw [hb.cell (p := ⟨w.heap.size, 4, none⟩) (by first | (simp; done) | (simp; omega) | omega)]; first | (go_simp; done) | assumption); have hkw55 : w5.cell? ⟨w.heap.size, 5, none⟩ = some (.int .i64 c.st) := (by rw [hb.cell (p := ⟨w.heap.size, 5, none⟩) (by first | (simp; done) | (simp; omega) | omega)]; first | (go_simp; done) | assumption); clear hb)
        all_goals
          have hb5 := hb'.trans (hbq.mono hb'.size)
          clear hbq
          go_wp2
          go_roundw
          case rel => exact ⟨k + 1, by omega, by go_num, by rw [HNX2.out], hb5⟩
          case measure => simp [intOf]; omega
      · have hmin : min G (c.st * ((R.length : Int) - 1)) = G := by omega
        rw [hmin] at hnx
        have HNX2 := Lib.hid hnx
        clear c4 hnx hDe hdk hp1 hq hmin
        go_wp2
        go_region_with (go_at_call 62; refine (C4.out _ (by repeat (first | exact Below.refl _ _ | assumption | refine Below.setCell ?_ (by first | (simp; done) | (simp; omega) | omega) _ | refine Below.drew ?_ | refine below_drewN ?_ _ | refine Below.alloc ?_ (by first | (simp; done) | (simp; omega) | omega) _ | refine below_alloc ?_ _ | refine below_step ?_ (by assumption)))).mono ?_; rintro e w5 ⟨⟨v5, rfl, ho5⟩, hb⟩; obtain ⟨A5, k5, rfl, hm5, hm6, -⟩ := own_ints ho5; clear ho5; have hbq := hbd'.trans (hb.mono (by simp)); have hB_w5 : Below w.heap.size w w5 := (by repeat (first | exact Below.refl _ _ | assumption | refine Below.setCell ?_ (by first | (simp; done) | (simp; omega) | omega) _ | refine Below.drew ?_ | refine below_drewN ?_ _ | refine Below.alloc ?_ (by first | (simp; done) | (simp; omega) | omega) _ | refine below_alloc ?_ _ | refine below_step ?_ (by assumption))); have hz_w5 := hB_w5.size; have hsw50 : w.heap.size < w5.heap.size := Nat.lt_of_lt_of_le (by first | (simp; done) | (simp; omega) | omega) hb.size; have hnw50 : ¬ w.heap.size = w5.heap.size := (by omega); have hmw50 : ¬ w5.heap.size = w.heap.size := (by omega); have hlw50_0 : w.heap.size ≤ w5.heap.size := (by omega); have hlw50_1 : w.heap.size ≤ w5.heap.size + 1 := (by omega); have hlw50_2 : w.heap.size ≤ w5.heap.size + 1 + 1 := (by omega); have hkw50 : w5.cell? ⟨w.heap.size, 0, none⟩ = some (.int .i64 c.fi) := (by rw [hb.cell (p := ⟨w.heap.size, 0, none⟩) (by first | (simp; done) | (simp; omega) | omega)]; first | (go_simp; done) | assumption); have hkw51 : w5.cell? ⟨w.heap.size, 1, none⟩ = some (.int .i64 c.ga) := (by rw [hb.cell (p := ⟨w.heap.size, 1, none⟩) (by first | (simp; done) | (simp; omega) | omega)]; first | (go_simp; done) | assumption); have hkw52 : w5.cell? ⟨w.heap.size, 2, none⟩ = some (.int .i64 c.to) := (by rw [hb.cell (p := ⟨w.heap.size, 2, none⟩) (by first | (simp; done) | (simp; omega) | omega)]; first | (go_simp; done) | assumption); have hkw53 : w5.cell? ⟨w.heap.size, 3, none⟩ = some (.int .i64 c.le) := (by rw [hb.cell (p := ⟨w.heap.size, 3, none⟩) (by first | (simp; done) | (simp; omega) | omega)]; first | (go_simp; done) | assumption); have hkw54 : w5.cell? ⟨w.heap.size, 4, none⟩ = some (.int .i64 c.la) := (by rw [hb.cell (p := ⟨w.heap.size, 4, none⟩) (by first | (simp; done) | (simp; omega) | omega)]; first | (go_simp; done) | assumption); have hkw55 : w5.cell? ⟨w.heap.size, 5, none⟩ = some (.int .i64 c.st) := (by rw [hb.cell (p := ⟨w.heap.size, 5, none⟩) (by first | (simp; done) | (simp; omega) | omega)]; first | (go_simp; done) | assumption); clear hb)
        all_goals
          have hb5 := hb'.trans (hbq.mono hb'.size)
          clear hbq
          go_wp2
          go_roundw
          case rel => exact ⟨k + 1, by omega, by go_num, by rw [HNX2.out], hb5⟩
          case measure => simp [intOf]; omega
    · obtain rfl : k = m := by omega
      go_wp2
      go_ret
      exact ⟨rfl, hB0⟩
end Go.Proofs.Ytecocbohaggokaa
