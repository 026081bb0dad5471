/- Plans: the day after the last one, the program's and the reference's; Length. -/
import Derived.Test.YtgijekhlbkfanaaJobQ4
set_option linter.unusedSimpArgs false
set_option linter.unusedVariables false
namespace Go.Proofs.Ytgijekhlbkfanaa
open Go.RowKit Go.Maps
attribute [local go_sem] Later.cell Same.cell

set_option maxRecDepth 20000 in
set_option maxHeartbeats 8000000 in
theorem ends_any (A : Option Addr) (len cap : Nat) (l : List Tk) (A' : Option Addr) (cap' : Nat) (days : List Int) (w : World) (hP : okP l) (hx : Plan w w.heap.size A len l) (hy : Ints w w.heap.size A' len days) (hd : bdE 1000000 days) :
    Calls Try.prog 67 #[.slice A len cap, .slice A' len cap'] w fun e w' => e = .returned (.int .i64 (endsV l days)) ∧ Below w.heap.size w w' := by
  obtain rfl : l.length = len := hx.1
  have hL := hP.len
  have HX := Lib.hid hx
  have HY := Lib.hid hy
  have HP := Lib.hid hP
  have HM := Lib.hid (fun k hk => mxs_bd hP hd k hk)
  have HN := Lib.hid (fun k => mxs_next l days k)
  have HD := Lib.hid hd
  have hE : endsV l days = mxs l days 0 (List.range l.length) := rfl
  rw [hE]
  clear hx hy hP hd hE
  go_enter Try.func67, Try.ntmps67
  go_wp2
  go_loopw [5, 10] (fun v i W => ∃ k : Nat, k ≤ l.length ∧ i = .int .i64 k ∧ v = .int .i64 (mxs l days 0 (List.range k)) ∧ Below w.heap.size w W) (fun _ i _ => l.length - (intOf i).toNat)
  case atStart => exact ⟨0, Nat.zero_le _, rfl, rfl, Below.refl _ _⟩
  case round =>
    obtain ⟨k, hk, rfl, rfl, hB⟩ := hrel
    have hbs := hB.size
    by_cases hlt : k < l.length
    · obtain ⟨b, off, rfl, hb0, hc1, hc2, hc3, A'', n, cc, hc4, -, -, -⟩ := (HX.out.below hB).at_ k hlt
      obtain ⟨b2, off2, rfl, hb2, hc6⟩ := (HY.out.below hB).at_ k hlt
      change wr.cell? _ = some (.int .i64 (gI days k)) at hc6
      have hk1 : (k : Int) < l.length := by omega
      have hk2 : ¬ l.length ≤ k := by omega
      have hb1 : b < wr.heap.size := by omega
      have hb3 : b2 < wr.heap.size := by omega
      have hm := HM.out k (by omega)
      have hnx := HN.out k
      have hda := dy_bd HP.out hlt
      have hdg := HD.out k
      unfold imax dyA at hnx
      change 1 ≤ (tkA l k).dy ∧ (tkA l k).dy ≤ 1000 at hda
      generalize (tkA l k).nm = X at *
      generalize (tkA l k).dy = Y at *
      generalize (tkA l k).mn = Z at *
      generalize gI days k = G at *
      generalize mxs l days 0 (List.range k) = M at *
      have hwr : wrap64 (G + Y) = G + Y := IntWalk.wrap64_in _ ⟨by omega, by omega⟩
      have HNX := Lib.hid hnx
      clear hnx
      go_wp2
      (refine wp_region_later (by kernel_rfl) (by kernel_rfl) ?_; (repeat (go_big_quiet_step ((fail)))); refine wpQuiet_nil ?_)
      intro w3 hb3
      have hB3 : Below w.heap.size w w3 := by first | exact (hB.alloc hbs _).trans (hb3.mono (by simp; omega)) | exact hB.trans (hb3.mono hbs)
      go_wp2
      go_roundw
      case rel => exact ⟨k + 1, by omega, by go_num, by rw [HNX.out], hB3⟩
      case measure => simp [intOf]; omega
    · have hkl : k = l.length := by omega
      have hk1 : ¬ (k : Int) < l.length := by omega
      have HB := Lib.hid hB
      subst hkl
      clear hB
      go_wp2
      go_ret
      exact ⟨rfl, HB.out⟩
set_option maxRecDepth 20000 in
set_option maxHeartbeats 8000000 in
theorem rends_any (A : Option Addr) (len cap : Nat) (l : List Tk) (A' : Option Addr) (cap' : Nat) (days : List Int) (w : World) (hP : okP l) (hx : Plan w w.heap.size A len l) (hy : Ints w w.heap.size A' len days) (hd : bdE 1000000 days) :
    Calls Try.prog 78 #[.slice A len cap, .slice A' len cap'] w fun e w' => e = .returned (.int .i64 (endsV l days)) ∧ Below w.heap.size w w' := by
  obtain rfl : l.length = len := hx.1
  have hL := hP.len
  have HX := Lib.hid hx
  have HY := Lib.hid hy
  have HP := Lib.hid hP
  have HM := Lib.hid (fun k hk => mxs_bd hP hd k hk)
  have HN := Lib.hid (fun k => mxs_next l days k)
  have HD := Lib.hid hd
  have hE : endsV l days = mxs l days 0 (List.range l.length) := rfl
  rw [hE]
  clear hx hy hP hd hE
  go_enter Try.func78, Try.ntmps78
  go_wp2
  go_loopw [5, 6] (fun v i W => ∃ k : Nat, k ≤ l.length ∧ i = .int .i64 k ∧ v = .int .i64 (mxs l days 0 (List.range k)) ∧ Below w.heap.size w W) (fun _ i _ => l.length - (intOf i).toNat)
  case atStart => exact ⟨0, Nat.zero_le _, rfl, rfl, Below.refl _ _⟩
  case round =>
    obtain ⟨k, hk, rfl, rfl, hB⟩ := hrel
    have hbs := hB.size
    by_cases hlt : k < l.length
    · obtain ⟨b, off, rfl, hb0, hc1, hc2, hc3, A'', n, cc, hc4, -, -, -⟩ := (HX.out.below hB).at_ k hlt
      obtain ⟨b2, off2, rfl, hb2, hc6⟩ := (HY.out.below hB).at_ k hlt
      change wr.cell? _ = some (.int .i64 (gI days k)) at hc6
      have hk1 : (k : Int) < l.length := by omega
      have hk2 : ¬ l.length ≤ k := by omega
      have hb1 : b < wr.heap.size := by omega
      have hb3 : b2 < wr.heap.size := by omega
      have hm := HM.out k (by omega)
      have hnx := HN.out k
      have hda := dy_bd HP.out hlt
      have hdg := HD.out k
      unfold imax dyA at hnx
      change 1 ≤ (tkA l k).dy ∧ (tkA l k).dy ≤ 1000 at hda
      generalize (tkA l k).nm = X at *
      generalize (tkA l k).dy = Y at *
      generalize (tkA l k).mn = Z at *
      generalize gI days k = G at *
      generalize mxs l days 0 (List.range k) = M at *
      have hwr : wrap64 (G + Y) = G + Y := IntWalk.wrap64_in _ ⟨by omega, by omega⟩
      by_cases hc : M < G + Y
      · rw [if_pos hc] at hnx
        have HNX := Lib.hid hnx
        clear hnx
        go_wp2
        (refine wp_region_later (by kernel_rfl) (by kernel_rfl) ?_; (repeat (go_big_quiet_step ((fail)))); refine wpQuiet_nil ?_)
        intro w3 hb3
        have hB3 : Below w.heap.size w w3 := hB.trans (hb3.mono hbs)
        go_wp2
        go_roundw
        case rel => exact ⟨k + 1, by omega, by go_num, by rw [HNX.out], hB3⟩
        case measure => simp [intOf]; omega
      · rw [if_neg hc] at hnx
        have HNX := Lib.hid hnx
        clear hnx
        go_wp2
        (refine wp_region_later (by kernel_rfl) (by kernel_rfl) ?_; (repeat (go_big_quiet_step ((fail)))); refine wpQuiet_nil ?_)
        intro w3 hb3
        have hB3 : Below w.heap.size w w3 := hB.trans (hb3.mono hbs)
        go_wp2
        go_roundw
        case rel => exact ⟨k + 1, by omega, by go_num, by rw [HNX.out], hB3⟩
        case measure => simp [intOf]; omega
    · have hkl : k = l.length := by omega
      have hk1 : ¬ (k : Int) < l.length := by omega
      have HB := Lib.hid hB
      subst hkl
      clear hB
      go_wp2
      go_ret
      exact ⟨rfl, HB.out⟩
theorem ear_bdE {l : List Tk} (h : okP l) : bdE 1000000 (ear l) := bdE_mono (ear_bd h) (by omega)
def lenE (l : List Tk) : Int := if checkE l = 0 then lenV l else 0
set_option maxRecDepth 20000 in
set_option maxHeartbeats 8000000 in
theorem Length_any (A : Option Addr) (len cap : Nat) (l : List Tk) (w : World) (hS : Sml l) (hx : Plan w w.heap.size A len l) :
    Calls Try.prog 24 #[.slice A len cap] w fun e w' => e = .returned (.tuple #[.int .i64 (lenE l), .int .i64 (checkE l)]) ∧ Below w.heap.size w w' := by
  have hl := hx.1
  have c1 := Check_any A len cap l w hS hx
  have hE : lenE l = if checkE l = 0 then lenV l else 0 := rfl
  by_cases h0 : checkE l = 0
  · have hP := check_spec h0
    have c2 := fun W (h : Below w.heap.size w W) => earliest_any A len cap l W hS hP (hx.go h)
    have c3 := fun A' cap' W (h : Below w.heap.size w W) (hy : Ints W W.heap.size A' len (ear l)) => ends_any A len cap l A' cap' (ear l) W hP (hx.go h) hy (ear_bdE hP)
    rw [if_pos h0] at hE
    rw [h0] at c1
    rw [h0, hE]
    change ∀ A' cap' W _ _, Calls _ _ _ _ (fun e w' => e = .returned (.int .i64 (lenV l)) ∧ _) at c3
    generalize lenV l = L at *
    have C1 := Lib.hid c1
    have C2 := Lib.hid c2
    have C3 := Lib.hid c3
    clear c1 c2 c3 hx hE h0 hP hl
    go_enter Try.func24, Try.ntmps24
    go_wp2_with fail
    refine C1.out.mono ?_
    rintro e w1 ⟨rfl, hb⟩
    have hB_w1 : Below w.heap.size w w1 := (by repeat (first | exact Below.refl _ _ | assumption | refine Below.setCell ?_ (by first | (simp; done) | (simp; omega) | omega) _ | refine Below.drew ?_ | refine below_drewN ?_ _ | refine Below.alloc ?_ (by first | (simp; done) | (simp; omega) | omega) _ | refine below_alloc ?_ _ | refine below_step ?_ (by assumption))); have hz_w1 := hB_w1.size; clear hb
    go_wp2_with fail
    refine (C2.out _ hB_w1).mono ?_
    rintro e w2 ⟨⟨v, rfl, ho⟩, hb⟩
    obtain ⟨A1, cap1, rfl, hq1, hq2, hI, -⟩ := own_ints ho
    have HI := Lib.hid hI
    clear ho hI
    have hB_w2 : Below w.heap.size w w2 := (by repeat (first | exact Below.refl _ _ | assumption | refine Below.setCell ?_ (by first | (simp; done) | (simp; omega) | omega) _ | refine Below.drew ?_ | refine below_drewN ?_ _ | refine Below.alloc ?_ (by first | (simp; done) | (simp; omega) | omega) _ | refine below_alloc ?_ _ | refine below_step ?_ (by assumption))); have hz_w2 := hB_w2.size; clear hb hB_w1
    go_wp2_with fail
    refine (C3.out A1 cap1 _ hB_w2 HI.out).mono ?_
    rintro e w3 ⟨rfl, hb⟩
    have hB_w3 : Below w.heap.size w w3 := (by repeat (first | exact Below.refl _ _ | assumption | refine Below.setCell ?_ (by first | (simp; done) | (simp; omega) | omega) _ | refine Below.drew ?_ | refine below_drewN ?_ _ | refine Below.alloc ?_ (by first | (simp; done) | (simp; omega) | omega) _ | refine below_alloc ?_ _ | refine below_step ?_ (by assumption))); have hz_w3 := hB_w3.size; clear hb hB_w2
    go_wp2
    go_ret2
    exact ⟨rfl, (by repeat (first | exact Below.refl _ _ | assumption | refine Below.setCell ?_ (by first | (simp; done) | (simp; omega) | omega) _ | refine Below.drew ?_ | refine below_drewN ?_ _ | refine Below.alloc ?_ (by first | (simp; done) | (simp; omega) | omega) _ | refine below_alloc ?_ _ | refine below_step ?_ (by assumption)))⟩
  · rw [if_neg h0] at hE
    rw [hE]
    have hne : (checkE l == 0) = false := by simpa using h0
    generalize checkE l = E at *
    have C1 := Lib.hid c1
    clear c1 hx hE h0
    go_enter Try.func24, Try.ntmps24
    go_wp2_with fail
    refine C1.out.mono ?_
    rintro e w1 ⟨rfl, hb⟩
    have hB_w1 : Below w.heap.size w w1 := (by repeat (first | exact Below.refl _ _ | assumption | refine Below.setCell ?_ (by first | (simp; done) | (simp; omega) | omega) _ | refine Below.drew ?_ | refine below_drewN ?_ _ | refine Below.alloc ?_ (by first | (simp; done) | (simp; omega) | omega) _ | refine below_alloc ?_ _ | refine below_step ?_ (by assumption))); have hz_w1 := hB_w1.size; clear hb
    go_wp2
    go_ret2
    exact ⟨rfl, (by repeat (first | exact Below.refl _ _ | assumption | refine Below.setCell ?_ (by first | (simp; done) | (simp; omega) | omega) _ | refine Below.drew ?_ | refine below_drewN ?_ _ | refine Below.alloc ?_ (by first | (simp; done) | (simp; omega) | omega) _ | refine below_alloc ?_ _ | refine below_step ?_ (by assumption)))⟩
end Go.Proofs.Ytgijekhlbkfanaa
