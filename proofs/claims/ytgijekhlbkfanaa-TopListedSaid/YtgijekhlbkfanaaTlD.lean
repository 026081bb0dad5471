/- Joined by merge.py from: JobB1 JobB2 MixB JobB3 TopL0 LListed. -/
import Derived.Test.YtgijekhlbkfanaaTlA
import Derived.Test.YtgijekhlbkfanaaJobR4
import Derived.Test.YtgijekhlbkfanaaMix
import Derived.Test.YtgijekhlbkfanaaJobQ8
import Derived.Test.YtgijekhlbkfanaaTlC
import Derived.Test.YtgijekhlbkfanaaOpenT
set_option linter.unusedSimpArgs false
set_option linter.unusedVariables false
namespace Go.Proofs.Ytgijekhlbkfanaa
open Go.RowKit Go.Shelf
attribute [local go_sem] Later.cell Same.cell

set_option maxRecDepth 20000 in
set_option maxHeartbeats 2000000 in
theorem dated_any (A : Option Addr) (len cap : Nat) (l : List Tk) (A' : Option Addr) (len' cap' : Nat) (days : List Int) (w : World) (hm : len ≤ 9223372036854775807) (hm' : len' ≤ 9223372036854775807) (hl : l.length = len) (hx : Ints w w.heap.size A' len' days) :
    Calls Try.prog 99 #[.slice A len cap, .slice A' len' cap'] w fun e w' => e = .returned (.bool (bgB l days)) ∧ w = w' := by
  obtain rfl : days.length = len' := hx.1
  subst hl
  have HB : Hid (bgB l days = (decide (days.length = l.length) && dysB days)) := Lib.hid rfl
  generalize bgB l days = M at *
  have HX := Lib.hid hx
  clear hx
  go_enter Try.func99, Try.ntmps99
  by_cases h : days.length = l.length
  · have h1 : (days.length : Int) = l.length := by omega
    have h2 : ((days.length : Int) == (l.length : Int)) = true := by simpa using h1
    rw [decide_eq_true h, Bool.true_and] at HB
    clear h
    go_wp2
    go_loopw [5] (fun i W => ∃ k : Nat, k ≤ days.length ∧ i = .int .i64 k ∧ Hid (∀ j, j < k → wi (gI days j) 0 100000 = true) ∧ w = W) (fun i _ => days.length - (intOf i).toNat)
    case atStart => exact ⟨0, Nat.zero_le _, rfl, Lib.hid (fun j hj => absurd hj (by omega)), rfl⟩
    case round =>
      obtain ⟨k, hk, rfl, hT, rfl⟩ := hrel
      by_cases hlt : k < days.length
      · obtain ⟨b, off, rfl, hb0, hc1⟩ := HX.out.at_ k hlt
        change w.cell? _ = some (.int .i64 (gI days k)) at hc1
        have c2 := qwithin_any (gI days k) 0 100000 w
        have hk1 : (k : Int) < days.length := by omega
        have hk2 : ¬ days.length ≤ k := by omega
        cases hv : wi (gI days k) 0 100000
        · have HF : Hid (false = M) := Lib.hid (by rw [HB.out, dysB_no hlt hv])
          rw [hv] at c2
          generalize gI days k = X at *
          have C2 := Lib.hid c2
          clear c2 hT hv HB
          go_wp2_with fail
          refine C2.out.mono ?_
          rintro e w1 ⟨rfl, rfl⟩
          go_wp2
          go_ret
          exact ⟨ret_bool HF.out, rfl⟩
        · have hT2 : Hid (∀ j, j < k + 1 → wi (gI days j) 0 100000 = true) := Lib.hid (fun j hj => if e : j = k then (by rw [e]; exact hv) else hT.out j (by omega))
          rw [hv] at c2
          generalize gI days k = X at *
          have C2 := Lib.hid c2
          clear c2 hT hv
          go_wp2_with fail
          refine C2.out.mono ?_
          rintro e w1 ⟨rfl, rfl⟩
          go_wp2
          go_roundw
          case rel => exact ⟨k + 1, by omega, by go_num, hT2, by first | rfl | trivial⟩
          case measure => simp [intOf]; omega
      · have hk1 : ¬ (k : Int) < days.length := by omega
        have HF : Hid (true = M) := Lib.hid (by rw [HB.out, dysB_yes fun j hj => hT.out j (by omega)])
        clear hT HB
        go_wp2
        go_ret
        exact ⟨ret_bool HF.out, rfl⟩
  · have HF : Hid (false = M) := Lib.hid (by rw [HB.out, decide_eq_false h, Bool.false_and])
    have h2 : ((days.length : Int) == (l.length : Int)) = false := by simpa using (show ¬ (days.length : Int) = l.length by omega)
    clear HB
    go_wp2
    go_ret
    exact ⟨ret_bool HF.out, rfl⟩
set_option maxRecDepth 20000 in
set_option maxHeartbeats 8000000 in
theorem rmen_any (A : Option Addr) (len cap : Nat) (l : List Tk) (A' : Option Addr) (cap' : Nat) (days : List Int) (e0 : Int) (w : World) (hP : okP l) (hx : Plan w w.heap.size A len l) (hy : Ints w w.heap.size A' len days) (hd : bdE 1000000 days) :
    Calls Try.prog 100 #[.slice A len cap, .slice A' len cap', .int .i64 e0] w fun e w' => e = .returned (.int .i64 (menV l days e0)) ∧ Below w.heap.size w w' := by
  obtain rfl : l.length = len := hx.1
  have hL := hP.len
  have HX := Lib.hid hx
  have HY := Lib.hid hy
  have HP := Lib.hid hP
  have HM := Lib.hid (fun k hk => mnG_bd hP days e0 k hk)
  have HD := Lib.hid hd
  rw [menV_is]
  clear hx hy hP hd
  go_enter Try.func100, Try.ntmps100
  go_wp2
  go_loopw [7, 8] (fun v i W => ∃ k : Nat, k ≤ l.length ∧ i = .int .i64 (k : Int) ∧ v = .int .i64 (sN (mnG l days e0) k) ∧ Below w.heap.size w W) (fun _ i _ => l.length - (intOf i).toNat)
  case atStart => exact ⟨0, Nat.zero_le _, rfl, rfl, Below.refl _ _⟩
  case round =>
    obtain ⟨k, hk, rfl, rfl, hB⟩ := hrel
    have hbs := hB.size
    by_cases hlt : k < l.length
    · obtain ⟨b, off, rfl, hb0, hc1, hc2, hc3, -⟩ := (HX.out.below hB).at_ k hlt
      obtain ⟨b2, off2, rfl, hb2, hc6⟩ := (HY.out.below hB).at_ k hlt
      change wr.cell? _ = some (.int .i64 (gI days k)) at hc6
      have hk1 : (k : Int) < l.length := by omega
      have hk2 : ¬ l.length ≤ k := by omega
      have hb1 : b < wr.heap.size := by omega
      have hb3 : b2 < wr.heap.size := by omega
      have hm := HM.out k (by omega)
      have hnx : sN (mnG l days e0) (k + 1) = sN (mnG l days e0) k + mnG l days e0 k := rfl
      have hda := dy_bd HP.out hlt
      have hmz := mnA_bd HP.out hlt
      have hdg := HD.out k
      rw [show mnG l days e0 k = if gI days k ≤ e0 ∧ e0 < gI days k + (tkA l k).dy then (tkA l k).mn else 0 from rfl] at hnx
      change 1 ≤ (tkA l k).dy ∧ (tkA l k).dy ≤ 1000 at hda
      change 1 ≤ (tkA l k).mn ∧ (tkA l k).mn ≤ 16 at hmz
      generalize (tkA l k).dy = Y at *
      generalize (tkA l k).mn = Z at *
      generalize gI days k = G at *
      generalize sN (mnG l days e0) k = M at *
      have hwr : wrap64 (G + Y) = G + Y := IntWalk.wrap64_in _ ⟨by omega, by omega⟩
      have hwr3 : wrap64 (M + Z) = M + Z := IntWalk.wrap64_in _ ⟨by omega, by omega⟩
      by_cases hin : G ≤ e0
      · have hd1 : decide (G ≤ e0) = true := decide_eq_true hin
        by_cases hin2 : e0 < G + Y
        · have HNX : Hid (sN (mnG l days e0) (k + 1) = M + Z) := Lib.hid (by rw [hnx, if_pos ⟨hin, hin2⟩])
          have hd2 : decide (e0 < G + Y) = true := decide_eq_true hin2
          clear hnx hc1
          go_wp2_with fail
          (refine wp_region_later (by kernel_rfl) (by kernel_rfl) ?_; (repeat (go_big_quiet_step ((fail)))); refine wpQuiet_nil ?_)
          intro w3 hb3'
          have t2 := (hb3'.cell (p := ⟨b, off + k * 4 + 2, none⟩) hb1).trans hc3
          have hB3 : Below w.heap.size w w3 := hB.trans (hb3'.mono hbs)
          clear hb3' hc3 hc2 hc6
          go_wp2
          go_roundw
          case rel => exact ⟨k + 1, by omega, by go_num, by rw [HNX.out], hB3⟩
          case measure => simp [intOf]; omega
        · have HNX : Hid (sN (mnG l days e0) (k + 1) = M) := Lib.hid (by rw [hnx, if_neg (fun hh => hin2 hh.2)]; omega)
          have hd2 : decide (e0 < G + Y) = false := decide_eq_false hin2
          clear hnx hc1
          go_wp2_with fail
          (refine wp_region_later (by kernel_rfl) (by kernel_rfl) ?_; (repeat (go_big_quiet_step ((fail)))); refine wpQuiet_nil ?_)
          intro w3 hb3'
          have hB3 : Below w.heap.size w w3 := hB.trans (hb3'.mono hbs)
          clear hb3' hc3 hc2 hc6
          go_wp2
          go_roundw
          case rel => exact ⟨k + 1, by omega, by go_num, by rw [HNX.out], hB3⟩
          case measure => simp [intOf]; omega
      · have HNX : Hid (sN (mnG l days e0) (k + 1) = M) := Lib.hid (by rw [hnx, if_neg (fun hh => hin hh.1)]; omega)
        have hd1 : decide (G ≤ e0) = false := decide_eq_false hin
        clear hnx hc1
        go_wp2_with fail
        (refine wp_region_later (by kernel_rfl) (by kernel_rfl) ?_; (repeat (go_big_quiet_step ((fail)))); refine wpQuiet_nil ?_)
        intro w3 hb3'
        have hB3 : Below w.heap.size w w3 := hB.trans (hb3'.mono hbs)
        clear hb3' hc3 hc2 hc6
        go_wp2
        go_roundw
        case rel => exact ⟨k + 1, by omega, by go_num, by rw [HNX.out], hB3⟩
        case measure => simp [intOf]; omega
    · have hkl : k = l.length := by omega
      have hk1 : ¬ (k : Int) < l.length := by omega
      have HB := Lib.hid hB
      subst hkl
      clear hB
      go_wp2
      go_ret
      exact ⟨rfl, HB.out⟩
end Go.Proofs.Ytgijekhlbkfanaa

namespace Go.Proofs.Ytgijekhlbkfanaa
open Go.RowKit Go.Shelf
attribute [local go_sem] Later.cell Same.cell

set_option maxHeartbeats 4000000 in
theorem rEnds_any (A : Option Addr) (len cap : Nat) (l : List Tk) (A' : Option Addr) (len' cap' : Nat) (days : List Int) (w : World) (hS : Sml l) (hm' : len' ≤ 9223372036854775807) (hx : Plan w w.heap.size A len l) (hy : Ints w w.heap.size A' len' days) :
    Calls Try.prog 50 #[.slice A len cap, .slice A' len' cap'] w fun e w' => e = .returned (.tuple #[.int .i64 (endV l days), .int .i64 (endE l days)]) ∧ Below w.heap.size w w' := by
  have hl := hx.1
  have c1 := rCheck_any A len cap l w hS hx
  have c2 := fun W (h : Below w.heap.size w W) => dated_any A len cap l A' len' cap' days W (by have := hS.len; omega) hm' hl ((hy.below h).more h.size)
  by_cases h0 : checkE l = 0
  · have hP := check_spec h0
    rw [h0] at c1
    cases hb : bgB l days
    · rw [hb] at c2
      have hE : endE l days = 7 := by unfold endE; rw [if_pos h0, hb]; rfl
      have hV : endV l days = 0 := by unfold endV; rw [hE]; rfl
      rw [hE, hV]
      have C1 := Lib.hid c1
      have C2 := Lib.hid c2
      clear c1 c2 hx hy hE hV h0 hP hb hl
      go_enter Try.func50, Try.ntmps50
      go_wp2_with fail
      refine C1.out.mono ?_
      rintro e w1 ⟨rfl, hb⟩
      have hB_w1 : Below w.heap.size w w1 := (by repeat (first | exact Below.refl _ _ | assumption | refine Below.setCell ?_ (by first | (simp; done) | (simp; omega) | omega) _ | refine Below.drew ?_ | refine below_drewN ?_ _ | refine Below.alloc ?_ (by first | (simp; done) | (simp; omega) | omega) _ | refine below_alloc ?_ _ | refine below_step ?_ (by assumption))); have hz_w1 := hB_w1.size; clear hb
      go_wp2_with fail
      refine (C2.out _ hB_w1).mono ?_
      rintro e w2 ⟨rfl, rfl⟩
      go_wp2
      go_ret2
      exact ⟨rfl, hB_w1⟩
    · rw [hb] at c2
      have hE : endE l days = 0 := by unfold endE; rw [if_pos h0, hb]; rfl
      have hV : endV l days = endsV l days := by unfold endV; rw [hE]; rfl
      have hbb := hb
      unfold bgB at hbb
      rw [Bool.and_eq_true, decide_eq_true_eq] at hbb
      have hll : days.length = len' := hy.1
      have hle : len' = len := by omega
      subst hle
      have c3 := fun W (h : Below w.heap.size w W) => rends_any A len' cap l A' cap' days W hP (hx.go h) ((hy.below h).more h.size) (dysB_bd hbb.2)
      rw [hE, hV]
      generalize endsV l days = V at *
      have C1 := Lib.hid c1
      have C2 := Lib.hid c2
      have C3 := Lib.hid c3
      clear c1 c2 c3 hx hy hE hV h0 hP hb hbb hl hll
      go_enter Try.func50, Try.ntmps50
      go_wp2_with fail
      refine C1.out.mono ?_
      rintro e w1 ⟨rfl, hb⟩
      have hB_w1 : Below w.heap.size w w1 := (by repeat (first | exact Below.refl _ _ | assumption | refine Below.setCell ?_ (by first | (simp; done) | (simp; omega) | omega) _ | refine Below.drew ?_ | refine below_drewN ?_ _ | refine Below.alloc ?_ (by first | (simp; done) | (simp; omega) | omega) _ | refine below_alloc ?_ _ | refine below_step ?_ (by assumption))); have hz_w1 := hB_w1.size; clear hb
      go_wp2_with fail
      refine (C2.out _ hB_w1).mono ?_
      rintro e w2 ⟨rfl, rfl⟩
      go_wp2_with fail
      refine (C3.out _ hB_w1).mono ?_
      rintro e w3 ⟨rfl, hb⟩
      have hB3 := hB_w1.trans (hb.mono hB_w1.size)
      clear hb
      go_wp2
      go_ret2
      exact ⟨rfl, hB3⟩
  · have hE : endE l days = checkE l := by unfold endE; rw [if_neg h0]
    have hV : endV l days = 0 := by unfold endV; rw [hE, if_neg h0]
    rw [hE, hV]
    have hne : (checkE l == 0) = false := by simpa using h0
    generalize checkE l = E at *
    have C1 := Lib.hid c1
    clear c1 c2 hx hy hE hV h0 hl
    go_enter Try.func50, Try.ntmps50
    go_wp2_with fail
    refine C1.out.mono ?_
    rintro e w1 ⟨rfl, hb⟩
    have hB_w1 : Below w.heap.size w w1 := (by repeat (first | exact Below.refl _ _ | assumption | refine Below.setCell ?_ (by first | (simp; done) | (simp; omega) | omega) _ | refine Below.drew ?_ | refine below_drewN ?_ _ | refine Below.alloc ?_ (by first | (simp; done) | (simp; omega) | omega) _ | refine below_alloc ?_ _ | refine below_step ?_ (by assumption))); have hz_w1 := hB_w1.size; clear hb
    go_wp2
    go_ret2
    exact ⟨rfl, hB_w1⟩
set_option maxHeartbeats 4000000 in
theorem rMen_any (A : Option Addr) (len cap : Nat) (l : List Tk) (A' : Option Addr) (len' cap' : Nat) (days : List Int) (d : Int) (w : World) (hS : Sml l) (hm' : len' ≤ 9223372036854775807) (hx : Plan w w.heap.size A len l) (hy : Ints w w.heap.size A' len' days) :
    Calls Try.prog 52 #[.slice A len cap, .slice A' len' cap', .int .i64 d] w fun e w' => e = .returned (.tuple #[.int .i64 (menX l days d), .int .i64 (menE l days d)]) ∧ Below w.heap.size w w' := by
  have hl := hx.1
  have c1 := rCheck_any A len cap l w hS hx
  have c2 := fun W (h : Below w.heap.size w W) => dated_any A len cap l A' len' cap' days W (by have := hS.len; omega) hm' hl ((hy.below h).more h.size)
  have c4 := fun W => qwithin_any d 0 200000 W
  by_cases h0 : checkE l = 0
  · have hP := check_spec h0
    rw [h0] at c1
    cases hb : bgB l days
    · rw [hb] at c2
      have hE : menE l days d = 7 := by unfold menE; rw [if_pos h0, hb]; rfl
      have hV : menX l days d = 0 := by unfold menX; rw [hE]; rfl
      rw [hE, hV]
      have C1 := Lib.hid c1
      have C2 := Lib.hid c2
      clear c1 c2 c4 hx hy hE hV h0 hP hb hl
      go_enter Try.func52, Try.ntmps52
      go_wp2_with fail
      refine C1.out.mono ?_
      rintro e w1 ⟨rfl, hb⟩
      have hB_w1 : Below w.heap.size w w1 := (by repeat (first | exact Below.refl _ _ | assumption | refine Below.setCell ?_ (by first | (simp; done) | (simp; omega) | omega) _ | refine Below.drew ?_ | refine below_drewN ?_ _ | refine Below.alloc ?_ (by first | (simp; done) | (simp; omega) | omega) _ | refine below_alloc ?_ _ | refine below_step ?_ (by assumption))); have hz_w1 := hB_w1.size; clear hb
      go_wp2_with fail
      refine (C2.out _ hB_w1).mono ?_
      rintro e w2 ⟨rfl, rfl⟩
      go_wp2_with fail
      go_ret2
      exact ⟨rfl, hB_w1⟩
    · rw [hb] at c2
      cases hw : wi d 0 200000
      · rw [hw] at c4
        have hE : menE l days d = 7 := by unfold menE; rw [if_pos h0, hb, hw]; rfl
        have hV : menX l days d = 0 := by unfold menX; rw [hE]; rfl
        rw [hE, hV]
        have C1 := Lib.hid c1
        have C2 := Lib.hid c2
        have C4 := Lib.hid c4
        clear c1 c2 c4 hx hy hE hV h0 hP hb hl hw
        go_enter Try.func52, Try.ntmps52
        go_wp2_with fail
        refine C1.out.mono ?_
        rintro e w1 ⟨rfl, hb⟩
        have hB_w1 : Below w.heap.size w w1 := (by repeat (first | exact Below.refl _ _ | assumption | refine Below.setCell ?_ (by first | (simp; done) | (simp; omega) | omega) _ | refine Below.drew ?_ | refine below_drewN ?_ _ | refine Below.alloc ?_ (by first | (simp; done) | (simp; omega) | omega) _ | refine below_alloc ?_ _ | refine below_step ?_ (by assumption))); have hz_w1 := hB_w1.size; clear hb
        go_wp2_with fail
        refine (C2.out _ hB_w1).mono ?_
        rintro e w2 ⟨rfl, rfl⟩
        go_wp2_with fail
        refine (C4.out _).mono ?_
        rintro e w2 ⟨rfl, rfl⟩
        go_wp2_with fail
        go_ret2
        exact ⟨rfl, hB_w1⟩
      · rw [hw] at c4
        have hE : menE l days d = 0 := by unfold menE; rw [if_pos h0, hb, hw]; rfl
        have hV : menX l days d = menV l days d := by unfold menX; rw [hE]; rfl
        have hbb := hb
        unfold bgB at hbb
        rw [Bool.and_eq_true, decide_eq_true_eq] at hbb
        have hll : days.length = len' := hy.1
        have hle : len' = len := by omega
        subst hle
        have c3 := fun W (h : Below w.heap.size w W) => rmen_any A len' cap l A' cap' days d W hP (hx.go h) ((hy.below h).more h.size) (dysB_bd hbb.2)
        rw [hE, hV]
        generalize menV l days d = V at *
        have C1 := Lib.hid c1
        have C2 := Lib.hid c2
        have C3 := Lib.hid c3
        have C4 := Lib.hid c4
        clear c1 c2 c3 c4 hx hy hE hV h0 hP hb hbb hl hll hw
        go_enter Try.func52, Try.ntmps52
        go_wp2_with fail
        refine C1.out.mono ?_
        rintro e w1 ⟨rfl, hb⟩
        have hB_w1 : Below w.heap.size w w1 := (by repeat (first | exact Below.refl _ _ | assumption | refine Below.setCell ?_ (by first | (simp; done) | (simp; omega) | omega) _ | refine Below.drew ?_ | refine below_drewN ?_ _ | refine Below.alloc ?_ (by first | (simp; done) | (simp; omega) | omega) _ | refine below_alloc ?_ _ | refine below_step ?_ (by assumption))); have hz_w1 := hB_w1.size; clear hb
        go_wp2_with fail
        refine (C2.out _ hB_w1).mono ?_
        rintro e w2 ⟨rfl, rfl⟩
        go_wp2_with fail
        refine (C4.out _).mono ?_
        rintro e w2 ⟨rfl, rfl⟩
        go_wp2_with fail
        refine (C3.out _ hB_w1).mono ?_
        rintro e w3 ⟨rfl, hb⟩
        have hB3 := hB_w1.trans (hb.mono hB_w1.size)
        clear hb
        go_wp2_with fail
        go_ret2
        exact ⟨rfl, hB3⟩
  · have hE : menE l days d = checkE l := by unfold menE; rw [if_neg h0]
    have hV : menX l days d = 0 := by unfold menX; rw [hE, if_neg h0]
    rw [hE, hV]
    have hne : (checkE l == 0) = false := by simpa using h0
    generalize checkE l = E at *
    have C1 := Lib.hid c1
    clear c1 c2 c4 hx hy hE hV h0 hl
    go_enter Try.func52, Try.ntmps52
    go_wp2_with fail
    refine C1.out.mono ?_
    rintro e w1 ⟨rfl, hb⟩
    have hB_w1 : Below w.heap.size w w1 := (by repeat (first | exact Below.refl _ _ | assumption | refine Below.setCell ?_ (by first | (simp; done) | (simp; omega) | omega) _ | refine Below.drew ?_ | refine below_drewN ?_ _ | refine Below.alloc ?_ (by first | (simp; done) | (simp; omega) | omega) _ | refine below_alloc ?_ _ | refine below_step ?_ (by assumption))); have hz_w1 := hB_w1.size; clear hb
    go_wp2_with fail
    go_ret2
    exact ⟨rfl, hB_w1⟩
set_option maxRecDepth 20000 in
set_option maxHeartbeats 4000000 in
theorem strong_any (A : Option Addr) (len cap : Nat) (l : List Tk) (c : Int) (w : World) (hS : Sml l) (hx : Plan w w.heap.size A len l) :
    Calls Try.prog 101 #[.slice A len cap, .int .i64 c] w fun e w' => e = .returned (.int .i64 (crewE l c)) ∧ Below w.heap.size w w' := by
  obtain rfl : l.length = len := hx.1
  have c1 := rCheck_any A l.length cap l w hS hx
  have c2 := fun W => qwithin_any c 1 100 W
  have HE : Hid (crewE l c = if checkE l = 0 then (if wi c 1 100 = true then (if many1 l c = true then 8 else 0) else 7) else checkE l) := Lib.hid rfl
  generalize crewE l c = E at *
  have hL := hS.len
  have HX := Lib.hid hx
  have C2 := Lib.hid c2
  clear c2 hx hS
  by_cases h0 : checkE l = 0
  case neg =>
    have h2 : (checkE l == 0) = false := by simpa using h0
    rw [if_neg h0] at HE
    generalize checkE l = CE at *
    have C1 := Lib.hid c1
    clear c1 h0
    go_enter Try.func101, Try.ntmps101
    go_wp2_with fail
    refine C1.out.mono ?_
    rintro e w1 ⟨rfl, hb⟩
    have HB := Lib.hid hb
    clear hb
    go_wp2_with fail
    go_ret
    exact ⟨by rw [HE.out]; rfl, HB.out⟩
  rw [if_pos h0] at HE
  rw [h0] at c1
  have C1 := Lib.hid c1
  clear c1 h0
  have c2 := C2.out
  cases hw : wi c 1 100
  case false =>
    rw [hw] at c2 HE
    have HF : Hid (E = 7) := Lib.hid (by rw [HE.out]; rfl)
    have C2' := Lib.hid c2
    clear c2 C2 hw HE
    go_enter Try.func101, Try.ntmps101
    go_wp2_with fail
    refine C1.out.mono ?_
    rintro e w1 ⟨rfl, hb⟩
    have HB := Lib.hid hb
    clear hb
    go_wp2_with fail
    refine (C2'.out _).mono ?_
    rintro e w2 ⟨rfl, rfl⟩
    go_wp2_with fail
    go_ret
    exact ⟨by rw [HF.out]; rfl, HB.out⟩
  rw [hw, if_pos rfl] at HE
  rw [hw] at c2
  have C2' := Lib.hid c2
  clear c2 C2 hw
  go_enter Try.func101, Try.ntmps101
  go_wp2_with fail
  refine C1.out.mono ?_
  rintro e w1 ⟨rfl, hb⟩
  have HB := Lib.hid hb
  clear hb C1
  go_wp2_with fail
  refine (C2'.out _).mono ?_
  rintro e w2 ⟨rfl, rfl⟩
  clear C2'
  go_wp2_with fail
  go_loopw [6] (fun i W => ∃ k : Nat, k ≤ l.length ∧ i = .int .i64 (k : Int) ∧ Hid (∀ j, j < k → mnA l j ≤ c) ∧ Below w.heap.size w W) (fun i _ => l.length - (intOf i).toNat)
  case atStart => exact ⟨0, Nat.zero_le _, rfl, Lib.hid (fun j hj => absurd hj (by omega)), HB.out⟩
  case round =>
    obtain ⟨k, hk, rfl, hT, hB⟩ := hrel
    by_cases hlt : k < l.length
    · obtain ⟨b, off, rfl, hb0, -, -, hc3, -⟩ := (HX.out.below hB).at_ k hlt
      have hk1 : (k : Int) < l.length := by omega
      have hk2 : ¬ l.length ≤ k := by omega
      by_cases hv : c < (tkA l k).mn
      · have HF : Hid (E = 8) := Lib.hid (by rw [HE.out, if_pos (many1_iff.2 ⟨k, hlt, hv⟩)])
        generalize (tkA l k).mn = Z at *
        have HB2 := Lib.hid hB
        clear hT hB
        go_wp2_with fail
        go_ret
        exact ⟨by rw [HF.out]; rfl, HB2.out⟩
      · have hT2 : Hid (∀ j, j < k + 1 → mnA l j ≤ c) := Lib.hid (fun j hj => if e : j = k then (by rw [e]; exact Int.not_lt.1 hv) else hT.out j (by omega))
        generalize (tkA l k).mn = Z at *
        clear hT
        go_wp2_with fail
        go_roundw
        case rel => exact ⟨k + 1, by omega, by go_num, hT2, hB⟩
        case measure => simp [intOf]; omega
    · have hk1 : ¬ (k : Int) < l.length := by omega
      have HF : Hid (E = 0) := Lib.hid (by
        rw [HE.out, if_neg]
        intro hq
        obtain ⟨i, hi, h2⟩ := many1_iff.1 hq
        exact absurd h2 (Int.not_lt.2 (hT.out i (by omega))))
      have HB2 := Lib.hid hB
      clear hT hB
      go_wp2_with fail
      go_ret
      exact ⟨by rw [HF.out]; rfl, HB2.out⟩
end Go.Proofs.Ytgijekhlbkfanaa

namespace Go.Proofs.Ytgijekhlbkfanaa
open Go.RowKit

section
variable {P : Program} {md : Region.Mode} {ops : Array Oper} {C : World → Prop}

def plainOp2 (o : Op) : Bool := plainOp o || match o with
  | .call c => match c.callee with
    | .builtin .max => true
    | _ => false
  | _ => false
theorem plain_ne2 {o : Oper} (h : plainOp2 o.op = true) (ρ : Operand → Value) (w w' : World) (f : FuncId) (args : Array Value) : (execOp ρ o).run P w ≠ .ok (.enter f args) w' := by
  unfold plainOp2 at h
  rw [Bool.or_eq_true] at h
  rcases h with h | h
  · exact plain_ne h ρ w w' f args
  · split at h
    · rename_i c hop
      split at h
      · rename_i hc
        unfold execOp
        simp only [hop, resolve, hc, pure_bind, invoke, builtin]
        exact seq_ne
      · cases h
    · cases h
theorem plain_same2 {o : Oper} (h : plainOp2 o.op = true) (hg : noGuard ops = true) {i : Nat} (hi : ops[i]? = some o) {v : Value} (w : World) (hw : C w) (a : Act) (hy : YieldsIn P ops C o v a) : Oper.wp P o a w (fun a' w' => a' = a.put o.dst v ∧ w' = w) Qz := by
  rcases hy with ⟨-, h2⟩ | ⟨h2, -⟩
  · have h3 := h2 w hw
    have h4 := plain_ne2 (P := P) h a.eval w
    unfold Oper.quietAt at h3
    unfold Oper.wp
    generalize (execOp a.eval o).run P w = r at *
    cases r with
    | ok n w' =>
      cases n <;> simp only [Oper.quietUpon] at h3 <;> simp only [Oper.upon]
      case value u => exact ⟨by rw [h3.2], h3.1⟩
      case skip => exact ⟨by rw [h3.2], h3.1⟩
      case enter f args => exact absurd rfl (h4 w' f args)
    | halt x w' => simp only [Oper.quietUpon] at h3
  · rw [noGuard_spec hg hi] at h2; cases h2
/-- Which operations are taken first, in this order. -/
def takeB2 (md : Region.Mode) (ops : Array Oper) : List Nat → Array Bool → Bool
  | [], _ => true
  | i :: is, listed => ((ops[i]?).map (fun o => plainOp2 o.op)).getD false && ((Region.ready md ops listed).contains i && (Region.free md ops listed i && takeB2 md ops is (listed.setIfInBounds i true)))
theorem wpC_take2 (hg : noGuard ops = true) (hs : Region.noSelect ops = true) {Q : Exit → Act → World → Prop} {f : Nat} {w : World} (hw : C w) : ∀ (is : List Nat) (listed : Array Bool) (a : Act), takeB2 md ops is listed = true →
    wpQuiet P ops C (fun a' => wpC P md ops C Q f (setAll is listed) a' w) (is.map fun i => ops[i]?.getD { dst := none, op := .move (.tmp 0), type := 0, pos := "", after := #[], guard := none }) a → wpC P md ops C Q (f + is.length) listed a w
  | [], _, _, _, h => h
  | i :: is, listed, a, hb, h => by
    simp only [takeB2, Bool.and_eq_true] at hb
    obtain ⟨h1, h2, h3, h4⟩ := hb
    cases ho : ops[i]? with
    | none => rw [ho] at h1; cases h1
    | some o =>
      rw [ho] at h1
      have hp : plainOp2 o.op = true := by simpa using h1
      have hq : qOp P ops C i (fun a' => wpQuiet P ops C (fun a' => wpC P md ops C Q f (setAll is (listed.setIfInBounds i true)) a' w) (is.map fun i => ops[i]?.getD { dst := none, op := .move (.tmp 0), type := 0, pos := "", after := #[], guard := none }) a') a := by
        unfold qOp
        rw [List.map_cons, ho] at h
        simp only [ho]
        exact h
      obtain ⟨v, hy, hK⟩ := yieldsIn_of_qOp ho hq
      rw [show f + (i :: is).length = (f + is.length) + 1 by simp; omega]
      exact wpC_first hg hs ho (fun w hw a hy => plain_same2 hp hg ho w hw a hy) (f + is.length) listed a w hw (Region.free_spec ho h3) (by simpa using h2) hy (wpC_take2 hg hs hw is _ _ h4 hK)
end
end Go.Proofs.Ytgijekhlbkfanaa

namespace Go.Proofs.Ytgijekhlbkfanaa
open Go.RowKit Go.Shelf
attribute [local go_sem] Later.cell Same.cell

theorem crewE_ok {l : List Tk} {c : Int} (h : crewE l c = 0) : checkE l = 0 ∧ 1 ≤ c ∧ c ≤ 100 := by
  unfold crewE at h
  by_cases h0 : checkE l = 0
  · rw [if_pos h0] at h
    cases h1 : wi c 1 100
    · rw [h1] at h; cases h
    · exact ⟨h0, wi_iff.1 h1⟩
  · rw [if_neg h0] at h; exact absurd h h0
def bndV (l : List Tk) (c : Int) : Int := if crewE l c = 0 then (if ceilV l c < lenV l then lenV l else ceilV l c) else 0
def wkG (l : List Tk) (k : Nat) : Int := mnA l k * dyA l k
theorem wkG_bd {l : List Tk} (hP : okP l) : ∀ k : Nat, k ≤ l.length → 0 ≤ sN (wkG l) k ∧ sN (wkG l) k ≤ 16000 * k
  | 0, _ => by show (0 : Int) ≤ 0 ∧ (0 : Int) ≤ _; omega
  | k + 1, hk => by
    have h1 := wkG_bd hP k (by omega)
    have h2 := mnA_bd hP (i := k) (by omega)
    have h3 := dy_bd hP (i := k) (by omega)
    have h4 := mul_bd (x := mnA l k) (y := dyA l k) (X := 16) (Y := 1000) ⟨by omega, h2.2⟩ ⟨by omega, h3.2⟩
    show 0 ≤ sN (wkG l) k + mnA l k * dyA l k ∧ sN (wkG l) k + mnA l k * dyA l k ≤ _
    omega
set_option maxRecDepth 20000 in
set_option maxHeartbeats 8000000 in
theorem Bound_ok (A : Option Addr) (len cap : Nat) (l : List Tk) (c : Int) (w : World) (hS : Sml l) (hP : okP l) (hE : crewE l c = 0) (hcb : 1 ≤ c ∧ c ≤ 100) (hx : Plan w w.heap.size A len l) :
    Calls Try.prog 53 #[.slice A len cap, .int .i64 c] w fun e w' => e = .returned (.tuple #[.int .i64 (if ceilV l c < lenV l then lenV l else ceilV l c), .int .i64 0]) ∧ Below w.heap.size w w' := by
  obtain rfl : l.length = len := hx.1
  have c1 := crewed_any A l.length cap l c w hS hx
  rw [hE] at c1
  have c2 := fun W (h : Below w.heap.size w W) => earliest_any A l.length cap l W hS hP (hx.go h)
  have c3 := fun A' cap' W (h : Below w.heap.size w W) (hy : Ints W W.heap.size A' l.length (ear l)) => ends_any A l.length cap l A' cap' (ear l) W hP (hx.go h) hy (ear_bdE hP)
  change ∀ A' cap' W _ _, Calls _ _ _ _ (fun e w' => e = .returned (.int .i64 (lenV l)) ∧ _) at c3
  have hL := hP.len
  have hwb := wkG_bd hP l.length (Nat.le_refl _)
  have hwk : sN (wkG l) l.length = wrkV l := rfl
  rw [hwk] at hwb
  have hcv : ceilV l c = (wrkV l + c - 1) / c := rfl
  have hlb := lenV_bd hP
  have hdv : Int.tdiv (wrkV l + c - 1) c = (wrkV l + c - 1) / c := Int.tdiv_eq_ediv_of_nonneg (by omega)
  have hdb : 0 ≤ (wrkV l + c - 1) / c ∧ (wrkV l + c - 1) / c ≤ 1000000 := by
    refine ⟨Int.ediv_nonneg (by omega) (by omega), ?_⟩
    have := Int.ediv_le_self (b := c) (a := wrkV l + c - 1) (by omega)
    omega
  have HX := Lib.hid hx
  have HP := Lib.hid hP
  have HWB := Lib.hid (fun k hk => wkG_bd hP k hk)
  have C1 := Lib.hid c1
  have C2 := Lib.hid c2
  have C3 := Lib.hid c3
  have HDV := Lib.hid hdv
  have HCV := Lib.hid hcv
  have HWK := Lib.hid hwk
  generalize wrkV l = WK at *
  generalize lenV l = LV at *
  generalize ceilV l c = CV at *
  obtain ⟨MX, hMX⟩ : ∃ MX, MX = if CV < LV then LV else CV := ⟨_, rfl⟩
  rw [← hMX]
  have HMX := Lib.hid hMX
  clear c1 c2 c3 hx hP hE hwk hcv hdv hMX
  go_enter Try.func53, Try.ntmps53
  go_wp2_with fail
  refine C1.out.mono ?_
  rintro e w1 ⟨rfl, hb⟩
  have HB := Lib.hid hb
  clear hb C1
  go_wp2_with fail
  go_loopw [7, 18] (fun v i W => ∃ k : Nat, k ≤ l.length ∧ i = .int .i64 (k : Int) ∧ v = .int .i64 (sN (wkG l) k) ∧ Below w.heap.size w W) (fun _ i _ => l.length - (intOf i).toNat)
  case atStart => exact ⟨0, Nat.zero_le _, rfl, rfl, HB.out⟩
  case round =>
    obtain ⟨k, hk, rfl, rfl, hB⟩ := hrel
    have hbs := hB.size
    by_cases hlt : k < l.length
    · obtain ⟨b, off, rfl, hb0, hc1, hc2, hc3, A'', n, cc, hc4, -, -, -⟩ := (HX.out.below hB).at_ k hlt
      have hk1 : (k : Int) < l.length := by omega
      have hk2 : ¬ l.length ≤ k := by omega
      have hm := HWB.out k hk
      have hnx : sN (wkG l) (k + 1) = sN (wkG l) k + (tkA l k).mn * (tkA l k).dy := rfl
      have h2 := mnA_bd HP.out hlt
      have h3 := dy_bd HP.out hlt
      have h4 := mul_bd (x := mnA l k) (y := dyA l k) (X := 16) (Y := 1000) ⟨by omega, h2.2⟩ ⟨by omega, h3.2⟩
      change 0 ≤ (tkA l k).mn * (tkA l k).dy ∧ (tkA l k).mn * (tkA l k).dy ≤ _ at h4
      generalize (tkA l k).nm = X at *
      generalize (tkA l k).dy = Y at *
      generalize (tkA l k).mn = Z at *
      generalize sN (wkG l) k = M at *
      have hwm : wrap64 (Z * Y) = Z * Y := IntWalk.wrap64_in _ ⟨by omega, by omega⟩
      have hwr : wrap64 (M + Z * Y) = M + Z * Y := IntWalk.wrap64_in _ ⟨by omega, by omega⟩
      have HNX := Lib.hid hnx
      have hB3 : Below w.heap.size w (wr.alloc (.cells #[.string X, .int .i64 Y, .int .i64 Z, .slice A'' n cc] 43)) := hB.alloc hbs _
      clear hnx h4
      go_wp2
      go_roundw
      case rel => exact ⟨k + 1, by omega, by go_num, by rw [HNX.out, hwr], hB3⟩
      case measure => simp [intOf]; omega
    · have hkl : k = l.length := by omega
      have hk1 : ¬ (k : Int) < l.length := by omega
      have HB1 := Lib.hid hB
      subst hkl
      rw [HWK.out]
      have hw1 : wrap64 (WK + c) = WK + c := IntWalk.wrap64_in _ ⟨by omega, by omega⟩
      have hw2 : wrap64 (WK + c - 1) = WK + c - 1 := IntWalk.wrap64_in _ ⟨by omega, by omega⟩
      have hne : ¬ c = 0 := by omega
      clear hB
      go_wp2_with fail
      refine wp_region_mix (by kernel_rfl) (by kernel_rfl) ?_
      refine wpC_take (f := 5) (by kernel_rfl) (by kernel_rfl) ⟨⟨_, (Below.refl _ _).drew⟩, rfl⟩ [0, 1, 4, 5, 6, 7, 8, 9] _ _ (by kernel_rfl) ?_
      simp only [List.map_cons, List.map_nil, List.getElem?_toArray, List.getElem?_cons_succ, List.getElem?_cons_zero, Option.getD_some]
      repeat (go_big_quiet_step (fail))
      refine wpQuiet_nil ?_
      have hB : Below wr.heap.size wr wr.drew := (Below.refl _ _).drew
      refine wpC_all (rs := [2]) (by kernel_rfl) (by decide) ?_
      intro i hi
      simp only [List.mem_cons, List.not_mem_nil, or_false] at hi
      subst hi
      refine ⟨_, rfl, ?_⟩
      go_simp
      refine (C2.out _ (HB1.out.trans (hB.mono HB1.out.size))).mono ?_
      rintro e WW0 ⟨⟨v, rfl, ho⟩, hb9⟩
      obtain ⟨A1, cap1, rfl, -, -, hI1, -⟩ := own_ints ho
      replace hB := below_step hB hb9
      clear hb9 ho
      refine ⟨⟨⟨_, hB⟩, rfl⟩, ?_⟩
      refine wpC_all (rs := [3]) (by kernel_rfl) (by decide) ?_
      intro i hi
      simp only [List.mem_cons, List.not_mem_nil, or_false] at hi
      subst hi
      refine ⟨_, rfl, ?_⟩
      go_simp
      refine (C3.out A1 cap1 _ (HB1.out.trans (hB.mono HB1.out.size)) hI1).mono ?_
      rintro e W3 ⟨rfl, hb9⟩
      replace hB := below_step hB hb9
      clear hb9 hI1
      refine ⟨⟨⟨_, hB⟩, rfl⟩, ?_⟩
      go_simp
      refine wpC_take2 (f := 0) (by kernel_rfl) (by kernel_rfl) ⟨⟨_, hB⟩, rfl⟩ [10, 11, 12] _ _ (by kernel_rfl) ?_
      simp only [List.map_cons, List.map_nil, List.getElem?_toArray, List.getElem?_cons_succ, List.getElem?_cons_zero, Option.getD_some]
      repeat (go_big_quiet_step (fail))
      refine wpQuiet_nil ?_
      refine wpC_done (by kernel_rfl) ?_
      have HB3 := Lib.hid (HB1.out.trans (hB.mono HB1.out.size))
      have hmx : (if LV < (WK + c - 1) / c then (WK + c - 1) / c else LV) = MX := by rw [HMX.out, HCV.out]; split <;> split <;> omega
      rw [hmx]
      clear hB hdb hw1 hw2 hmx
      go_wp2_with fail
      go_ret2
      exact ⟨rfl, HB3.out⟩
set_option maxHeartbeats 2000000 in
theorem Bound_any (A : Option Addr) (len cap : Nat) (l : List Tk) (c : Int) (w : World) (hS : Sml l) (hx : Plan w w.heap.size A len l) :
    Calls Try.prog 53 #[.slice A len cap, .int .i64 c] w fun e w' => e = .returned (.tuple #[.int .i64 (bndV l c), .int .i64 (crewE l c)]) ∧ Below w.heap.size w w' := by
  by_cases hE : crewE l c = 0
  · have hk := crewE_ok hE
    rw [show bndV l c = if ceilV l c < lenV l then lenV l else ceilV l c from if_pos hE, hE]
    exact Bound_ok A len cap l c w hS (check_spec hk.1) hE hk.2 hx
  · rw [show bndV l c = 0 from if_neg hE]
    have c1 := crewed_any A len cap l c w hS hx
    have hne : (crewE l c == 0) = false := by simpa using hE
    generalize crewE l c = E at *
    have C1 := Lib.hid c1
    clear c1 hE hx hS
    go_enter Try.func53, Try.ntmps53
    go_wp2_with fail
    refine C1.out.mono ?_
    rintro e w1 ⟨rfl, hb⟩
    have HB := Lib.hid hb
    clear hb
    go_wp2_with fail
    go_ret2
    exact ⟨rfl, HB.out⟩
end Go.Proofs.Ytgijekhlbkfanaa

namespace Go.Proofs.Ytgijekhlbkfanaa
open Go.RowKit Go.Shelf
attribute [local go_sem] Later.cell Same.cell

def axU : List Tk := [⟨⟨#[97]⟩, 1, 1, []⟩]
theorem axU_e : endE axU [4] = 0 := by decide +kernel
theorem axU_v : endV axU [4] = 5 := by decide +kernel
theorem axU_sml : Sml axU := by
  refine ⟨by decide, fun i hi => ?_, fun i hi => ?_, fun i hi s hs => ?_⟩
  · have : i = 0 := by simp [axU] at hi; omega
    subst this; decide
  · have : i = 0 := by simp [axU] at hi; omega
    subst this; decide
  · have : i = 0 := by simp [axU] at hi; omega
    subst this; cases hs
theorem axU_plan (w : World) (t : TypeId) : Plan (w.alloc (.cells #[.string ⟨#[97]⟩, .int .i64 1, .int .i64 1, .slice none 0 0] t)) (w.heap.size + 1) (some ⟨w.heap.size, 0, none⟩) 1 axU := by
  refine ⟨rfl, fun _ => ⟨w.heap.size, 0, rfl, by omega, fun k hk => ?_⟩⟩
  have hk3 : k = 0 := by omega
  subst hk3
  exact ⟨by go_simp; rfl, by go_simp; rfl, by go_simp; rfl, none, 0, 0, by go_simp, Nat.le_refl _, by omega, ⟨rfl, fun h => by omega⟩⟩
set_option maxRecDepth 20000 in
set_option maxHeartbeats 8000000 in
theorem tawake9_any (w : World) : Calls Try.prog 55 #[] w fun e w' => e = .returned (.bool true) ∧ Below w.heap.size w w' := by
  obtain ⟨W0, hW0⟩ : ∃ W, W = ((w.alloc (.cells #[.string ⟨#[97]⟩, .int .i64 1, .int .i64 1, .slice none 0 0] 43)).alloc (.cells #[.int .i64 4] 3)) := ⟨_, rfl⟩
  have hs0 : W0.heap.size = w.heap.size + 2 := by rw [hW0]; simp
  have hB0 : Below w.heap.size w W0 := by rw [hW0]; exact ((Below.refl _ w).alloc (Nat.le_refl _) _).alloc (by simp) _
  have hpl : Plan W0 W0.heap.size (some ⟨w.heap.size, 0, none⟩) 1 axU := by
    rw [hs0, hW0]
    exact ((axU_plan w 43).below ((Below.refl _ _).alloc (by simp) _)).more (by omega)
  have hin : Ints W0 W0.heap.size (some ⟨w.heap.size + 1, 0, none⟩) 1 [4] := by
    refine ⟨rfl, fun _ => ⟨w.heap.size + 1, 0, rfl, by omega, fun k hk => ?_⟩⟩
    have : k = 0 := by omega
    subst this
    rw [hW0]; go_simp
  have c1 := Ends_any (some ⟨w.heap.size, 0, none⟩) 1 1 axU (some ⟨w.heap.size + 1, 0, none⟩) 1 1 [4] W0 axU_sml (by omega) hpl hin
  rw [axU_e, axU_v] at c1
  have C1 := Lib.hid c1
  have HB0 := Lib.hid hB0
  clear c1 hpl hs0 hB0 hin
  go_enter Try.func55, Try.ntmps55
  go_wp2_with fail
  rw [← hW0]
  clear hW0
  refine C1.out.mono ?_
  rintro e w1 ⟨rfl, hb1⟩
  have HB1 := Lib.hid (HB0.out.trans (hb1.mono HB0.out.size))
  clear hb1
  go_wp2_with fail
  go_ret
  exact ⟨rfl, HB1.out⟩
theorem lnk_step {l : List Tk} : ∀ {cs : List Nat}, lnk l cs → ∀ k (h : k + 1 < cs.length), cs[k]'(by omega) ∈ afs l cs[k + 1]
  | [], _, k, h => absurd h (Nat.not_lt_zero _)
  | [i], _, k, h => absurd h (by simp)
  | i :: j :: r, hc, 0, h => hc.2.1
  | i :: j :: r, hc, k + 1, h => lnk_step hc.2.2 k (by simpa using h)
theorem tl_crew {l : List Tk} {c : Int} (h0 : checkE l = 0) (hc : 1 ≤ c ∧ c ≤ 100) : crewE l c = 0 ∨ crewE l c = 8 := by
  unfold crewE
  rw [if_pos h0, if_pos (wi_iff.2 hc)]
  split
  · exact .inr rfl
  · exact .inl rfl
theorem dn_crew {l : List Tk} {F : Nat} {c : Int} (hE : crewE l c = 0) (hF : F < l.length) (hck : checkE (dnT l F) = 0) : crewE (dnT l F) c = 0 := by
  obtain ⟨-, hcb, hm⟩ := crew_ok hE
  unfold crewE
  rw [if_pos hck, if_pos (wi_iff.2 hcb), if_neg]
  intro h
  obtain ⟨i, hi, h2⟩ := many1_iff.1 h
  rw [dnT_len hF] at hi
  have h3 := hm _ (sg_bd hF hi)
  have h4 : mnA (dnT l F) i = mnA l (sg F i) := by unfold mnA; rw [dnT_at hF hi]; rfl
  omega
theorem rtA_afs2 {l : List Tk} {days : List Int} {i : Nat} : rtA l days i = (afs l i).all fun a => decide (gI days a + dyA l a ≤ gI days i) := by
  unfold rtA afs
  rw [List.all_map, List.any_eq_not_all_not, Bool.not_not]
  refine List.all_congr rfl fun s => ?_
  unfold rt1
  show (!decide _) = decide _
  by_cases h : gI days i < gI days (fnd l s) + dyA l (fnd l s)
  · rw [decide_eq_true h, decide_eq_false (by omega)]; rfl
  · rw [decide_eq_false h, decide_eq_true (by omega)]; rfl
theorem lst_bg {l : List Tk} {c : Int} (hP : okP l) (hm : ∀ i, i < l.length → mnA l i ≤ c) : bgB l (LST l c) = true := by
  have h := LST_is hP hm
  have hd : dysB (LST l c) = true := by
    unfold dysB
    rw [List.all_eq_true]
    intro d hd
    obtain ⟨i, hi, rfl⟩ := List.getElem_of_mem hd
    have hi' : i < l.length := by rw [← h.len]; exact hi
    have h1 := h.pos i hi'
    have h2 := totD_bd hP
    have h3 := hP.len
    rw [show gI (LST l c) i = (LST l c)[i] from by unfold gI; rw [List.getElem?_eq_getElem hi]; rfl] at h1
    exact wi_iff.2 (by omega)
  unfold bgB
  rw [hd, decide_eq_true h.len]; rfl
theorem lst_right {l : List Tk} {c : Int} (hE : crewE l c = 0) : rightV l c (LST l c) = true := by
  have hk := crew_ok hE
  have hP := check_spec hk.1
  have h := LST_is hP hk.2.2
  unfold rightV
  rw [decide_eq_true hk.1, lst_bg hP hk.2.2, wi_iff.2 hk.2.1, rightA_yes]
  · rfl
  · intro k hk2
    have h1 : rtA l (LST l c) k = true := by
      rw [rtA_afs2, List.all_eq_true]
      intro a ha
      exact decide_eq_true (h.aft k hk2 a ha)
    have h2 : rtB l c (LST l c) k = true := decide_eq_true (h.crew _)
    rw [h1, h2]; rfl
theorem dyS_bd {l : List Tk} (hP : okP l) : ∀ k : Nat, k ≤ l.length → 0 ≤ sN (dyA l) k ∧ sN (dyA l) k ≤ 1000 * k
  | 0, _ => by show (0 : Int) ≤ 0 ∧ (0 : Int) ≤ _; omega
  | k + 1, h => by
    have h1 := dyS_bd hP k (by omega)
    have h2 := dy_bd hP (i := k) (by omega)
    show 0 ≤ sN (dyA l) k + dyA l k ∧ sN (dyA l) k + dyA l k ≤ _
    omega
/-- Men days that are left when some days have gone. -/
def lfV (l : List Tk) (c : Int) (k : Nat) : Int := wrkV l - sN (fun e => menV l (LST l c) (e : Int)) k
theorem lfV_zero (l : List Tk) (c : Int) : lfV l c 0 = sN (wkG l) l.length := by
  show wrkV l - 0 = wrkV l
  omega
theorem lfV_next (l : List Tk) (c : Int) (k : Nat) : lfV l c (k + 1) = lfV l c k - menV l (LST l c) (k : Int) := by
  show wrkV l - (sN (fun e => menV l (LST l c) (e : Int)) k + menV l (LST l c) (k : Int)) = wrkV l - sN (fun e => menV l (LST l c) (e : Int)) k - menV l (LST l c) (k : Int)
  omega
structure TlF (l : List Tk) (c e0 : Int) : Prop where
  eq : e0 = endsV l (LST l c)
  len : lenV l ≤ e0
  le : e0 ≤ totD l
  pos : 0 ≤ e0
  men : ∀ e : Int, 0 ≤ e → e < e0 → 1 ≤ menV l (LST l c) e ∧ menV l (LST l c) e ≤ c
  done : lfV l c e0.toNat = 0
  bd : ∀ k : Nat, k ≤ e0.toNat → 0 ≤ lfV l c k ∧ lfV l c k ≤ 60000
  ends : endE l (LST l c) = 0 ∧ endV l (LST l c) = e0
  menE : ∀ e : Int, 0 ≤ e → e < e0 → menE l (LST l c) e = 0 ∧ menX l (LST l c) e = menV l (LST l c) e
  ln : (LST l c).length = l.length
  chn : ∀ k, k + 1 < (chnV l).length → ∃ p q : Nat, gI (iN (chnV l)) k = (p : Int) ∧ gI (iN (chnV l)) (k + 1) = (q : Int) ∧ p < l.length ∧ q < l.length ∧ gI (LST l c) p + dyA l p ≤ gI (LST l c) q
  cl : (chnV l).length ≤ l.length
  day : ∀ i, i < l.length → 0 ≤ gI (LST l c) i ∧ gI (LST l c) i ≤ 20000
theorem tl_facts {l : List Tk} {c : Int} (hE : crewE l c = 0) (hd : totD l ≤ 600) : TlF l c (endsV l (LST l c)) := by
  have hk := crew_ok hE
  have hP := check_spec hk.1
  have h := LST_is hP hk.2.2
  have hp := (ends_spec l (LST l c)).1
  have hle := h.ends_le hP
  have hbg := lst_bg hP hk.2.2
  have hEE : endE l (LST l c) = 0 := by unfold endE; rw [if_pos hk.1, if_pos hbg]
  have hmen : ∀ e : Int, 0 ≤ e → e < endsV l (LST l c) → 1 ≤ menV l (LST l c) e ∧ menV l (LST l c) e ≤ c := fun e h1 h2 => ⟨h.busy e h1 h2, h.crew e⟩
  have hsum := h.sum hP
  have hM : ∀ e : Int, 0 ≤ e → e < endsV l (LST l c) → menE l (LST l c) e = 0 ∧ menX l (LST l c) e = menV l (LST l c) e := fun e h1 h2 => by
    have : menE l (LST l c) e = 0 := by unfold menE; rw [if_pos hk.1, if_pos hbg, if_pos (wi_iff.2 (by omega))]
    exact ⟨this, by unfold menX; rw [if_pos this]⟩
  have hbd : ∀ k : Nat, k ≤ (endsV l (LST l c)).toNat → 0 ≤ lfV l c k ∧ lfV l c k ≤ 60000 := by
    have key : ∀ m k : Nat, k + m = (endsV l (LST l c)).toNat → 0 ≤ lfV l c k ∧ lfV l c k ≤ 100 * m := by
      intro m
      induction m with
      | zero =>
        intro k hkm
        have : lfV l c k = 0 := by rw [show k = (endsV l (LST l c)).toNat by omega]; unfold lfV; rw [hsum]; omega
        omega
      | succ m ih =>
        intro k hkm
        have h1 := ih (k + 1) (by omega)
        rw [lfV_next] at h1
        have h2 := hmen k (by omega) (by omega)
        omega
    intro k hk2
    have := key ((endsV l (LST l c)).toNat - k) k (by omega)
    omega
  obtain ⟨hl, -, -⟩ := chV_spec hP
  refine ⟨rfl, h.len_le hP, hle, hp, hmen, by unfold lfV; rw [hsum]; omega, hbd, ⟨hEE, by unfold endV; rw [if_pos hEE]⟩, hM, h.len, fun k hk2 => ?_, lnk_len hP hl, fun i hi => ?_⟩
  · have h1 := lnk_lt hl _ (List.getElem_mem hk2)
    have h2 := lnk_lt hl _ (List.getElem_mem (show k < (chnV l).length by omega))
    exact ⟨(chnV l)[k], (chnV l)[k + 1], iN_at (show k < (chnV l).length by omega), iN_at hk2, h2, h1, h.aft _ h1 _ (lnk_step hl k hk2)⟩
  · have := h.pos i hi
    have := totD_bd hP
    have := hP.len
    omega
/-- What the law asks of the rest of a plan when a task is done: by contracts. -/
theorem tl_rest {A : Option Addr} {cap : Nat} {l : List Tk} {c : Int} {w : World} (hS : Sml l) (h9 : l.length ≤ 9) (hE : crewE l c = 0) (hx : Plan w w.heap.size A l.length l) (s : ByteArray) (hs : s.size ≤ 9223372036854775807) :
    ∃ (E : Int) (n m : Nat) (L : List Tk) (X : List Int), (∀ W, Below w.heap.size w W → Calls Try.prog 42 #[.slice A l.length cap, .string s] W fun e w' => (∃ A2 c2, e = .returned (.tuple #[.slice A2 n c2, .int .i64 E]) ∧ Plan w' w'.heap.size A2 n L) ∧ Below W.heap.size W w') ∧
      (E = 0 → (∀ A2 c2 W, Plan W W.heap.size A2 n L → Calls Try.prog 45 #[.slice A2 n c2, .int .i64 c] W fun e w' => (∃ v, e = .returned (.tuple #[v, .int .i64 0]) ∧ w'.ownsRow W.heap.size 3 1 v m (icells X)) ∧ Below W.heap.size W w') ∧
        (∀ A2 c2 A3 c3 W, Plan W W.heap.size A2 n L → Ints W W.heap.size A3 m X → Calls Try.prog 47 #[.slice A2 n c2, .int .i64 c, .slice A3 m c3] W fun e w' => e = .returned (.bool true) ∧ Below W.heap.size W w')) := by
  refine ⟨dnE l s, (dnL l s).length, (LST (dnL l s) c).length, dnL l s, LST (dnL l s) c, fun W hW => ?_, fun h0 => ?_⟩
  · refine (Done_any A l.length cap l s W hS hs (hx.go hW)).mono fun e w' hh => ⟨?_, hh.2⟩
    obtain ⟨A2, n, c2, h1, h2, h3⟩ := hh.1.plan
    subst h2
    exact ⟨A2, c2, h1, h3⟩
  · obtain ⟨g1, g2, -, g4⟩ := dn_fin hS h0
    have hL : dnL l s = dnT l (fnd l s) := if_pos h0
    rw [hL]
    have hE2 := dn_crew hE g4 g2
    have hl2 : (dnT l (fnd l s)).length ≤ 9 := by rw [dnT_len g4]; omega
    have hr := lst_right hE2
    have hk2 := crew_ok hE2
    have hln : (LST (dnT l (fnd l s)) c).length ≤ 9 := by rw [(LST_is (check_spec g2) hk2.2.2).len]; exact hl2
    refine ⟨fun A2 c2 W hp => listed_ok A2 _ c2 _ c W g1 hl2 hE2 hp, fun A2 c2 A3 c3 W hp hi => ?_⟩
    have := Right_any A2 _ c2 (dnT l (fnd l s)) c A3 _ c3 (LST (dnT l (fnd l s)) c) W g1 (by omega) hp hi
    rw [hr] at this
    exact this
end Go.Proofs.Ytgijekhlbkfanaa

namespace Go.Proofs.Ytgijekhlbkfanaa
open Go.RowKit
attribute [local go_sem] Later.cell Same.cell

set_option maxRecDepth 20000 in
set_option maxHeartbeats 32000000 in
theorem listed_walk (A : Option Addr) (len cap : Nat) (xs : List TkR) (c : Int) (w : World) (hlc : len ≤ cap ∧ cap ≤ 9223372036854775807) (hP : Rows 4 tk4 dTR w w.heap.size A len xs) (hg : ∀ x ∈ xs, gTk w x) (hc : -9223372036854775808 ≤ c ∧ c ≤ 9223372036854775807) :
    Calls Try.prog 10 #[.slice A len cap, .int .i64 c] w fun e w' => e = .returned (.bool true) ∧ Below w.heap.size w w' := by
  have hx := plan_in hP hg
  obtain ⟨l, hl⟩ : ∃ l, l = xs.map (·.2) := ⟨_, rfl⟩
  rw [← hl] at hx
  have hSm : l.length ≤ 1000 → (∀ i, i < l.length → (tkA l i).af.length ≤ 1000) → Sml l := fun a b => by rw [hl] at a b ⊢; exact sml_in hg a b
  have hnm : ∀ i, i < l.length → (tkA l i).nm.size ≤ 9223372036854775807 := fun i hi => by
    rw [hl] at hi ⊢
    obtain ⟨x, h1, h2⟩ := tkA_in hi
    rw [h2]; exact (hg x h1).2.1.1
  clear hP hg hl
  obtain rfl : l.length = len := hx.1
  have hlc0 := hlc
  have c0 := fun W => tawake9_any W
  have cm := fun W (h : Below w.heap.size w W) (h9 : l.length ≤ 9) => rCheck_any0 A l.length cap l W (by omega) hnm (hx.go h)
  have C0 := Lib.hid c0
  have CM := Lib.hid cm
  have HX := Lib.hid hx
  have HSM := Lib.hid hSm
  have HNM := Lib.hid hnm
  clear c0 cm hx hSm hnm
  go_enter Try.func10, Try.ntmps10
  go_wp2_with fail
  go_loopw [5, 6, 7] (fun a' b' i' W => ∃ (k : Nat) (a b : Int), k ≤ l.length ∧ k ≤ 30 ∧ i' = .int .i64 (k : Int) ∧ a' = .int .i64 a ∧ b' = .int .i64 b ∧ Hid (Below w.heap.size w W)) (fun _ _ i' _ => 30 - (intOf i').toNat)
  case atStart => exact ⟨0, 0, 0, Nat.zero_le _, Nat.zero_le _, rfl, rfl, rfl, Lib.hid (Below.refl _ _)⟩
  case round =>
    obtain ⟨k, a, b, hk, hk3, rfl, rfl, rfl, HB⟩ := hrel
    by_cases hlt : k < l.length ∧ k < 30
    · obtain ⟨b0, off, rfl, hb0, hc1, hc2, hc3, A', n, cc, hc4, hn1, hn2, hSt⟩ := (HX.out.below HB.out).at_ k hlt.1
      have hk1 : (k : Int) < l.length := by omega
      have hk2 : ¬ l.length ≤ k := by omega
      have hk4 : (k : Int) < 30 := by omega
      clear hSt hc2 hc3
      go_wp2_with fail
      go_roundw
      case rel => exact ⟨k + 1, _, _, by omega, by omega, by go_num, rfl, rfl, HB⟩
      case measure => simp [intOf]; omega
    · by_cases hlt2 : k < l.length
      · have hk1 : (k : Int) < l.length := by omega
        have hk4 : ¬ (k : Int) < 30 := by omega
        have h9i : (9 : Int) < l.length := by omega
        go_wp2_with fail
        refine (C0.out _).mono ?_
        rintro e w99 ⟨rfl, hb99⟩
        have HB99 := Lib.hid (HB.out.trans (hb99.mono HB.out.size))
        clear hb99
        go_wp2_with fail
        go_ret
        exact ⟨rfl, HB99.out⟩
      · have hk0 : k = l.length := by omega
        have hk1 : ¬ (k : Int) < l.length := by omega
        by_cases h9 : 9 < l.length
        · have h9i : (9 : Int) < l.length := by omega
          go_wp2_with fail
          refine (C0.out _).mono ?_
          rintro e w99 ⟨rfl, hb99⟩
          have HB99 := Lib.hid (HB.out.trans (hb99.mono HB.out.size))
          clear hb99
          go_wp2_with fail
          go_ret
          exact ⟨rfl, HB99.out⟩
        have h9i : ¬ (9 : Int) < l.length := by omega
        by_cases ha3 : 300 < a
        · skip
          go_wp2_with fail
          refine (C0.out _).mono ?_
          rintro e w99 ⟨rfl, hb99⟩
          have HB99 := Lib.hid (HB.out.trans (hb99.mono HB.out.size))
          clear hb99
          go_wp2_with fail
          go_ret
          exact ⟨rfl, HB99.out⟩
        by_cases hb6 : 60 < b
        · skip
          go_wp2_with fail
          refine (C0.out _).mono ?_
          rintro e w99 ⟨rfl, hb99⟩
          have HB99 := Lib.hid (HB.out.trans (hb99.mono HB.out.size))
          clear hb99
          go_wp2_with fail
          go_ret
          exact ⟨rfl, HB99.out⟩
        go_wp2_with fail
        refine (CM.out _ HB.out (by omega)).mono ?_
        rintro e w1 ⟨rfl, hb1⟩
        have HB1 := Lib.hid (HB.out.trans (hb1.mono HB.out.size))
        clear hb1 HB hlt hk hk3
        by_cases hc0 : checkE l = 0
        case neg =>
          have hne : (checkE l == 0) = false := by simpa using hc0
          generalize checkE l = E at *
          go_wp2_with fail
          refine (C0.out _).mono ?_
          rintro e w99 ⟨rfl, hb99⟩
          have HB99 := Lib.hid (HB1.out.trans (hb99.mono HB1.out.size))
          clear hb99
          go_wp2_with fail
          go_ret
          exact ⟨rfl, HB99.out⟩
        rw [hc0]
        by_cases hcb1 : c < 1
        · skip
          go_wp2_with fail
          refine (C0.out _).mono ?_
          rintro e w99 ⟨rfl, hb99⟩
          have HB99 := Lib.hid (HB1.out.trans (hb99.mono HB1.out.size))
          clear hb99
          go_wp2_with fail
          go_ret
          exact ⟨rfl, HB99.out⟩
        by_cases hcb2 : 100 < c
        · skip
          go_wp2_with fail
          refine (C0.out _).mono ?_
          rintro e w99 ⟨rfl, hb99⟩
          have HB99 := Lib.hid (HB1.out.trans (hb99.mono HB1.out.size))
          clear hb99
          go_wp2_with fail
          go_ret
          exact ⟨rfl, HB99.out⟩
        have hP := check_spec hc0
        have hS := HSM.out (by omega) (fun i hi => by have := hP.few i hi; omega)
        have hwb := fun k hk => wkG_bd hP k hk
        have hdb := fun k hk => dyS_bd hP k hk
        have HWB := Lib.hid hwb
        have HDB := Lib.hid hdb
        have HMB := Lib.hid (fun k (hk : k < l.length) => mnA_bd hP hk)
        have HYB := Lib.hid (fun k (hk : k < l.length) => dy_bd hP hk)
        have HC0 := Lib.hid hc0
        have HSS := Lib.hid hS
        have HP := Lib.hid hP
        clear hP hS hwb hdb hc0 HSM CM
        have h9l : l.length ≤ 9 := by omega
        clear h9 hk0 hk1 h9i
        go_wp2_with fail
        go_loopw [8, 9, 10] (fun a' b' i' W => ∃ (k : Nat), k ≤ l.length ∧ i' = .int .i64 (k : Int) ∧ a' = .int .i64 (sN (wkG l) k) ∧ b' = .int .i64 (sN (dyA l) k) ∧ Hid (Below w.heap.size w W)) (fun _ _ i' _ => l.length - (intOf i').toNat)
        case atStart => exact ⟨0, Nat.zero_le _, rfl, rfl, rfl, HB1⟩
        case round =>
          clear HB1
          obtain ⟨k, hk, rfl, rfl, rfl, HB⟩ := hrel
          by_cases hlt : k < l.length
          · obtain ⟨b0, off, rfl, hb0, hc1, hc2, hc3, -⟩ := (HX.out.below HB.out).at_ k hlt
            have hk1 : (k : Int) < l.length := by omega
            have hk2 : ¬ l.length ≤ k := by omega
            have hbs := HB.out.size
            have hb1 : b0 < wr.heap.size := by omega
            have hm := HWB.out k hk
            have hd := HDB.out k hk
            have hnx : sN (wkG l) (k + 1) = sN (wkG l) k + (tkA l k).mn * (tkA l k).dy := rfl
            have hnd : sN (dyA l) (k + 1) = sN (dyA l) k + (tkA l k).dy := rfl
            have h2 := HMB.out k hlt
            have h3 := HYB.out k hlt
            have h4 := mul_bd (x := mnA l k) (y := dyA l k) (X := 16) (Y := 1000) ⟨by omega, h2.2⟩ ⟨by omega, h3.2⟩
            change 0 ≤ (tkA l k).mn * (tkA l k).dy ∧ (tkA l k).mn * (tkA l k).dy ≤ _ at h4
            change 1 ≤ (tkA l k).dy ∧ (tkA l k).dy ≤ 1000 at h3
            change 1 ≤ (tkA l k).mn ∧ (tkA l k).mn ≤ 16 at h2
            generalize (tkA l k).dy = Y at *
            generalize (tkA l k).mn = Z at *
            generalize sN (wkG l) k = M at *
            generalize sN (dyA l) k = D at *
            have hwm : wrap64 (Z * Y) = Z * Y := IntWalk.wrap64_in _ ⟨by omega, by omega⟩
            have hwr : wrap64 (M + Z * Y) = M + Z * Y := IntWalk.wrap64_in _ ⟨by omega, by omega⟩
            have HWD := Lib.hid (show wrap64 (D + Y) = D + Y from IntWalk.wrap64_in _ ⟨by omega, by omega⟩)
            have HNX := Lib.hid hnx
            have HND := Lib.hid hnd
            clear hnx hnd h4 hc1
            go_wp2_with fail
            (refine wp_region_later (by kernel_rfl) (by kernel_rfl) ?_; (repeat (go_big_quiet_step ((fail)))); refine wpQuiet_nil ?_)
            intro w3 hb3
            have t2 := (hb3.cell (p := ⟨b0, off + k * 4 + 1, none⟩) hb1).trans hc2
            have hb1' : b0 < w3.heap.size := by have := hb3.size; omega
            have HB3 := Lib.hid (HB.out.trans (hb3.mono hbs))
            clear hb3 HB hc2 hc3
            go_wp2_with fail
            go_roundw
            case rel => exact ⟨k + 1, by omega, by go_num, by rw [HNX.out, hwr], by first | rw [HND.out] | rw [HND.out, HWD.out], HB3⟩
            case measure => simp [intOf]; omega
          · have hkn : k = l.length := by omega
            have hk1 : ¬ (k : Int) < l.length := by omega
            have hT : totD l = sN (dyA l) l.length := rfl
            have hTb := HDB.out l.length (Nat.le_refl _)
            rw [hkn, ← hT]
            rw [← hT] at hTb
            clear hT hkn hk HWB HDB HMB hlt
            by_cases hd6 : 600 < totD l
            · skip
              go_wp2_with fail
              refine (C0.out _).mono ?_
              rintro e w99 ⟨rfl, hb99⟩
              have HB99 := Lib.hid (HB.out.trans (hb99.mono HB.out.size))
              clear hb99
              go_wp2_with fail
              go_ret
              exact ⟨rfl, HB99.out⟩
            have c1 := fun W (h : Below w.heap.size w W) => listed_any A l.length cap l c W HSS.out (fun _ => h9l) (HX.out.go h)
            by_cases hE : crewE l c = 0
            case neg =>
              have hE8 : crewE l c = 8 := (tl_crew HC0.out ⟨by omega, by omega⟩).resolve_left hE
              rw [hE8] at c1
              have C1 := Lib.hid c1
              clear c1 hE hE8
              go_wp2_with fail
              refine (C1.out _ HB.out).mono ?_
              rintro e w2 ⟨⟨v, rfl, -⟩, hb2⟩
              have HB2 := Lib.hid (HB.out.trans (hb2.mono HB.out.size))
              clear hb2
              go_wp2_with fail
              refine (C0.out _).mono ?_
              rintro e w99 ⟨rfl, hb99⟩
              have HB99 := Lib.hid (HB2.out.trans (hb99.mono HB2.out.size))
              clear hb99
              go_wp2_with fail
              go_ret
              exact ⟨rfl, HB99.out⟩
            have hF := tl_facts hE (by omega)
            obtain ⟨X, hX⟩ : ∃ X, X = LST l c := ⟨_, rfl⟩
            obtain ⟨e0, he0⟩ : ∃ e0, e0 = endsV l (LST l c) := ⟨_, rfl⟩
            obtain ⟨Y, hY⟩ : ∃ Y, Y = chnV l := ⟨_, rfl⟩
            rw [hE, show lstX l c = LST l c from if_pos hE, hF.ln] at c1
            have c2 := fun A' k' W (h : Below w.heap.size w W) (hy : Ints W W.heap.size A' l.length (LST l c)) => Ends_any A l.length cap l A' l.length k' (LST l c) W HSS.out (by omega) (HX.out.go h) hy
            rw [hF.ends.1, hF.ends.2] at c2
            have c3 := fun W (h : Below w.heap.size w W) => Chain_any A l.length cap l W HSS.out (HX.out.go h)
            rw [HC0.out, show chnE l = chnV l from if_pos HC0.out] at c3
            have c4 := fun W (h : Below w.heap.size w W) => Length_any A l.length cap l W HSS.out (HX.out.go h)
            rw [show lenE l = lenV l from if_pos HC0.out, HC0.out] at c4
            have c5 := fun (e : Int) (h0 : 0 ≤ e) (h1 : e < endsV l (LST l c)) A' k' W (h : Below w.heap.size w W) (hy : Ints W W.heap.size A' l.length (LST l c)) => by
              have := Men_any A l.length cap l A' l.length k' (LST l c) e W HSS.out (by omega) (HX.out.go h) hy
              rw [(hF.menE e h0 h1).1, (hF.menE e h0 h1).2] at this
              exact this
            have c6 := fun i (hi : i < l.length) => tl_rest (cap := cap) HSS.out h9l hE HX.out (tkA l i).nm (HNM.out i hi)
            have hlf0 := lfV_zero l c
            have hlfn := fun k => lfV_next l c k
            have hlen := hF.len
            have hle := hF.le
            have hp0 := hF.pos
            have hcl := hF.cl
            rw [← hlf0]
            rw [← he0, ← hX] at c2
            rw [← he0] at c5
            simp only [← hX] at c5
            rw [← hX] at c1
            rw [← hY] at c3 hcl
            have hmn := hF.men
            have hlb := hF.bd
            have hdn := hF.done
            have hch := hF.chn
            have hdy := hF.day
            have hln := hF.ln
            rw [← he0] at hmn hlb hdn hlen hle hp0
            rw [← hX] at hmn hch hdy hln
            simp only [← hX] at hlfn
            subst hY
            generalize chnV l = Y at *
            generalize lfV l c = LF at *
            generalize lenV l = L at *
            have C1 := Lib.hid c1
            have C2 := Lib.hid c2
            have C3 := Lib.hid c3
            have C4 := Lib.hid c4
            have C5 := Lib.hid c5
            have C6 := Lib.hid c6
            have HMN := Lib.hid hmn
            have HLB := Lib.hid hlb
            have HDN := Lib.hid hdn
            have HCH := Lib.hid hch
            have HDY := Lib.hid hdy
            have HLN := Lib.hid hln
            have HLF := Lib.hid hlfn
            clear c1 c2 c3 c4 c5 c6 hmn hlb hdn hch hdy hln hlf0 hlfn hF hX he0 hE HC0 HP HSS
            generalize totD l = TD at *
            have hq1 : ¬ e0 < L := by omega
            have hq2 : ¬ TD < e0 := by omega
            go_wp2_with fail
            refine (C1.out _ HB.out).mono ?_
            rintro e w2 ⟨⟨v, rfl, ho⟩, hb2⟩
            obtain ⟨A2, k2, rfl, q1, q2, hIa, -⟩ := own_ints ho
            have HB2 := Lib.hid (HB.out.trans (hb2.mono HB.out.size))
            clear hb2 ho HB
            go_wp2_with fail
            refine (C2.out _ _ _ HB2.out hIa).mono ?_
            rintro e w3 ⟨rfl, hb3⟩
            have HB3 := Lib.hid (HB2.out.trans (hb3.mono HB2.out.size))
            replace hIa := hIa.go hb3
            clear hb3 HB2 C2
            go_wp2_with fail
            refine (C3.out _ HB3.out).mono ?_
            rintro e w4 ⟨⟨v, rfl, ho⟩, hb4⟩
            obtain ⟨A3, k3, rfl, q3, q4, hIc, -⟩ := own_ints ho
            have HB4 := Lib.hid (HB3.out.trans (hb4.mono HB3.out.size))
            replace hIa := hIa.go hb4
            clear hb4 ho HB3 C3
            go_wp2_with fail
            refine (C4.out _ HB4.out).mono ?_
            rintro e w5 ⟨rfl, hb5⟩
            have HB5 := Lib.hid (HB4.out.trans (hb5.mono HB4.out.size))
            have HIA := Lib.hid (hIa.go hb5)
            have HIC := Lib.hid (hIc.go hb5)
            clear hb5 hIa hIc HB4 C4 C1
            go_wp2_with fail
            clear hk1 hd6 hq1 hq2 hlen
            go_loopw [19] (fun i' W => ∃ (k : Nat), 1 ≤ k ∧ (k ≤ Y.length ∨ k = 1) ∧ i' = .int .i64 (k : Int) ∧ Hid (Below w.heap.size w W) ∧ Hid (Ints W W.heap.size A2 l.length X) ∧ Hid (Ints W W.heap.size A3 Y.length (iN Y))) (fun i' _ => Y.length - (intOf i').toNat)
            case atStart => exact ⟨1, Nat.le_refl _, .inr rfl, rfl, HB5, HIA, HIC⟩
            case round =>
              clear HB5 HIA HIC
              obtain ⟨k, hk1, hk2, rfl, HB, HIA, HIC⟩ := hrel
              by_cases hlt : k < Y.length
              · obtain ⟨j, rfl⟩ : ∃ j, k = j + 1 := ⟨k - 1, by omega⟩
                obtain ⟨p, q, hp, hq, hpl, hql, hle2⟩ := HCH.out j hlt
                obtain ⟨b3, off3, rfl, hb3, hcp⟩ := HIC.out.at_ j (by omega)
                obtain ⟨b3', off3', e3, -, hcq⟩ := HIC.out.at_ (j + 1) hlt
                injection e3 with e3
                injection e3 with e31 e32
                subst e31 e32
                change wr.cell? _ = some (.int .i64 (gI (iN Y) j)) at hcp
                change wr.cell? _ = some (.int .i64 (gI (iN Y) (j + 1))) at hcq
                rw [hp] at hcp
                rw [hq] at hcq
                obtain ⟨b2, off2, rfl, hb2, hdp⟩ := HIA.out.at_ p hpl
                obtain ⟨b2', off2', e4, -, hdq⟩ := HIA.out.at_ q hql
                injection e4 with e4
                injection e4 with e41 e42
                subst e41 e42
                change wr.cell? _ = some (.int .i64 (gI X p)) at hdp
                change wr.cell? _ = some (.int .i64 (gI X q)) at hdq
                obtain ⟨b0, off, rfl, hb0, -, hc2, -, -⟩ := (HX.out.below HB.out).at_ p hpl
                have hbs := HB.out.size
                have hb1 : b0 < wr.heap.size := by omega
                have hxp := HDY.out p hpl
                have hxq := HDY.out q hql
                have hyp := HYB.out p hpl
                change 1 ≤ (tkA l p).dy ∧ (tkA l p).dy ≤ 1000 at hyp
                change gI X p + (tkA l p).dy ≤ gI X q at hle2
                have hln := HLN.out
                generalize (tkA l p).dy = D at *
                generalize gI X p = Gp at *
                generalize gI X q = Gq at *
                have hwr : wrap64 (Gp + D) = Gp + D := IntWalk.wrap64_in _ ⟨by omega, by omega⟩
                have hj1 : ((j + 1 : Nat) : Int) < Y.length := by omega
                have hj2 : ¬ Y.length ≤ j + 1 := by omega
                have hj3 : (j : Int) < Y.length := by omega
                have hj4 : ¬ Y.length ≤ j := by omega
                have hws : wrap64 (((j + 1 : Nat) : Int) - 1) = (j : Int) := by rw [show ((j + 1 : Nat) : Int) - 1 = (j : Int) by omega]; exact IntWalk.wrap64_in _ ⟨by omega, by omega⟩
                have hpi : (p : Int) < l.length := by omega
                have hpn : ¬ l.length ≤ p := by omega
                have hqi : (q : Int) < l.length := by omega
                have hqn : ¬ l.length ≤ q := by omega
                have hng : ¬ Gq < Gp + D := by omega
                have HLE := Lib.hid hle2
                clear hp hq hle2 hln
                go_wp2_with fail
                (refine wp_region_later (by kernel_rfl) (by kernel_rfl) ?_; (repeat (go_big_quiet_step ((fail)))); refine wpQuiet_nil ?_)
                intro w6 hb6
                have HB6 := Lib.hid (HB.out.trans (hb6.mono hbs))
                have HA6 := Lib.hid (HIA.out.go hb6)
                have HC6 := Lib.hid (HIC.out.go hb6)
                clear hb6 HB HIA HIC hcp hcq hdp hdq hc2
                go_wp2_with fail
                go_roundw
                case rel => exact ⟨j + 1 + 1, by omega, by omega, by go_num, HB6, HA6, HC6⟩
                case measure => simp [intOf]; omega
              · have hk3 : ¬ (k : Int) < Y.length := by omega
                clear HIC HCH hk2 hlt
                go_wp2_with fail
                go_loopw [8, 20] (fun a' d' W => ∃ (k : Nat), (k : Int) ≤ e0 ∧ d' = .int .i64 (k : Int) ∧ a' = .int .i64 (LF k) ∧ Hid (Below w.heap.size w W) ∧ Hid (Ints W W.heap.size A2 l.length X)) (fun _ d' _ => e0.toNat - (intOf d').toNat)
                case atStart => exact ⟨0, hp0, rfl, rfl, HB, HIA⟩
                case round =>
                  clear HB HIA
                  obtain ⟨d, hd, rfl, rfl, HB, HIA⟩ := hrel
                  by_cases hlt : (d : Int) < e0
                  · have c5 := C5.out (d : Int) (by omega) hlt A2 k2 wr HB.out HIA.out
                    have hm := HMN.out (d : Int) (by omega) hlt
                    have hl1 := HLB.out d (by omega)
                    have hl2 := HLB.out (d + 1) (by omega)
                    have hnx := HLF.out d
                    generalize menV l X (d : Int) = M at *
                    generalize LF d = F at *
                    have C5' := Lib.hid c5
                    have HNX := Lib.hid hnx
                    have hm1 : ¬ c < M := by omega
                    have hm2 : ¬ M < 1 := by omega
                    have HWF := Lib.hid (show wrap64 (F - M) = F - M from IntWalk.wrap64_in _ ⟨by omega, by omega⟩)
                    have hmm := hm
                    clear c5 hnx hm hl2
                    go_wp2_with fail
                    refine C5'.out.mono ?_
                    rintro e w6 ⟨rfl, hb6⟩
                    have HB6 := Lib.hid (HB.out.trans (hb6.mono HB.out.size))
                    have HA6 := Lib.hid (HIA.out.go hb6)
                    clear hb6 HB HIA C5'
                    go_wp2_with fail
                    go_roundw
                    case rel => exact ⟨d + 1, by omega, by go_num, by first | rw [HNX.out] | rw [HNX.out, HWF.out], HB6, HA6⟩
                    case measure => simp [intOf]; omega
                  · have hde : (d : Int) = e0 := by omega
                    have hlz : LF d = 0 := by rw [← HDN.out]; exact congrArg LF (by omega)
                    rw [hlz]
                    clear HIA HMN HLB HDN HLF hlz hde hd
                    go_wp2_with fail
                    go_loopw [23] (fun i' W => ∃ (k : Nat), k ≤ l.length ∧ i' = .int .i64 (k : Int) ∧ Hid (Below w.heap.size w W)) (fun i' _ => l.length - (intOf i').toNat)
                    case atStart => exact ⟨0, Nat.zero_le _, rfl, HB⟩
                    case round =>
                      clear HB
                      obtain ⟨k, hk, rfl, HB⟩ := hrel
                      by_cases hlt : k < l.length
                      · obtain ⟨E, n, m, L2, X2, g1, g2⟩ := C6.out k hlt
                        obtain ⟨b0, off, rfl, hb0, hc1, -, -, -⟩ := (HX.out.below HB.out).at_ k hlt
                        have hk1 : (k : Int) < l.length := by omega
                        have hk2 : ¬ l.length ≤ k := by omega
                        have G1 := Lib.hid (g1 wr HB.out)
                        have G2 := Lib.hid g2
                        clear g1 g2
                        go_wp2_with fail
                        refine G1.out.mono ?_
                        rintro e w6 ⟨⟨A9, k9, rfl, hp9⟩, hb6⟩
                        have HB6 := Lib.hid (HB.out.trans (hb6.mono HB.out.size))
                        have HP9 := Lib.hid hp9
                        clear hb6 hp9 HB G1 hc1
                        by_cases hE : E = 0
                        case neg =>
                          have hne : (E == 0) = false := by simpa using hE
                          clear G2 hE
                          go_wp2_with fail
                          go_roundw
                          case rel => exact ⟨k + 1, by omega, by go_num, HB6⟩
                          case measure => simp [intOf]; omega
                        subst hE
                        obtain ⟨g2, g3⟩ := G2.out rfl
                        have G3 := Lib.hid (g2 A9 k9 w6 HP9.out)
                        have G4 := Lib.hid (g3 A9 k9)
                        clear g2 g3 G2
                        go_wp2_with fail
                        refine G3.out.mono ?_
                        rintro e w7 ⟨⟨v, rfl, ho⟩, hb7⟩
                        obtain ⟨A8, k8, rfl, q8, q9, hI8, -⟩ := own_ints ho
                        have HB7 := Lib.hid (HB6.out.trans (hb7.mono HB6.out.size))
                        have HG5 := Lib.hid (G4.out A8 k8 w7 (HP9.out.go hb7) hI8)
                        clear hb7 ho hI8 HB6 HP9 G3 G4
                        go_wp2_with fail
                        refine HG5.out.mono ?_
                        rintro e w8 ⟨rfl, hb8⟩
                        have HB8 := Lib.hid (HB7.out.trans (hb8.mono HB7.out.size))
                        clear hb8 HB7 HG5
                        go_wp2_with fail
                        go_roundw
                        case rel => exact ⟨k + 1, by omega, by go_num, HB8⟩
                        case measure => simp [intOf]; omega
                      · have hk3 : ¬ (k : Int) < l.length := by omega
                        clear hlt hk
                        go_wp2_with fail
                        refine (C0.out _).mono ?_
                        rintro e w99 ⟨rfl, hb99⟩
                        have HB99 := Lib.hid (HB.out.trans (hb99.mono HB.out.size))
                        clear hb99
                        go_wp2_with fail
                        go_ret
                        exact ⟨rfl, HB99.out⟩
end Go.Proofs.Ytgijekhlbkfanaa
