/- Plans: Ends of the program; days of a schedule. -/
import Derived.Test.YtgijekhlbkfanaaJobQ5
import Derived.Test.YtgijekhlbkfanaaJobP
import Derived.Test.YtgijekhlbkfanaaSchN
import Derived.BigQuiet
set_option linter.unusedSimpArgs false
set_option linter.unusedVariables false
namespace Go.Proofs.Ytgijekhlbkfanaa
open Go.RowKit Go.Shelf
attribute [local go_sem] Later.cell Same.cell

def dysB (days : List Int) : Bool := days.all fun d => wi d 0 100000
theorem dysB_bd {days : List Int} (h : dysB days = true) : bdE 1000000 days := fun i => by
  unfold gI
  by_cases hi : i < days.length
  · rw [List.getElem?_eq_getElem hi]
    have := wi_iff.1 (List.all_eq_true.1 h _ (List.getElem_mem hi))
    show 0 ≤ days[i] ∧ days[i] ≤ _
    omega
  · rw [List.getElem?_eq_none (by omega)]
    show (0 : Int) ≤ 0 ∧ (0 : Int) ≤ 1000000
    omega
theorem dysB_no {days : List Int} {k : Nat} (hk : k < days.length) (h : wi (gI days k) 0 100000 = false) : dysB days = false := by
  cases hd : dysB days with
  | false => rfl
  | true =>
    have := List.all_eq_true.1 hd _ (List.getElem_mem hk)
    rw [show gI days k = days[k] from by unfold gI; rw [List.getElem?_eq_getElem hk]; rfl] at h
    rw [this] at h; cases h
theorem dysB_yes {days : List Int} (h : ∀ k, k < days.length → wi (gI days k) 0 100000 = true) : dysB days = true := by
  unfold dysB
  rw [List.all_eq_true]
  intro x hx
  obtain ⟨k, hk, rfl⟩ := List.getElem_of_mem hx
  have := h k hk
  rw [show gI days k = days[k] from by unfold gI; rw [List.getElem?_eq_getElem hk]; rfl] at this
  exact this
def bgB (l : List Tk) (days : List Int) : Bool := decide (days.length = l.length) && dysB days
def endE (l : List Tk) (days : List Int) : Int := if checkE l = 0 then (if bgB l days = true then 0 else 7) else checkE l
def endV (l : List Tk) (days : List Int) : Int := if endE l days = 0 then endsV l days else 0
set_option maxHeartbeats 1000000 in
theorem begin1_any (d : Int) (w : World) : Calls Try.prog 117 #[.int .i64 d] w fun e w' => e = .returned (.bool (!wi d 0 100000)) ∧ w = w' := by
  have c1 := fun W => jwithin_any d 0 100000 W
  generalize wi d 0 100000 = b at *
  have C1 := Lib.hid c1
  clear c1
  go_enter Try.func117, Try.ntmps117
  go_wp2_with fail
  refine (C1.out _).mono ?_
  rintro e w1 ⟨rfl, rfl⟩
  go_wp2
  go_ret
  exact ⟨rfl, rfl⟩
set_option maxRecDepth 20000 in
set_option maxHeartbeats 2000000 in
theorem begIdx_any (A : Option Addr) (len cap : Nat) (days : List Int) (w : World) (hm : len ≤ 9223372036854775807) (hx : Ints w w.heap.size A len days) :
    Calls Try.prog 123 #[.slice A len cap, .func (.func 117) #[] #[]] w fun e w' => (∃ R : Int, e = .returned (.int .i64 R) ∧ decide (0 ≤ R) = !dysB days) ∧ w = w' := by
  obtain rfl : days.length = len := hx.1
  have HX := Lib.hid hx
  clear hx
  go_enter Try.func123, Try.ntmps123
  go_wp2
  go_loopw [8] (fun i W => ∃ k : Nat, k ≤ days.length ∧ i = .int .i64 k ∧ Hid (∀ j, j < k → wi (gI days j) 0 100000 = true) ∧ w = W) (fun i _ => days.length - (intOf i).toNat)
  case atStart => exact ⟨0, Nat.zero_le _, rfl, Lib.hid (fun j hj => absurd hj (by omega)), rfl⟩
  case round =>
    obtain ⟨k, hk, rfl, hT, rfl⟩ := hrel
    by_cases hlt : k < days.length
    · obtain ⟨b, off, rfl, hb0, hc1⟩ := HX.out.at_ k hlt
      change w.cell? _ = some (.int .i64 (gI days k)) at hc1
      have c2 := begin1_any (gI days k) w
      have hk1 : (k : Int) < days.length := by omega
      have hk2 : ¬ days.length ≤ k := by omega
      cases hv : wi (gI days k) 0 100000
      · have HF : Hid (decide ((0 : Int) ≤ (k : Int)) = !dysB days) := Lib.hid (by rw [dysB_no hlt hv]; simp)
        rw [hv] at c2
        generalize gI days k = X at *
        have C2 := Lib.hid c2
        clear c2 hT hv
        go_wp2_with fail
        refine C2.out.mono ?_
        rintro e w1 ⟨rfl, rfl⟩
        go_wp2
        go_ret
        exact ⟨⟨_, rfl, HF.out⟩, rfl⟩
      · have hT2 : Hid (∀ j, j < k + 1 → wi (gI days j) 0 100000 = true) := Lib.hid (fun j hj => if e : j = k then (by rw [e]; exact hv) else hT.out j (by omega))
        rw [hv] at c2
        generalize gI days k = X at *
        have C2 := Lib.hid c2
        clear c2 hT hv
        go_wp2_with fail
        refine C2.out.mono ?_
        rintro e w1 ⟨rfl, rfl⟩
        go_wp2
        go_roundw
        case rel => exact ⟨k + 1, by omega, by go_num, hT2, by first | rfl | trivial⟩
        case measure => simp [intOf]; omega
    · have hk1 : ¬ (k : Int) < days.length := by omega
      have HF : Hid (decide ((0 : Int) ≤ -1) = !dysB days) := Lib.hid (by rw [dysB_yes fun j hj => hT.out j (by omega)]; rfl)
      clear hT
      go_wp2
      go_ret
      exact ⟨⟨_, rfl, HF.out⟩, rfl⟩
set_option maxHeartbeats 1000000 in
theorem begAny_any (A : Option Addr) (len cap : Nat) (days : List Int) (w : World) (hm : len ≤ 9223372036854775807) (hx : Ints w w.heap.size A len days) :
    Calls Try.prog 116 #[.slice A len cap, .func (.func 117) #[] #[]] w fun e w' => e = .returned (.bool (!dysB days)) ∧ w = w' := by
  have c1 := begIdx_any A len cap days w hm hx
  generalize dysB days = M at *
  have C1 := Lib.hid c1
  clear c1 hx
  go_enter Try.func116, Try.ntmps116
  go_wp2_with fail
  refine C1.out.mono ?_
  rintro e w1 ⟨⟨R, rfl, hR⟩, rfl⟩
  have HR := Lib.hid hR
  clear hR
  go_wp2
  go_ret
  exact ⟨ret_bool HR.out, rfl⟩
set_option maxHeartbeats 2000000 in
theorem begins_any (A : Option Addr) (len cap : Nat) (l : List Tk) (A' : Option Addr) (len' cap' : Nat) (days : List Int) (w : World) (hm : len ≤ 9223372036854775807) (hm' : len' ≤ 9223372036854775807) (hl : l.length = len) (hx : Ints w w.heap.size A' len' days) :
    Calls Try.prog 92 #[.slice A len cap, .slice A' len' cap'] w fun e w' => e = .returned (.bool (bgB l days)) ∧ w = w' := by
  obtain rfl : days.length = len' := hx.1
  subst hl
  have c1 := begAny_any A' days.length cap' days w hm' hx
  have HB : Hid (bgB l days = (decide (days.length = l.length) && dysB days)) := Lib.hid rfl
  generalize bgB l days = M at *
  generalize dysB days = D at *
  have C1 := Lib.hid c1
  clear c1 hx
  go_enter Try.func92, Try.ntmps92
  by_cases h : days.length = l.length
  · have h1 : (days.length : Int) = l.length := by omega
    have HF : Hid (M = D) := Lib.hid (by rw [HB.out, decide_eq_true h, Bool.true_and])
    have h2 : ((days.length : Int) == (l.length : Int)) = true := by simpa using h1
    clear HB h
    go_wp2_with fail
    refine C1.out.mono ?_
    rintro e w1 ⟨rfl, rfl⟩
    go_wp2
    go_ret
    exact ⟨by rw [HF.out]; simp, rfl⟩
  · have HF : Hid (M = false) := Lib.hid (by rw [HB.out, decide_eq_false h, Bool.false_and])
    have h2 : ((days.length : Int) == (l.length : Int)) = false := by simpa using (show ¬ (days.length : Int) = l.length by omega)
    clear HB
    go_wp2
    go_ret
    exact ⟨by rw [HF.out]; rfl, rfl⟩
set_option maxHeartbeats 4000000 in
theorem Ends_any (A : Option Addr) (len cap : Nat) (l : List Tk) (A' : Option Addr) (len' cap' : Nat) (days : List Int) (w : World) (hS : Sml l) (hm' : len' ≤ 9223372036854775807) (hx : Plan w w.heap.size A len l) (hy : Ints w w.heap.size A' len' days) :
    Calls Try.prog 46 #[.slice A len cap, .slice A' len' cap'] w fun e w' => e = .returned (.tuple #[.int .i64 (endV l days), .int .i64 (endE l days)]) ∧ Below w.heap.size w w' := by
  have hl := hx.1
  have c1 := Check_any A len cap l w hS hx
  have c2 := fun W (h : Below w.heap.size w W) => begins_any A len cap l A' len' cap' days W (by have := hS.len; omega) hm' hl ((hy.below h).more h.size)
  by_cases h0 : checkE l = 0
  · have hP := check_spec h0
    rw [h0] at c1
    cases hb : bgB l days
    · rw [hb] at c2
      have hE : endE l days = 7 := by unfold endE; rw [if_pos h0, hb]; rfl
      have hV : endV l days = 0 := by unfold endV; rw [hE]; rfl
      rw [hE, hV]
      have C1 := Lib.hid c1
      have C2 := Lib.hid c2
      clear c1 c2 hx hy hE hV h0 hP hb hl
      go_enter Try.func46, Try.ntmps46
      go_wp2_with fail
      refine C1.out.mono ?_
      rintro e w1 ⟨rfl, hb⟩
      have hB_w1 : Below w.heap.size w w1 := (by repeat (first | exact Below.refl _ _ | assumption | refine Below.setCell ?_ (by first | (simp; done) | (simp; omega) | omega) _ | refine Below.drew ?_ | refine below_drewN ?_ _ | refine Below.alloc ?_ (by first | (simp; done) | (simp; omega) | omega) _ | refine below_alloc ?_ _ | refine below_step ?_ (by assumption))); have hz_w1 := hB_w1.size; clear hb
      go_wp2_with fail
      refine (C2.out _ hB_w1).mono ?_
      rintro e w2 ⟨rfl, rfl⟩
      go_wp2
      go_ret2
      exact ⟨rfl, hB_w1⟩
    · rw [hb] at c2
      have hE : endE l days = 0 := by unfold endE; rw [if_pos h0, hb]; rfl
      have hV : endV l days = endsV l days := by unfold endV; rw [hE]; rfl
      have hbb := hb
      unfold bgB at hbb
      rw [Bool.and_eq_true, decide_eq_true_eq] at hbb
      have hll : days.length = len' := hy.1
      have hle : len' = len := by omega
      subst hle
      have c3 := fun W (h : Below w.heap.size w W) => ends_any A len' cap l A' cap' days W hP (hx.go h) ((hy.below h).more h.size) (dysB_bd hbb.2)
      rw [hE, hV]
      generalize endsV l days = V at *
      have C1 := Lib.hid c1
      have C2 := Lib.hid c2
      have C3 := Lib.hid c3
      clear c1 c2 c3 hx hy hE hV h0 hP hb hbb hl hll
      go_enter Try.func46, Try.ntmps46
      go_wp2_with fail
      refine C1.out.mono ?_
      rintro e w1 ⟨rfl, hb⟩
      have hB_w1 : Below w.heap.size w w1 := (by repeat (first | exact Below.refl _ _ | assumption | refine Below.setCell ?_ (by first | (simp; done) | (simp; omega) | omega) _ | refine Below.drew ?_ | refine below_drewN ?_ _ | refine Below.alloc ?_ (by first | (simp; done) | (simp; omega) | omega) _ | refine below_alloc ?_ _ | refine below_step ?_ (by assumption))); have hz_w1 := hB_w1.size; clear hb
      go_wp2_with fail
      refine (C2.out _ hB_w1).mono ?_
      rintro e w2 ⟨rfl, rfl⟩
      go_wp2_with fail
      refine (C3.out _ hB_w1).mono ?_
      rintro e w3 ⟨rfl, hb⟩
      have hB3 := hB_w1.trans (hb.mono hB_w1.size)
      clear hb
      go_wp2
      go_ret2
      exact ⟨rfl, hB3⟩
  · have hE : endE l days = checkE l := by unfold endE; rw [if_neg h0]
    have hV : endV l days = 0 := by unfold endV; rw [hE, if_neg h0]
    rw [hE, hV]
    have hne : (checkE l == 0) = false := by simpa using h0
    generalize checkE l = E at *
    have C1 := Lib.hid c1
    clear c1 c2 hx hy hE hV h0 hl
    go_enter Try.func46, Try.ntmps46
    go_wp2_with fail
    refine C1.out.mono ?_
    rintro e w1 ⟨rfl, hb⟩
    have hB_w1 : Below w.heap.size w w1 := (by repeat (first | exact Below.refl _ _ | assumption | refine Below.setCell ?_ (by first | (simp; done) | (simp; omega) | omega) _ | refine Below.drew ?_ | refine below_drewN ?_ _ | refine Below.alloc ?_ (by first | (simp; done) | (simp; omega) | omega) _ | refine below_alloc ?_ _ | refine below_step ?_ (by assumption))); have hz_w1 := hB_w1.size; clear hb
    go_wp2
    go_ret2
    exact ⟨rfl, hB_w1⟩
def lngV (l : List Tk) (k : Nat) : Int := sN (fun i => if 0 < dyA l i ∧ dyA l i ≤ 1000 then dyA l i else 0) k
theorem lngV_bd (l : List Tk) : ∀ k : Nat, 0 ≤ lngV l k ∧ lngV l k ≤ 1000 * k
  | 0 => by show (0 : Int) ≤ 0 ∧ (0 : Int) ≤ _; omega
  | k + 1 => by
    have := lngV_bd l k
    show 0 ≤ lngV l k + (if 0 < dyA l k ∧ dyA l k ≤ 1000 then dyA l k else 0) ∧ lngV l k + (if 0 < dyA l k ∧ dyA l k ≤ 1000 then dyA l k else 0) ≤ _
    split <;> omega
set_option maxRecDepth 20000 in
set_option maxHeartbeats 4000000 in
theorem long_any (A : Option Addr) (len cap : Nat) (l : List Tk) (w : World) (hm : len ≤ 1000) (hx : Plan w w.heap.size A len l) :
    Calls Try.prog 44 #[.slice A len cap] w fun e w' => e = .returned (.bool (decide (1500 < lngV l l.length))) ∧ Below w.heap.size w w' := by
  obtain rfl : l.length = len := hx.1
  have HX := Lib.hid hx
  clear hx
  go_enter Try.func44, Try.ntmps44
  go_wp2
  go_loopw [3, 4] (fun v i W => ∃ k : Nat, k ≤ l.length ∧ i = .int .i64 k ∧ v = .int .i64 (lngV l k) ∧ Below w.heap.size w W) (fun _ i _ => l.length - (intOf i).toNat)
  case atStart => exact ⟨0, Nat.zero_le _, rfl, rfl, Below.refl _ _⟩
  case round =>
    obtain ⟨k, hk, rfl, rfl, hB⟩ := hrel
    by_cases hlt : k < l.length
    · obtain ⟨b, off, rfl, hb0, -, hc2, -, -⟩ := (HX.out.below hB).at_ k hlt
      have hk1 : (k : Int) < l.length := by omega
      have hk2 : ¬ l.length ≤ k := by omega
      have hbd := lngV_bd l k
      have hn : lngV l (k + 1) = lngV l k + (if 0 < (tkA l k).dy ∧ (tkA l k).dy ≤ 1000 then (tkA l k).dy else 0) := rfl
      generalize (tkA l k).dy = Y at *
      generalize lngV l k = L at *
      by_cases h1 : 0 < Y
      · by_cases h2 : Y ≤ 1000
        · have HN : Hid (lngV l (k + 1) = L + Y) := Lib.hid (by rw [hn, if_pos ⟨h1, h2⟩])
          have hwr : wrap64 (L + Y) = L + Y := IntWalk.wrap64_in _ ⟨by omega, by omega⟩
          clear hn
          go_wp2
          go_roundw
          case rel => exact ⟨k + 1, by omega, by go_num, by rw [HN.out], hB⟩
          case measure => simp [intOf]; omega
        · have HN : Hid (lngV l (k + 1) = L) := Lib.hid (by rw [hn, if_neg (by omega)]; omega)
          clear hn
          go_wp2
          go_roundw
          case rel => exact ⟨k + 1, by omega, by go_num, by rw [HN.out], hB⟩
          case measure => simp [intOf]; omega
      · have HN : Hid (lngV l (k + 1) = L) := Lib.hid (by rw [hn, if_neg (by omega)]; omega)
        clear hn
        go_wp2
        go_roundw
        case rel => exact ⟨k + 1, by omega, by go_num, by rw [HN.out], hB⟩
        case measure => simp [intOf]; omega
    · have hkl : k = l.length := by omega
      have hk1 : ¬ (k : Int) < l.length := by omega
      subst hkl
      have HB := Lib.hid hB
      clear hB
      go_wp2
      go_ret
      exact ⟨rfl, HB.out⟩
end Go.Proofs.Ytgijekhlbkfanaa
