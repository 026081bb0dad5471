/- Plans: the reference's latest days. -/
import Derived.Test.YtgijekhlbkfanaaJobR5
set_option linter.unusedSimpArgs false
set_option linter.unusedVariables false
namespace Go.Proofs.Ytgijekhlbkfanaa
open Go.RowKit
attribute [local go_sem] Later.cell Same.cell

set_option maxRecDepth 20000 in
set_option maxHeartbeats 16000000 in
theorem rlatest_any (A : Option Addr) (len cap : Nat) (l : List Tk) (w : World) (hS : Sml l) (hP : okP l) (hx : Plan w w.heap.size A len l) :
    Calls Try.prog 77 #[.slice A len cap] w fun e w' => (∃ v, e = .returned v ∧ w'.ownsRow w.heap.size 3 1 v len (icells (latR l))) ∧ Below w.heap.size w w' := by
  obtain rfl : l.length = len := hx.1
  have c2 := fun i W (h : Below w.heap.size w W) (hi : i < l.length) => afters_any A l.length cap l i W (by have := hP.len; omega) hi (by have := hP.few i hi; omega) (hx.go h)
  have haz : ∀ i, i < l.length → afZ l i = iN (afs l i) := fun i hi => afZ_afs (hP.known i hi)
  have c5 := fun W (h : Below w.heap.size w W) => rorder_any A l.length cap l W (by have := hP.len; omega) hP.names (fun i hi => by have := hP.few i hi; omega) (hx.go h)
  have c6 := fun W (h : Below w.heap.size w W) => rearliest_any A l.length cap l W hS hP (hx.go h)
  have c7 := fun A' cap' W (h : Below w.heap.size w W) (hy : Ints W W.heap.size A' l.length (ear l)) => rends_any A l.length cap l A' cap' (ear l) W hP (hx.go h) hy (ear_bdE hP)
  change ∀ A' cap' W _ _, Calls _ _ _ _ (fun e w' => e = .returned (.int .i64 (lenV l)) ∧ _) at c7
  have c8 := fun A n cap xs q W (hn : n ≤ 9223372036854775807) (h : Ints W W.heap.size A n xs) => has_any A n cap xs q W hn h
  obtain ⟨j0, hj, hy0, hy1, hy2⟩ := info_parts jinfo_int
  have hI0 := Lib.hid hj
  have hI1 := Lib.hid hy0
  have hI2 := Lib.hid hy1
  have hI3 := Lib.hid hy2
  have hL := hP.len
  have hlb := lenV_bd hP
  have C2 := Lib.hid c2
  have C5 := Lib.hid c5
  have C6 := Lib.hid c6
  have C7 := Lib.hid c7
  have C8 := Lib.hid c8
  have HAZ := Lib.hid haz
  have HX := Lib.hid hx
  have HP := Lib.hid hP
  clear c2 c5 c6 c7 c8 hx hS hP hj hy0 hy1 hy2 haz
  go_enter Try.func77, Try.ntmps77
  go_wp2_with (at_make; refine wpList_make_full _ rfl _ _ 32 rfl w.heap.size 3 j0 (.int .i64 0) 1 Try.underlying32 hI0.out hI1.out hI2.out _ _ _ _ l.length rfl rfl (by omega) (by omega) (by rw [hI3.out]; omega) (by unfold maxLen; omega) (Nat.le_refl _) ?_; intro w2 hown hgrow; go_frame)
  rw [jmade1] at hown
  have hB2 : Below w.heap.size w w2 := grown_below hgrow (Nat.le_refl _) (fun k hk => by cases hk)
  have HOW := Lib.hid hown
  have hg0 : w.heap.size < w2.heap.size := (jown_at hown).1
  have HB2 := Lib.hid hB2
  clear hown hgrow hB2
  refine (C5.out _ HB2.out).mono ?_
  rintro e w3 ⟨⟨v, rfl, ho⟩, hb⟩
  obtain ⟨A1, cap1, rfl, hq1, hq2, hI, -⟩ := own_ints ho
  have hol : (ord l).length = l.length := HP.out.all
  have hrl : (ord l).reverse.length = l.length := by rw [List.length_reverse]; exact hol
  rw [hol] at ho hI hq1 ⊢
  have HNB := Lib.hid (NB.of_own ho hg0)
  have HE3 : Hid (RaR l w w.heap.size A1 (latRK l 0) w3) := Lib.hid ⟨jown_later HOW.out hb, hI, HB2.out.trans (hb.mono HB2.out.size)⟩
  clear ho hb HOW HB2 hI
  go_wp2_with fail
  refine (C6.out _ HE3.out.bel).mono ?_
  rintro e w4 ⟨⟨v4, rfl, ho4⟩, hb4⟩
  obtain ⟨A4, cap4, rfl, hq4, hq5, hI4, -⟩ := own_ints ho4
  have HE4 := Lib.hid (HE3.out.later hb4)
  clear ho4 hb4 HE3
  go_wp2_with fail
  refine (C7.out A4 cap4 _ HE4.out.bel hI4).mono ?_
  rintro e w5 ⟨rfl, hb5⟩
  have HE := Lib.hid (HE4.out.later hb5)
  clear hI4 hb5 HE4
  go_wp2
  go_loopw [6] (fun i W => ∃ q : Nat, q ≤ l.length ∧ i = .int .i64 ((l.length : Int) - 1 - q) ∧ Hid (RaR l w w.heap.size A1 (latRK l q) W)) (fun i _ => ((intOf i) + 1).toNat)
  case atStart => exact ⟨0, Nat.zero_le _, by simp, HE⟩
  case round =>
    clear HE
    obtain ⟨q, hq, rfl, HE⟩ := hrel
    have hbw := HE.out.bel
    by_cases hlt : q < l.length
    · have hqo : q < (ord l).reverse.length := by omega
      obtain ⟨k, hk⟩ : ∃ k : Nat, k = l.length - 1 - q := ⟨_, rfl⟩
      have hkI : (l.length : Int) - 1 - q = (k : Int) := by omega
      have hkl : k < l.length := by omega
      have hko : k < (ord l).length := by omega
      have hio : (ord l).reverse[q] = (ord l)[k] := by
        rw [List.getElem_reverse]
        congr 1
        omega
      have hil : (ord l)[k] < l.length := ord_lt (List.getElem_mem hko)
      obtain ⟨b5, off5, rfl, hb5, hc5⟩ := HE.out.ord.at_ k hkl
      change wr.cell? _ = some (.int .i64 (gI (iN (ord l)) k)) at hc5
      rw [iN_at hko] at hc5
      have hbd := latRK_bd HP.out q
      have hnx := latRK_next hqo
      rw [hio] at hnx
      have hen := fun j => endR_next l (latRK l q) (ord l)[k] j
      have heb := fun j => endR_bd HP.out (out := latRK l q) (m := 202000 + 1000 * q) (by omega) hbd (ord l)[k] j
      have he0 : endR l (latRK l q) (ord l)[k] 0 = lenV l := rfl
      unfold latRI at hnx
      generalize hio2 : (ord l)[k] = i at *
      generalize hQ : latRK l q = Q at *
      generalize hQn : latRK l (q + 1) = Qn at *
      have HQN := Lib.hid hQn
      have HEN := Lib.hid hen
      have HEB := Lib.hid heb
      have HNX := Lib.hid hnx
      have HBD := Lib.hid hbd
      have hbs := hbw.size
      have hkk : (k : Int) < l.length := by omega
      have hkk2 : ¬ l.length ≤ k := by omega
      have hi1 : (i : Int) < l.length := by omega
      have hi2 : ¬ l.length ≤ i := by omega
      have HEH := Lib.hid HE.out
      have hgs := (jown_at HE.out.own).1
      have hii : -1 < (k : Int) := by omega
      rw [hkI]
      rw [← he0]
      have HKK := Lib.hid hk
      clear hk hkI
      clear hen heb hnx hbd hio hio2 hQ hQn HE he0
      go_wp2
      obtain ⟨W0, hW0⟩ : ∃ W0, W0 = wr := ⟨_, rfl⟩
      subst hW0
      go_loopw [8, 9] (fun v j' W => ∃ j : Nat, j ≤ l.length ∧ j' = .int .i64 j ∧ v = .int .i64 (endR l Q i j) ∧ Below W0.heap.size W0 W) (fun _ j' _ => l.length - (intOf j').toNat)
      case atStart => exact ⟨0, Nat.zero_le _, rfl, rfl, Below.refl _ _⟩
      case round =>
        obtain ⟨j, hj, rfl, rfl, hb⟩ := hrel
        have hbw2 : Below w.heap.size w wr := hbw.trans (hb.mono hbs)
        have hE2 := HEH.out.later hb
        by_cases hlj : j < l.length
        · have c9 := C2.out j wr hbw2 hlj
          rw [HAZ.out j hlj, iN_len] at c9
          have C9 := Lib.hid c9
          have hnx := HEN.out j
          have heb := HEB.out j
          obtain ⟨hgs3, hgb, hgc, hgf⟩ := jown_at hE2.own
          have hcj := hgc j hlj
          have hbj := HBD.out j
          generalize hE2e : endR l Q i (j + 1) = E2 at *
          have HE2 := Lib.hid hE2e
          clear hE2e
          generalize endR l Q i j = E1 at *
          generalize gI Q j = G at *
          have hj1 : (j : Int) < l.length := by omega
          have hj2 : ¬ l.length ≤ j := by omega
          have hm10 : (afs l j).length ≤ 10 := by rw [afs_len]; exact HP.out.few j hlj
          have hws := hb.size
          have HB := Lib.hid hb
          clear c9 hgc hgf hE2 hb
          go_wp2_with fail
          refine C9.out.mono ?_
          rintro e w6 ⟨⟨v6, rfl, ho6⟩, hb6⟩
          obtain ⟨A6, cap6, rfl, hq6, hq7, hI6, -⟩ := own_ints ho6
          have c10 := C8.out A6 (afs l j).length cap6 (iN (afs l j)) (i : Int) w6 (by omega) hI6
          rw [iN_contains] at c10
          have hc6 : w6.cell? ⟨w.heap.size, j, none⟩ = some (.int .i64 G) := (hb6.cell (p := ⟨w.heap.size, j, none⟩) hgs3).trans hcj
          have HB6 := Lib.hid (HB.out.trans (hb6.mono hws))
          clear ho6 hI6 hb6 hcj C9
          cases hcn : (afs l j).contains i
          · rw [hcn] at c10 hnx
            have C10 := Lib.hid c10
            have HN := Lib.hid hnx
            clear c10 hnx hcn
            go_wp2_with fail
            refine C10.out.mono ?_
            rintro e w7 ⟨rfl, rfl⟩
            go_wp2
            go_roundw
            case rel => exact ⟨j + 1, by omega, by go_num, by rw [HE2.out, HN.out]; rfl, HB6.out⟩
            case measure => simp [intOf]; omega
          · rw [hcn] at c10 hnx
            rw [Bool.true_and] at hnx
            have C10 := Lib.hid c10
            by_cases hG : G < E1
            · rw [if_pos (decide_eq_true hG)] at hnx
              have HN := Lib.hid hnx
              clear c10 hnx hcn
              go_wp2_with fail
              refine C10.out.mono ?_
              rintro e w7 ⟨rfl, rfl⟩
              go_wp2
              go_roundw
              case rel => exact ⟨j + 1, by omega, by go_num, by rw [HE2.out, HN.out], HB6.out⟩
              case measure => simp [intOf]; omega
            · rw [if_neg (by simp; omega)] at hnx
              have HN := Lib.hid hnx
              clear c10 hnx hcn
              go_wp2_with fail
              refine C10.out.mono ?_
              rintro e w7 ⟨rfl, rfl⟩
              go_wp2
              go_roundw
              case rel => exact ⟨j + 1, by omega, by go_num, by rw [HE2.out, HN.out], HB6.out⟩
              case measure => simp [intOf]; omega
        · have hjl : j = l.length := by omega
          have hj1 : ¬ (j : Int) < l.length := by omega
          have hnx := HNX.out
          rw [← hjl] at hnx
          have heb := HEB.out j
          generalize endR l Q i j = E1 at *
          obtain ⟨b7, off7, rfl, hb7, d1, d2, d3, -⟩ := (HX.out.below hbw2).at_ i hil
          have hda := dy_bd HP.out hil
          change 1 ≤ (tkA l i).dy ∧ (tkA l i).dy ≤ 1000 at hda
          have hdy : dyA l i = (tkA l i).dy := rfl
          rw [hdy] at hnx
          generalize (tkA l i).dy = Y at *
          obtain ⟨hgs3, hgb, hgc, hgf⟩ := jown_at hE2.own
          have hci := hgc i hil
          have hfi := hgf i
          have hst := hE2.store HNB.out i (E1 - Y)
          rw [← hnx] at hst
          have HST := Lib.hid hst
          have hwr : wrap64 (E1 - Y) = E1 - Y := IntWalk.wrap64_in _ ⟨by omega, by omega⟩
          have hb71 : b7 < wr.heap.size := by have := hbw2.size; omega
          clear hnx hgc hgf hst hE2 hb HEN HEB HNX HBD d1 d3
          subst hjl
          go_wp2
          refine ⟨⟨q + 1, by omega, congrArg (Value.int .i64) (by have := HKK.out; omega), by rw [HQN.out]; exact HST⟩, ?_⟩
          first | (simp [intOf]; done) | (simp [intOf]; omega)
    · have hkl : q = l.length := by omega
      have hz : (l.length : Int) - 1 - q = -1 := by omega
      have HF : Hid (RaR l w w.heap.size A1 (latR l) wr) := Lib.hid (by rw [← latRK_end (l := l) (k := q) (by omega)]; exact HE.out)
      rw [hz]
      clear HE
      go_wp2
      go_ret
      exact ⟨⟨_, rfl, HF.out.own⟩, HF.out.bel⟩
end Go.Proofs.Ytgijekhlbkfanaa
