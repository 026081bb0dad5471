/- Plans: the reference's earliest days. -/
import Derived.Test.YtgijekhlbkfanaaJobR4
import Derived.Test.YtgijekhlbkfanaaJobB
import Derived.Test.YtgijekhlbkfanaaJobQ5
set_option linter.unusedSimpArgs false
set_option linter.unusedVariables false
namespace Go.Proofs.Ytgijekhlbkfanaa
open Go.RowKit
attribute [local go_sem] Later.cell Same.cell

/-- A slice that does not lie in block g. -/
def NB (A : Option Addr) (g : Nat) : Prop := ∀ b off, A = some ⟨b, off, none⟩ → b ≠ g
theorem NB.of_own {A : Option Addr} {g base n : Nat} {cap : Nat} {xs : List Int} {w : World} {e : TypeId} (h : w.ownsRow base e 1 (.slice A n cap) n (icells xs)) (hg : g < base) : NB A g := fun b off he => by
  intro hb
  subst he
  rcases h.2 with ⟨h', _⟩ | ⟨g', cap', cur, h', hb', hg', _⟩
  · simp at h'
  · simp only [Value.slice.injEq, Option.some.injEq, Addr.mk.injEq, and_true, true_and] at h'
    omega
theorem Ints.store {w : World} {A : Option Addr} {n : Nat} {xs : List Int} {g : Nat} (h : Ints w w.heap.size A n xs) (hn : NB A g) (i : Nat) (v : Value) : Ints (w.setCell ⟨g, i, none⟩ v) (w.setCell ⟨g, i, none⟩ v).heap.size A n xs := by
  rw [World.size_setCell]
  exact h.keep hn fun q _ hq => Below.heap_setCell _ ⟨g, i, none⟩ v q hq
theorem Ints.go {w w' : World} {A : Option Addr} {n : Nat} {xs : List Int} (h : Ints w w.heap.size A n xs) (hb : Below w.heap.size w w') : Ints w' w'.heap.size A n xs := (h.below hb).more hb.size
structure RaR (l : List Tk) (w : World) (g : Nat) (A1 : Option Addr) (out : List Int) (W : World) : Prop where
  own : W.ownsRow w.heap.size 3 1 (.slice (some ⟨g, 0, none⟩) l.length l.length) l.length (icells out)
  ord : Ints W W.heap.size A1 l.length (iN (ord l))
  bel : Below w.heap.size w W
theorem RaR.store {l : List Tk} {w : World} {g : Nat} {A1 : Option Addr} {out : List Int} {W : World} (h : RaR l w g A1 out W) (hn : NB A1 g) (i : Nat) (v : Int) : RaR l w g A1 (out.set i v) (W.setCell ⟨g, i, none⟩ (.int .i64 v)) :=
  ⟨(jown_store h.own i v).1, h.ord.store hn i _, h.bel.setCell (p := ⟨g, i, none⟩) (jown_at h.own).2.1 _⟩
theorem RaR.later {l : List Tk} {w : World} {g : Nat} {A1 : Option Addr} {out : List Int} {W W' : World} (h : RaR l w g A1 out W) (hb : Below W.heap.size W W') : RaR l w g A1 out W' :=
  ⟨jown_later h.own hb, h.ord.go hb, h.bel.trans (hb.mono h.bel.size)⟩
theorem set_same (xs : List Int) (i : Nat) (h : i < xs.length) : xs.set i (gI xs i) = xs := by
  unfold gI; rw [List.getElem?_eq_getElem h]; simp
set_option maxRecDepth 20000 in
set_option maxHeartbeats 16000000 in
theorem rearliest_any (A : Option Addr) (len cap : Nat) (l : List Tk) (w : World) (hS : Sml l) (hP : okP l) (hx : Plan w w.heap.size A len l) :
    Calls Try.prog 76 #[.slice A len cap] w fun e w' => (∃ v, e = .returned v ∧ w'.ownsRow w.heap.size 3 1 v len (icells (ear l))) ∧ Below w.heap.size w w' := by
  obtain rfl : l.length = len := hx.1
  have c2 := fun i W (h : Below w.heap.size w W) (hi : i < l.length) => afters_any A l.length cap l i W (by have := hP.len; omega) hi (by have := hP.few i hi; omega) (hx.go h)
  have haz : ∀ i, i < l.length → afZ l i = iN (afs l i) := fun i hi => afZ_afs (hP.known i hi)
  have c5 := fun W (h : Below w.heap.size w W) => rorder_any A l.length cap l W (by have := hP.len; omega) hP.names (fun i hi => by have := hP.few i hi; omega) (hx.go h)
  obtain ⟨j0, hj, hy0, hy1, hy2⟩ := info_parts jinfo_int
  have hI0 := Lib.hid hj
  have hI1 := Lib.hid hy0
  have hI2 := Lib.hid hy1
  have hI3 := Lib.hid hy2
  have hL := hP.len
  have C2 := Lib.hid c2
  have C5 := Lib.hid c5
  have HAZ := Lib.hid haz
  have HX := Lib.hid hx
  have HP := Lib.hid hP
  clear c2 c5 hx hS hP hj hy0 hy1 hy2 haz
  go_enter Try.func76, Try.ntmps76
  go_wp2_with (at_make; refine wpList_make_full _ rfl _ _ 32 rfl w.heap.size 3 j0 (.int .i64 0) 1 Try.underlying32 hI0.out hI1.out hI2.out _ _ _ _ l.length rfl rfl (by omega) (by omega) (by rw [hI3.out]; omega) (by unfold maxLen; omega) (Nat.le_refl _) ?_; intro w2 hown hgrow; go_frame)
  rw [jmade1] at hown
  have hB2 : Below w.heap.size w w2 := grown_below hgrow (Nat.le_refl _) (fun k hk => by cases hk)
  have HOW := Lib.hid hown
  have hg0 : w.heap.size < w2.heap.size := (jown_at hown).1
  have HB2 := Lib.hid hB2
  clear hown hgrow hB2
  refine (C5.out _ HB2.out).mono ?_
  rintro e w3 ⟨⟨v, rfl, ho⟩, hb⟩
  obtain ⟨A1, cap1, rfl, hq1, hq2, hI, -⟩ := own_ints ho
  have hol : (ord l).length = l.length := HP.out.all
  rw [hol] at ho hI hq1 ⊢
  have HNB := Lib.hid (NB.of_own ho hg0)
  have HE : Hid (RaR l w w.heap.size A1 (earK l 0) w3) := Lib.hid ⟨by rw [earK_zero]; exact jown_later HOW.out hb, hI, HB2.out.trans (hb.mono HB2.out.size)⟩
  clear ho hb HOW HB2 hI
  go_wp2
  go_loopw [5] (fun i W => ∃ k : Nat, k ≤ l.length ∧ i = .int .i64 k ∧ Hid (RaR l w w.heap.size A1 (earK l k) W)) (fun i _ => l.length - (intOf i).toNat)
  case atStart => exact ⟨0, Nat.zero_le _, rfl, HE⟩
  case round =>
    obtain ⟨k, hk, rfl, HE⟩ := hrel
    have hbw := HE.out.bel
    by_cases hlt : k < l.length
    · have hko : k < (ord l).length := by omega
      have hil := ord_lt (List.getElem_mem hko)
      obtain ⟨b5, off5, rfl, hb5, hc5⟩ := HE.out.ord.at_ k hlt
      change wr.cell? _ = some (.int .i64 (gI (iN (ord l)) k)) at hc5
      rw [iN_at hko] at hc5
      have hbd := fun j (hj : j ≤ 10) => earKJ_bd HP.out hko hj
      have hfew := HP.out.few _ hil
      have hEn := fun j (h : j < (afs l (ord l)[k]).length) => (earJ_next (l := l) (i := (ord l)[k]) (out := earK l k) (j := j) h)
      have hEl := fun j => (earJ_len l (ord l)[k] (earK l k) j).trans (earK_len l k)
      have hEe := earJ_end (l := l) (i := (ord l)[k]) (out := earK l k) (j := (afs l (ord l)[k]).length) (Nat.le_refl _)
      have hKn := earK_next hko
      have hEz := earJ_zero l (ord l)[k] (earK l k)
      have c3 := C2.out _ wr hbw hil
      rw [HAZ.out _ hil, iN_len] at c3
      have hal := afs_len l (ord l)[k]
      generalize hio : (ord l)[k] = i at *
      have HIO := Lib.hid hio
      have HBD := Lib.hid hbd
      have HEN := Lib.hid hEn
      have HEL := Lib.hid hEl
      have HEE := Lib.hid hEe
      have HKX := Lib.hid hKn
      have C3 := Lib.hid c3
      have HE0 : Hid (RaR l w w.heap.size (some ⟨b5, off5, none⟩) (earJ l i (earK l k) 0) wr) := Lib.hid (by rw [hEz]; exact HE.out)
      have hbs := hbw.size
      have hk1 : (k : Int) < l.length := by omega
      have hk2 : ¬ l.length ≤ k := by omega
      have hm10 : (afs l i).length ≤ 10 := by omega
      have hgs := (jown_at HE.out.own).1
      clear hbd hEn hEl hEe hKn hEz HE hio c3 hal hfew
      go_wp2_with fail
      refine C3.out.mono ?_
      rintro e w4 ⟨⟨v4, rfl, ho4⟩, hb4⟩
      obtain ⟨A4, cap4, rfl, hq4, hq5, hI4, -⟩ := own_ints ho4
      have HNB4 := Lib.hid (NB.of_own ho4 hgs)
      have HE1 := Lib.hid (HE0.out.later hb4)
      have HI4 := Lib.hid hI4
      clear ho4 hI4 HE0 hc5 hb5 C3 hb4
      go_wp2
      go_loopw [7] (fun i' W => ∃ j : Nat, j ≤ (afs l i).length ∧ i' = .int .i64 j ∧ Hid (RaR l w w.heap.size (some ⟨b5, off5, none⟩) (earJ l i (earK l k) j) W) ∧ Hid (Ints W W.heap.size A4 (afs l i).length (iN (afs l i)))) (fun i' _ => (afs l i).length - (intOf i').toNat)
      case atStart => exact ⟨0, Nat.zero_le _, rfl, HE1, HI4⟩
      case round =>
        obtain ⟨j, hj, rfl, HE, HA⟩ := hrel
        by_cases hlj : j < (afs l i).length
        · have hbw3 := HE.out.bel
          have hbs3 := hbw3.size
          have hFl := afs_lt HP.out hil (List.getElem_mem hlj)
          have hnx := HEN.out j hlj
          obtain ⟨b2, off2, rfl, hb2, hc6⟩ := HA.out.at_ j hlj
          change wr.cell? _ = some (.int .i64 (gI (iN (afs l i)) j)) at hc6
          rw [iN_at hlj] at hc6
          obtain ⟨b6, off6, he6, hb6, hc7⟩ := HE.out.ord.at_ k hlt
          injection he6 with he6
          injection he6 with he61 he62
          subst he61 he62
          change wr.cell? _ = some (.int .i64 (gI (iN (ord l)) k)) at hc7
          rw [iN_at hko] at hc7
          generalize hFe : (afs l i)[j] = F at *
          obtain ⟨b7, off7, he7, hb7, d1, d2, d3, -⟩ := (HX.out.below hbw3).at_ F hFl
          subst he7
          have hbd := HBD.out j (by omega)
          have hda := dy_bd HP.out hFl
          change 1 ≤ (tkA l F).dy ∧ (tkA l F).dy ≤ 1000 at hda
          obtain ⟨hgs3, hgb, hgc, hgf⟩ := jown_at HE.out.own
          have hci := hgc i hil
          have hca := hgc F hFl
          have hfi := hgf i
          rw [HIO.out] at hc7
          have hbi := hbd i
          have hba := hbd F
          have hel := HEL.out j
          have HSE := Lib.hid (fun v => HE.out.store HNB.out i v)
          have HSA := Lib.hid (fun v : Int => HA.out.store HNB4.out i (.int .i64 v))
          unfold earS dyA imax at hnx
          have HSM := Lib.hid (set_same (earJ l i (earK l k) j) i (by omega))
          generalize hQ : earJ l i (earK l k) j = Q at *
          generalize hQn : earJ l i (earK l k) (j + 1) = Qn at *
          generalize (tkA l F).dy = Y at *
          generalize gI Q i = Gi at *
          generalize gI Q F = Ga at *
          have HQN := Lib.hid hQn
          have hF1 : (F : Int) < l.length := by omega
          have hF2 : ¬ l.length ≤ F := by omega
          have hi1 : (i : Int) < l.length := by omega
          have hi2 : ¬ l.length ≤ i := by omega
          have hj1 : (j : Int) < (afs l i).length := by omega
          have hj2 : ¬ (afs l i).length ≤ j := by omega
          have hb1 : b7 < wr.heap.size := by omega
          have hwr : wrap64 (Ga + Y) = Ga + Y := IntWalk.wrap64_in _ ⟨by omega, by omega⟩
          have hwg : w.heap.size < wr.heap.size := hgs3
          have HE' := Lib.hid HE.out
          have HAA := Lib.hid HA.out
          have hb56 : b5 < wr.heap.size := hb6
          by_cases hc : Gi < Ga + Y
          · rw [if_pos hc] at hnx
            have HNX := Lib.hid hnx
            clear hnx hbd hgc hgf hQ hQn hFe d1 d3 HE HA HSE HSA HSM hel hbi hba
            go_wp2
            (refine wp_region_later (by kernel_rfl) (by kernel_rfl) ?_; (repeat (go_big_quiet_step ((fail)))); refine wpQuiet_nil ?_)
            intro w9 hb9
            have hc8 : w9.cell? ⟨w.heap.size, i, none⟩ = some (.int .i64 Gi) := (hb9.cell (p := ⟨w.heap.size, i, none⟩) hwg).trans hci
            have hf8 : w9.frozen? ⟨w.heap.size, i, none⟩ = false := (hb9.frozen (p := ⟨w.heap.size, i, none⟩) hwg).trans hfi
            have hc9 : w9.cell? ⟨b5, off5 + k, none⟩ = some (.int .i64 (i : Int)) := (hb9.cell (p := ⟨b5, off5 + k, none⟩) hb56).trans hc7
            have HST := Lib.hid ((HE'.out.later hb9).store HNB.out i (Ga + Y))
            rw [← HNX.out] at HST
            have HSB := Lib.hid ((HAA.out.go hb9).store HNB4.out i (.int .i64 (Ga + Y)))
            rw [hwr]
            clear hb9 HE' HAA hci hfi hc7 hca hc6
            go_wp2
            go_roundw
            case rel => exact ⟨j + 1, by omega, by go_num, by rw [HQN.out]; exact HST, HSB⟩
            case measure => simp [intOf]; omega
          · rw [if_neg hc] at hnx
            have hqq : Q = Qn := by rw [← HSM.out, hnx]
            have HST := Lib.hid (show RaR l w w.heap.size (some ⟨b5, off5, none⟩) Qn wr by rw [← hqq]; exact HE'.out)
            clear hnx hbd hgc hgf hQ hQn hFe d1 d3 HE HA HSE HSA HSM HE' hel hbi hba hqq
            go_wp2
            (refine wp_region_later (by kernel_rfl) (by kernel_rfl) ?_; (repeat (go_big_quiet_step ((fail)))); refine wpQuiet_nil ?_)
            intro w9 hb9
            have hc8 : w9.cell? ⟨w.heap.size, i, none⟩ = some (.int .i64 Gi) := (hb9.cell (p := ⟨w.heap.size, i, none⟩) hwg).trans hci
            have hc9 : w9.cell? ⟨b5, off5 + k, none⟩ = some (.int .i64 (i : Int)) := (hb9.cell (p := ⟨b5, off5 + k, none⟩) hb56).trans hc7
            have HS9 := Lib.hid (HST.out.later hb9)
            have HA9 := Lib.hid (HAA.out.go hb9)
            rw [hwr]
            clear hb9 HST HAA hci hfi hc7 hca hc6
            go_wp2
            go_roundw
            case rel => exact ⟨j + 1, by omega, by go_num, by rw [HQN.out]; exact HS9, HA9⟩
            case measure => simp [intOf]; omega
        · have hjn : j = (afs l i).length := by omega
          have hj1 : ¬ (j : Int) < (afs l i).length := by omega
          have HF : Hid (RaR l w w.heap.size (some ⟨b5, off5, none⟩) (earK l (k + 1)) wr) := Lib.hid (by rw [HKX.out, ← HEE.out, ← hjn]; exact HE.out)
          clear HE HA
          go_wp2
          go_roundw
          case rel => exact ⟨k + 1, by omega, by go_num, HF⟩
          case measure => simp [intOf]; omega
    · have hkl : k = l.length := by omega
      have hk1 : ¬ (k : Int) < l.length := by omega
      have HF : Hid (RaR l w w.heap.size A1 (ear l) wr) := Lib.hid (by rw [← earK_end (l := l) (k := k) (by omega)]; exact HE.out)
      clear HE
      go_wp2
      go_ret
      exact ⟨⟨_, rfl, HF.out.own⟩, HF.out.bel⟩
end Go.Proofs.Ytgijekhlbkfanaa
