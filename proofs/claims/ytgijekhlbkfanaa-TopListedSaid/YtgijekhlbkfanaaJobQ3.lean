/- Plans: the program's Check. -/
import Derived.Test.YtgijekhlbkfanaaJobQ2
set_option linter.unusedSimpArgs false
set_option linter.unusedVariables false
namespace Go.Proofs.Ytgijekhlbkfanaa
open Go.RowKit Go.Maps
attribute [local go_sem] Later.cell

def ChO (l : List Tk) (w : World) (nb : Nat) (i : Value) (W : World) : Prop := ∃ k : Nat, k ≤ l.length ∧ i = .int .i64 k ∧ Hid (MapN W nb l.length (fndM l l.length)) ∧ Hid (frst ((List.range k).map (rowE l)) = 0) ∧ Below w.heap.size w W
theorem ChO.mk {l : List Tk} {w : World} {nb : Nat} {i : Value} {W : World} (k : Nat) (h1 : k ≤ l.length) (h2 : i = .int .i64 k) (h3 : Hid (MapN W nb l.length (fndM l l.length))) (h5 : Hid (frst ((List.range k).map (rowE l)) = 0)) (h4 : Below w.heap.size w W) : ChO l w nb i W := ⟨k, h1, h2, h3, h5, h4⟩
def ChI (l : List Tk) (w : World) (nb sb r : Nat) (i : Value) (W : World) : Prop := ∃ k : Nat, k ≤ (tkA l r).af.length ∧ i = .int .i64 k ∧ (Hid (MapN W nb l.length (fndM l l.length)) ∧ Hid (MapS W sb k (inM (tkA l r).af k))) ∧ Hid (frst ((List.range k).map (afE l r)) = 0) ∧ Below w.heap.size w W
theorem ChI.mk {l : List Tk} {w : World} {nb sb r : Nat} {i : Value} {W : World} (k : Nat) (h1 : k ≤ (tkA l r).af.length) (h2 : i = .int .i64 k) (h3 : Hid (MapN W nb l.length (fndM l l.length))) (h6 : Hid (MapS W sb k (inM (tkA l r).af k))) (h5 : Hid (frst ((List.range k).map (afE l r)) = 0)) (h4 : Below w.heap.size w W) : ChI l w nb sb r i W := ⟨k, h1, h2, ⟨h3, h6⟩, h5, h4⟩
set_option maxRecDepth 20000 in
set_option maxHeartbeats 8000000 in
theorem Check_any (A : Option Addr) (len cap : Nat) (l : List Tk) (w : World) (hS : Sml l) (hx : Plan w w.heap.size A len l) :
    Calls Try.prog 29 #[.slice A len cap] w fun e w' => e = .returned (.int .i64 (checkE l)) ∧ Below w.heap.size w w' := by
  obtain rfl : l.length = len := hx.1
  by_cases h0 : l.length = 0
  · have hE : checkE l = 8 := by unfold checkE; rw [if_pos h0]
    rw [hE]
    have h00 : ((l.length : Int) == 0) = true := by simp [h0]
    clear hx hE
    go_enter Try.func29, Try.ntmps29
    go_wp2
    go_ret
    exact ⟨rfl, (by repeat (first | exact Below.refl _ _ | assumption | refine Below.setCell ?_ (by first | (simp; done) | (simp; omega) | omega) _ | refine Below.drew ?_ | refine below_drewN ?_ _ | refine Below.alloc ?_ (by first | (simp; done) | (simp; omega) | omega) _ | refine below_alloc ?_ _ | refine below_step ?_ (by assumption)))⟩
  · have h00 : ((l.length : Int) == 0) = false := by simpa using h0
    by_cases h20 : 20 < l.length
    · have hE : checkE l = 4 := by unfold checkE; rw [if_neg h0, if_pos h20]
      rw [hE]
      have h21 : (20 : Int) < l.length := by omega
      clear hx hE h0
      go_enter Try.func29, Try.ntmps29
      go_wp2
      go_ret
      exact ⟨rfl, (by repeat (first | exact Below.refl _ _ | assumption | refine Below.setCell ?_ (by first | (simp; done) | (simp; omega) | omega) _ | refine Below.drew ?_ | refine below_drewN ?_ _ | refine Below.alloc ?_ (by first | (simp; done) | (simp; omega) | omega) _ | refine below_alloc ?_ _ | refine below_step ?_ (by assumption)))⟩
    · have h21 : ¬ (20 : Int) < l.length := by omega
      have hSl := hS.len
      have c1 := fun W (h : Below w.heap.size w W) => alone_any A l.length cap l W hS (hx.go h)
      have c2 := fun W (h : Below w.heap.size w W) => byName_any A l.length cap l W hS (hx.go h)
      have c5 := fun (ha : aloneE l = 0) (hn : namesE l = 0) W (h : Below w.heap.size w W) => order_any A l.length cap l W hS (okN_mk ha hn) (hx.go h)
      have e1 := fun ha => check_alone (l := l) h0 h20 ha
      have e2 := fun i k ha hi hr hk hf hne => check_second (l := l) (i := i) (k := k) h0 h20 ha hi hr hk hf hne
      have e3 := fun ha hn => check_last (l := l) h0 h20 ha hn
      generalize hR : checkE l = R at *
      have C5 := Lib.hid c5
      have E2 := Lib.hid e2
      have E3 := Lib.hid e3
      have HX := Lib.hid hx
      have HS := Lib.hid hS
      have HL0 := Lib.hid hSl
      clear c5 e2 e3 hx hR hS h0 h20 hSl
      by_cases ha : aloneE l = 0
      · have HA := Lib.hid ha
        rw [ha] at c1
        have C1 := Lib.hid c1
        have C2 := Lib.hid c2
        have hmm := @run_makeMap Try.prog
        clear c1 c2 e1 ha
        go_enter Try.func29, Try.ntmps29
        go_wp2_with fail
        refine (C1.out _ (by repeat (first | exact Below.refl _ _ | assumption | refine Below.setCell ?_ (by first | (simp; done) | (simp; omega) | omega) _ | refine Below.drew ?_ | refine below_drewN ?_ _ | refine Below.alloc ?_ (by first | (simp; done) | (simp; omega) | omega) _ | refine below_alloc ?_ _ | refine below_step ?_ (by assumption)))).mono ?_
        rintro e w1 ⟨rfl, hb⟩
        have hB_w1 : Below w.heap.size w w1 := (by repeat (first | exact Below.refl _ _ | assumption | refine Below.setCell ?_ (by first | (simp; done) | (simp; omega) | omega) _ | refine Below.drew ?_ | refine below_drewN ?_ _ | refine Below.alloc ?_ (by first | (simp; done) | (simp; omega) | omega) _ | refine below_alloc ?_ _ | refine below_step ?_ (by assumption))); have hz_w1 := hB_w1.size; clear hb
        go_wp2_with fail
        refine (C2.out _ (by repeat (first | exact Below.refl _ _ | assumption | refine Below.setCell ?_ (by first | (simp; done) | (simp; omega) | omega) _ | refine Below.drew ?_ | refine below_drewN ?_ _ | refine Below.alloc ?_ (by first | (simp; done) | (simp; omega) | omega) _ | refine below_alloc ?_ _ | refine below_step ?_ (by assumption)))).mono ?_
        rintro e w2 ⟨⟨nb, rfl, hnb, hMN⟩, hb⟩
        have HMN := Lib.hid hMN
        clear hMN
        have hB_w2 : Below w.heap.size w w2 := (by repeat (first | exact Below.refl _ _ | assumption | refine Below.setCell ?_ (by first | (simp; done) | (simp; omega) | omega) _ | refine Below.drew ?_ | refine below_drewN ?_ _ | refine Below.alloc ?_ (by first | (simp; done) | (simp; omega) | omega) _ | refine below_alloc ?_ _ | refine below_step ?_ (by assumption))); have hz_w2 := hB_w2.size; clear hb hB_w1
        have HB2 := Lib.hid hB_w2
        have HNB : Hid (w.heap.size ≤ nb) := Lib.hid (by omega)
        clear hB_w2 hz_w2
        go_wp2
        go_loopw [27] (fun i W => ChO l w nb i W) (fun i _ => l.length - (intOf i).toNat)
        case atStart => exact ChO.mk 0 (Nat.zero_le _) rfl HMN (Lib.hid rfl) HB2.out
        case round =>
          obtain ⟨i, hi, rfl, HM, HT, hB⟩ := hrel
          by_cases hlt : i < l.length
          · obtain ⟨b, off, rfl, hb0, d1, d2, d3, A', n, cc, d4, hn1, hn2, hSt⟩ := HX.out.at_ i hlt
            have hq := fun o v (h : w.cell? ⟨b, o, none⟩ = some v) => (hB.cell (p := ⟨b, o, none⟩) hb0).trans h
            have hc1 := hq _ _ d1
            have hc2 := hq _ _ d2
            have hc3 := hq _ _ d3
            have hc4 := hq _ _ d4
            clear d1 d2 d3 d4 hq
            have hbs := hB.size
            have hb1 : b < wr.heap.size := by omega
            have hi1 : (i : Int) < l.length := by omega
            have hi2 : ¬ l.length ≤ i := by omega
            obtain rfl : (tkA l i).af.length = n := hSt.1
            have HE2 := Lib.hid (fun k (hk : k < (tkA l i).af.length) => E2.out i k HA.out hlt HT.out hk)
            have HTN := Lib.hid (fun h => frst_next (f := rowE l) HT.out h)
            have hnb2 : (tkA l i).af.length ≤ 9223372036854775807 := by omega
            have haf := HS.out.af i hlt
            have HAN := Lib.hid (HS.out.an i hlt)
            have HAF := Lib.hid haf
            have HSt := Lib.hid hSt
            generalize (tkA l i).nm = X at *
            generalize (tkA l i).dy = Y at *
            generalize (tkA l i).mn = Z at *
            have hMN := HM.out.lt
            have hBt : Below wr.heap.size wr ((wr.alloc (.cells #[.string X, .int .i64 Y, .int .i64 Z, .slice A' (tkA l i).af.length cc] 43)).alloc (.map #[] 0)) := ((Below.refl _ _).alloc (Nat.le_refl _) _).alloc (by simp) _
            have hM0 : MapS ((wr.alloc (.cells #[.string X, .int .i64 Y, .int .i64 Z, .slice A' (tkA l i).af.length cc] 43)).alloc (.map #[] 0)) (wr.heap.size + 1) 0 (inM (tkA l i).af 0) := by
              rw [inM_zero]
              have := mapv_made (wr.alloc (.cells #[.string X, .int .i64 Y, .int .i64 Z, .slice A' (tkA l i).af.length cc] 43)) Try.prog 9 4 slit blit false
              rw [World.size_alloc] at this; exact this
            have HM0 := Lib.hid hM0
            have HN0 := Lib.hid (HM.out.below hBt)
            have HB0 := Lib.hid (hB.trans (hBt.mono hbs))
            clear hM0 hBt hSt HM HT hB E2 E3
            go_wp2
            go_loopw [35] (fun i' W => ChI l w nb (wr.heap.size + 1) i i' W) (fun i' _ => (tkA l i).af.length - (intOf i').toNat)
            case atStart => exact ChI.mk 0 (Nat.zero_le _) rfl HN0 HM0 (Lib.hid rfl) HB0.out
            case round =>
              obtain ⟨k, hk, rfl, ⟨HMN, HMS⟩, HT, hB⟩ := hrel
              by_cases hlk : k < (tkA l i).af.length
              · obtain ⟨b2, off2, rfl, hb2, hc6⟩ := (HSt.out.below hB).atS k hlk
                have hbs := hB.size
                have hb3 : b2 < wr.heap.size := by omega
                have hk1 : (k : Int) < (tkA l i).af.length := by omega
                have hk2 : ¬ (tkA l i).af.length ≤ k := by omega
                have HE := Lib.hid (HE2.out k hlk HT.out)
                have HTM := Lib.hid (fun h => frst_next (f := afE l i) HT.out h)
                have hcs := af_cases l i k
                have HSZ := Lib.hid (HAN.out _ (afA_mem hlk))
                have HIS := Lib.hid (fndM_is (l := l) (k := l.length) (s := afA l i k))
                have HIA := Lib.hid (inM_at (ss := (tkA l i).af) (k := k) (s := afA l i k))
                have HNX := Lib.hid (inM_next (ss := (tkA l i).af) hlk)
                have hafb := HAF.out
                change wr.cell? _ = some (.string (afA l i k)) at hc6
                change Hid (inM (tkA l i).af (k + 1) = fun x => if x = afA l i k then some true else inM (tkA l i).af k x) at HNX
                generalize hfm : fndM l l.length (afA l i k) = fm at *
                generalize him : inM (tkA l i).af k (afA l i k) = im at *
                generalize afA l i k = X at *
                generalize afE l i k = T at *
                have HMK := Lib.hid hfm
                have HSK := Lib.hid him
                have HB := Lib.hid hB
                have hnb3 := HMN.out.lt
                have hsb3 := HMS.out.lt
                have hws := hMN
                clear hfm him hB HT
                rcases hcs with ⟨a1, rfl⟩ | ⟨a1, a2, rfl⟩ | ⟨a1, a2, rfl⟩
                · have hm2 : Hid (fm.isSome = false) := Lib.hid (by rw [HIS.out]; exact decide_eq_false a1)
                  have HF := Lib.hid (HE.out (by decide))
                  clear a1 HE HTM HIS HIA HNX
                  go_wp2_with (first | (at_lookup; refine wpList_mapv_int_ok rfl (.tmp 40) (.tmp 41) 68 rfl lawS Try.underlying68 Try.underlying3 (zeroIn _) rfl HMN.out X _ rfl (keyS HSZ.out) ?_; rw [HMK.out, hm2.out]))
                  go_ret
                  exact ⟨ret_int HF.out, HB.out⟩
                · have hm2 : Hid (fm.isSome = true) := Lib.hid (by rw [HIS.out]; exact decide_eq_true a1)
                  have hs2 : Hid (im.getD false = true) := Lib.hid (by rw [HIA.out]; exact a2)
                  have HF := Lib.hid (HE.out (by decide))
                  clear a1 a2 HE HTM HIS HIA HNX
                  go_wp2_with (first | (at_lookup; refine wpList_mapv_int_ok rfl (.tmp 40) (.tmp 41) 68 rfl lawS Try.underlying68 Try.underlying3 (zeroIn _) rfl HMN.out X _ rfl (keyS HSZ.out) ?_; rw [HMK.out, hm2.out]) | (at_lookup; refine wpList_mapv_bool rfl (.tmp 47) (.tmp 48) 70 rfl lawS Try.underlying70 underBo (zeroBo _) rfl HMS.out X _ rfl (keyS HSZ.out) ?_; rw [HSK.out, hs2.out]))
                  go_ret
                  exact ⟨ret_int HF.out, HB.out⟩
                · have hm2 : Hid (fm.isSome = true) := Lib.hid (by rw [HIS.out]; exact decide_eq_true a1)
                  have hs2 : Hid (im.getD false = false) := Lib.hid (by rw [HIA.out]; exact a2)
                  have HF := Lib.hid (HTM.out rfl)
                  clear a1 a2 HE HTM HIS HIA
                  go_wp2_with (first | (at_lookup; refine wpList_mapv_int_ok rfl (.tmp 40) (.tmp 41) 68 rfl lawS Try.underlying68 Try.underlying3 (zeroIn _) rfl HMN.out X _ rfl (keyS HSZ.out) ?_; rw [HMK.out, hm2.out]) | (at_lookup; refine wpList_mapv_bool rfl (.tmp 47) (.tmp 48) 70 rfl lawS Try.underlying70 underBo (zeroBo _) rfl HMS.out X _ rfl (keyS HSZ.out) ?_; rw [HSK.out, hs2.out]) | (at_mapUpdate; refine wpList_mapv_put (κ := ByteArray) rfl (.tmp 50) (.tmp 51) (.const (.bool true)) 70 rfl lawS Try.underlying70 (fun _ _ => slit_inj) (fun _ => trivial) rfl HMS.out (by unfold maxLen; omega) X true _ _ rfl rfl (keyS HSZ.out) (plainElem_bool underBo true) ?_; intro w4 hM4 hg4; go_frame))
                  have hg5 := grown_below hg4 (show w.heap.size ≤ wr.heap.size by omega) (fun q hq => by injection hq; omega)
                  have HM4 := Lib.hid (show MapS w4 _ (k + 1) (inM (tkA l i).af (k + 1)) by rw [HNX.out]; exact hM4)
                  have HN4 := Lib.hid (HMN.out.kept hg4 (by intro e; injection e; omega))
                  have hB4 : Below w.heap.size w w4 := HB.out.trans hg5
                  clear hM4 hg4 hg5
                  go_wp2
                  go_roundw
                  case rel => exact ChI.mk (k + 1) (by omega) (by go_num) HN4 HM4 HF hB4
                  case measure => simp [intOf]; omega
              · have hkn : k = (tkA l i).af.length := by omega
                have hk1 : ¬ (k : Int) < (tkA l i).af.length := by omega
                have HF := Lib.hid (HTN.out (by unfold rowE; rw [← hkn]; exact HT.out))
                have HB := Lib.hid hB
                clear HT HTN HE2 hB hkn
                go_wp2
                go_roundw
                case rel => exact ChO.mk (i + 1) (by omega) (by go_num) HMN HF HB.out
                case measure => simp [intOf]; omega
          · have hil : i = l.length := by omega
            have hi1 : ¬ (i : Int) < l.length := by omega
            have HN : Hid (namesE l = 0) := Lib.hid (by unfold namesE; rw [← hil]; exact HT.out)
            have HF := Lib.hid (E3.out HA.out HN.out)
            have c5 := C5.out HA.out HN.out wr hB
            have hle := ordK_le l l.length
            change (ord l).length ≤ l.length at hle
            have HB := Lib.hid hB
            have hbs := hB.size
            subst hil
            generalize (ord l).length = n at *
            have C9 := Lib.hid c5
            clear c5 HT E3 E2 C5 hB HM
            by_cases hn : n < l.length
            · have hn1 : (n : Int) < l.length := by omega
              have HG : Hid (10 = R) := Lib.hid (by rw [HF.out, if_pos hn])
              clear HF
              go_wp2_with fail
              refine C9.out.mono ?_
              rintro e w1 ⟨⟨v, rfl, ho⟩, hb⟩
              obtain ⟨A1, cap1, rfl, -, -, -, -⟩ := own_ints ho
              have hB2 := Lib.hid (HB.out.trans (hb.mono hbs))
              clear ho hb
              go_wp2
              go_ret
              exact ⟨ret_int HG.out, hB2.out⟩
            · have hn1 : ¬ (n : Int) < l.length := by omega
              have HG : Hid (0 = R) := Lib.hid (by rw [HF.out, if_neg hn])
              clear HF
              go_wp2_with fail
              refine C9.out.mono ?_
              rintro e w1 ⟨⟨v, rfl, ho⟩, hb⟩
              obtain ⟨A1, cap1, rfl, -, -, -, -⟩ := own_ints ho
              have hB2 := Lib.hid (HB.out.trans (hb.mono hbs))
              clear ho hb
              go_wp2
              go_ret
              exact ⟨ret_int HG.out, hB2.out⟩
      · have HF : Hid (aloneE l = R) := Lib.hid (e1 ha)
        have hne : (aloneE l == 0) = false := by simpa using ha
        generalize aloneE l = E at *
        have C1 := Lib.hid c1
        clear c1 c2 e1 ha C5 E2 E3
        go_enter Try.func29, Try.ntmps29
        go_wp2_with fail
        refine (C1.out _ (by repeat (first | exact Below.refl _ _ | assumption | refine Below.setCell ?_ (by first | (simp; done) | (simp; omega) | omega) _ | refine Below.drew ?_ | refine below_drewN ?_ _ | refine Below.alloc ?_ (by first | (simp; done) | (simp; omega) | omega) _ | refine below_alloc ?_ _ | refine below_step ?_ (by assumption)))).mono ?_
        rintro e w1 ⟨rfl, hb⟩
        have hB_w1 : Below w.heap.size w w1 := (by repeat (first | exact Below.refl _ _ | assumption | refine Below.setCell ?_ (by first | (simp; done) | (simp; omega) | omega) _ | refine Below.drew ?_ | refine below_drewN ?_ _ | refine Below.alloc ?_ (by first | (simp; done) | (simp; omega) | omega) _ | refine below_alloc ?_ _ | refine below_step ?_ (by assumption))); have hz_w1 := hB_w1.size; clear hb
        go_wp2
        go_ret
        exact ⟨ret_int HF.out, (by repeat (first | exact Below.refl _ _ | assumption | refine Below.setCell ?_ (by first | (simp; done) | (simp; omega) | omega) _ | refine Below.drew ?_ | refine below_drewN ?_ _ | refine Below.alloc ?_ (by first | (simp; done) | (simp; omega) | omega) _ | refine below_alloc ?_ _ | refine below_step ?_ (by assumption)))⟩
end Go.Proofs.Ytgijekhlbkfanaa
