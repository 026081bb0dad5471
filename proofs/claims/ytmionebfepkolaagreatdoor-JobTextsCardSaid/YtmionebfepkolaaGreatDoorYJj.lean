/- Joined by merge.py from: JobQ3 JobQ4 JobQ5. -/
import Derived.Test.YtmionebfepkolaaGreatDoorJobQ2
import Derived.Test.YtmionebfepkolaaGreatDoorYJc
set_option linter.unusedSimpArgs false
set_option linter.unusedVariables false
namespace Go.Proofs.YtmionebfepkolaaGreatDoor
open Go.RowKit Go.Maps
attribute [local go_sem] Later.cell

def ChO (l : List Tk) (w : World) (nb : Nat) (i : Value) (W : World) : Prop := ∃ k : Nat, k ≤ l.length ∧ i = .int .i64 k ∧ Hid (MapN W nb l.length (fndM l l.length)) ∧ Hid (frst ((List.range k).map (rowE l)) = 0) ∧ Below w.heap.size w W
theorem ChO.mk {l : List Tk} {w : World} {nb : Nat} {i : Value} {W : World} (k : Nat) (h1 : k ≤ l.length) (h2 : i = .int .i64 k) (h3 : Hid (MapN W nb l.length (fndM l l.length))) (h5 : Hid (frst ((List.range k).map (rowE l)) = 0)) (h4 : Below w.heap.size w W) : ChO l w nb i W := ⟨k, h1, h2, h3, h5, h4⟩
def ChI (l : List Tk) (w : World) (nb sb r : Nat) (i : Value) (W : World) : Prop := ∃ k : Nat, k ≤ (tkA l r).af.length ∧ i = .int .i64 k ∧ (Hid (MapN W nb l.length (fndM l l.length)) ∧ Hid (MapS W sb k (inM (tkA l r).af k))) ∧ Hid (frst ((List.range k).map (afE l r)) = 0) ∧ Below w.heap.size w W
theorem ChI.mk {l : List Tk} {w : World} {nb sb r : Nat} {i : Value} {W : World} (k : Nat) (h1 : k ≤ (tkA l r).af.length) (h2 : i = .int .i64 k) (h3 : Hid (MapN W nb l.length (fndM l l.length))) (h6 : Hid (MapS W sb k (inM (tkA l r).af k))) (h5 : Hid (frst ((List.range k).map (afE l r)) = 0)) (h4 : Below w.heap.size w W) : ChI l w nb sb r i W := ⟨k, h1, h2, ⟨h3, h6⟩, h5, h4⟩
set_option maxRecDepth 20000 in
set_option maxHeartbeats 8000000 in
theorem Check_any (A : Option Addr) (len cap : Nat) (l : List Tk) (w : World) (hS : Sml l) (hx : Plan w w.heap.size A len l) :
    Calls Tryz.prog 17 #[.slice A len cap] w fun e w' => e = .returned (.int .i64 (checkE l)) ∧ Below w.heap.size w w' := by
  obtain rfl : l.length = len := hx.1
  by_cases h0 : l.length = 0
  · have hE : checkE l = 8 := by unfold checkE; rw [if_pos h0]
    rw [hE]
    have h00 : ((l.length : Int) == 0) = true := by simp [h0]
    clear hx hE
    go_enter Tryz.func17, Tryz.ntmps17
    go_wp2
    go_ret
    exact ⟨rfl, (by repeat (first | exact Below.refl _ _ | assumption | refine Below.setCell ?_ (by first | (simp; done) | (simp; omega) | omega) _ | refine Below.drew ?_ | refine below_drewN ?_ _ | refine Below.alloc ?_ (by first | (simp; done) | (simp; omega) | omega) _ | refine below_alloc ?_ _ | refine below_step ?_ (by assumption)))⟩
  · have h00 : ((l.length : Int) == 0) = false := by simpa using h0
    by_cases h20 : 20 < l.length
    · have hE : checkE l = 4 := by unfold checkE; rw [if_neg h0, if_pos h20]
      rw [hE]
      have h21 : (20 : Int) < l.length := by omega
      clear hx hE h0
      go_enter Tryz.func17, Tryz.ntmps17
      go_wp2
      go_ret
      exact ⟨rfl, (by repeat (first | exact Below.refl _ _ | assumption | refine Below.setCell ?_ (by first | (simp; done) | (simp; omega) | omega) _ | refine Below.drew ?_ | refine below_drewN ?_ _ | refine Below.alloc ?_ (by first | (simp; done) | (simp; omega) | omega) _ | refine below_alloc ?_ _ | refine below_step ?_ (by assumption)))⟩
    · have h21 : ¬ (20 : Int) < l.length := by omega
      have hSl := hS.len
      have c1 := fun W (h : Below w.heap.size w W) => alone_any A l.length cap l W hS (hx.go h)
      have c2 := fun W (h : Below w.heap.size w W) => byName_any A l.length cap l W hS (hx.go h)
      have c5 := fun (ha : aloneE l = 0) (hn : namesE l = 0) W (h : Below w.heap.size w W) => order_any A l.length cap l W hS (okN_mk ha hn) (hx.go h)
      have e1 := fun ha => check_alone (l := l) h0 h20 ha
      have e2 := fun i k ha hi hr hk hf hne => check_second (l := l) (i := i) (k := k) h0 h20 ha hi hr hk hf hne
      have e3 := fun ha hn => check_last (l := l) h0 h20 ha hn
      generalize hR : checkE l = R at *
      have C5 := Lib.hid c5
      have E2 := Lib.hid e2
      have E3 := Lib.hid e3
      have HX := Lib.hid hx
      have HS := Lib.hid hS
      have HL0 := Lib.hid hSl
      clear c5 e2 e3 hx hR hS h0 h20 hSl
      by_cases ha : aloneE l = 0
      · have HA := Lib.hid ha
        rw [ha] at c1
        have C1 := Lib.hid c1
        have C2 := Lib.hid c2
        have hmm := @run_makeMap Tryz.prog
        clear c1 c2 e1 ha
        go_enter Tryz.func17, Tryz.ntmps17
        go_wp2_with fail
        refine (C1.out _ (by repeat (first | exact Below.refl _ _ | assumption | refine Below.setCell ?_ (by first | (simp; done) | (simp; omega) | omega) _ | refine Below.drew ?_ | refine below_drewN ?_ _ | refine Below.alloc ?_ (by first | (simp; done) | (simp; omega) | omega) _ | refine below_alloc ?_ _ | refine below_step ?_ (by assumption)))).mono ?_
        rintro e w1 ⟨rfl, hb⟩
        have hB_w1 : Below w.heap.size w w1 := (by repeat (first | exact Below.refl _ _ | assumption | refine Below.setCell ?_ (by first | (simp; done) | (simp; omega) | omega) _ | refine Below.drew ?_ | refine below_drewN ?_ _ | refine Below.alloc ?_ (by first | (simp; done) | (simp; omega) | omega) _ | refine below_alloc ?_ _ | refine below_step ?_ (by assumption))); have hz_w1 := hB_w1.size; clear hb
        go_wp2_with fail
        refine (C2.out _ (by repeat (first | exact Below.refl _ _ | assumption | refine Below.setCell ?_ (by first | (simp; done) | (simp; omega) | omega) _ | refine Below.drew ?_ | refine below_drewN ?_ _ | refine Below.alloc ?_ (by first | (simp; done) | (simp; omega) | omega) _ | refine below_alloc ?_ _ | refine below_step ?_ (by assumption)))).mono ?_
        rintro e w2 ⟨⟨nb, rfl, hnb, hMN⟩, hb⟩
        have HMN := Lib.hid hMN
        clear hMN
        have hB_w2 : Below w.heap.size w w2 := (by repeat (first | exact Below.refl _ _ | assumption | refine Below.setCell ?_ (by first | (simp; done) | (simp; omega) | omega) _ | refine Below.drew ?_ | refine below_drewN ?_ _ | refine Below.alloc ?_ (by first | (simp; done) | (simp; omega) | omega) _ | refine below_alloc ?_ _ | refine below_step ?_ (by assumption))); have hz_w2 := hB_w2.size; clear hb hB_w1
        have HB2 := Lib.hid hB_w2
        have HNB : Hid (w.heap.size ≤ nb) := Lib.hid (by omega)
        clear hB_w2 hz_w2
        go_wp2
        go_loopw [27] (fun i W => ChO l w nb i W) (fun i _ => l.length - (intOf i).toNat)
        case atStart => exact ChO.mk 0 (Nat.zero_le _) rfl HMN (Lib.hid rfl) HB2.out
        case round =>
          obtain ⟨i, hi, rfl, HM, HT, hB⟩ := hrel
          by_cases hlt : i < l.length
          · obtain ⟨b, off, rfl, hb0, d1, d2, d3, A', n, cc, d4, hn1, hn2, hSt⟩ := HX.out.at_ i hlt
            have hq := fun o v (h : w.cell? ⟨b, o, none⟩ = some v) => (hB.cell (p := ⟨b, o, none⟩) hb0).trans h
            have hc1 := hq _ _ d1
            have hc2 := hq _ _ d2
            have hc3 := hq _ _ d3
            have hc4 := hq _ _ d4
            clear d1 d2 d3 d4 hq
            have hbs := hB.size
            have hb1 : b < wr.heap.size := by omega
            have hi1 : (i : Int) < l.length := by omega
            have hi2 : ¬ l.length ≤ i := by omega
            obtain rfl : (tkA l i).af.length = n := hSt.1
            have HE2 := Lib.hid (fun k (hk : k < (tkA l i).af.length) => E2.out i k HA.out hlt HT.out hk)
            have HTN := Lib.hid (fun h => frst_next (f := rowE l) HT.out h)
            have hnb2 : (tkA l i).af.length ≤ 9223372036854775807 := by omega
            have haf := HS.out.af i hlt
            have HAN := Lib.hid (HS.out.an i hlt)
            have HAF := Lib.hid haf
            have HSt := Lib.hid hSt
            generalize (tkA l i).nm = X at *
            generalize (tkA l i).dy = Y at *
            generalize (tkA l i).mn = Z at *
            have hMN := HM.out.lt
            have hBt : Below wr.heap.size wr ((wr.alloc (.cells #[.string X, .int .i64 Y, .int .i64 Z, .slice A' (tkA l i).af.length cc] 34)).alloc (.map #[] 0)) := ((Below.refl _ _).alloc (Nat.le_refl _) _).alloc (by simp) _
            have hM0 : MapS ((wr.alloc (.cells #[.string X, .int .i64 Y, .int .i64 Z, .slice A' (tkA l i).af.length cc] 34)).alloc (.map #[] 0)) (wr.heap.size + 1) 0 (inM (tkA l i).af 0) := by
              rw [inM_zero]
              have := mapv_made (wr.alloc (.cells #[.string X, .int .i64 Y, .int .i64 Z, .slice A' (tkA l i).af.length cc] 34)) Tryz.prog 9 4 slit blit false
              rw [World.size_alloc] at this; exact this
            have HM0 := Lib.hid hM0
            have HN0 := Lib.hid (HM.out.below hBt)
            have HB0 := Lib.hid (hB.trans (hBt.mono hbs))
            clear hM0 hBt hSt HM HT hB E2 E3
            go_wp2
            go_loopw [35] (fun i' W => ChI l w nb (wr.heap.size + 1) i i' W) (fun i' _ => (tkA l i).af.length - (intOf i').toNat)
            case atStart => exact ChI.mk 0 (Nat.zero_le _) rfl HN0 HM0 (Lib.hid rfl) HB0.out
            case round =>
              obtain ⟨k, hk, rfl, ⟨HMN, HMS⟩, HT, hB⟩ := hrel
              by_cases hlk : k < (tkA l i).af.length
              · obtain ⟨b2, off2, rfl, hb2, hc6⟩ := (HSt.out.below hB).atS k hlk
                have hbs := hB.size
                have hb3 : b2 < wr.heap.size := by omega
                have hk1 : (k : Int) < (tkA l i).af.length := by omega
                have hk2 : ¬ (tkA l i).af.length ≤ k := by omega
                have HE := Lib.hid (HE2.out k hlk HT.out)
                have HTM := Lib.hid (fun h => frst_next (f := afE l i) HT.out h)
                have hcs := af_cases l i k
                have HSZ := Lib.hid (HAN.out _ (afA_mem hlk))
                have HIS := Lib.hid (fndM_is (l := l) (k := l.length) (s := afA l i k))
                have HIA := Lib.hid (inM_at (ss := (tkA l i).af) (k := k) (s := afA l i k))
                have HNX := Lib.hid (inM_next (ss := (tkA l i).af) hlk)
                have hafb := HAF.out
                change wr.cell? _ = some (.string (afA l i k)) at hc6
                change Hid (inM (tkA l i).af (k + 1) = fun x => if x = afA l i k then some true else inM (tkA l i).af k x) at HNX
                generalize hfm : fndM l l.length (afA l i k) = fm at *
                generalize him : inM (tkA l i).af k (afA l i k) = im at *
                generalize afA l i k = X at *
                generalize afE l i k = T at *
                have HMK := Lib.hid hfm
                have HSK := Lib.hid him
                have HB := Lib.hid hB
                have hnb3 := HMN.out.lt
                have hsb3 := HMS.out.lt
                have hws := hMN
                clear hfm him hB HT
                rcases hcs with ⟨a1, rfl⟩ | ⟨a1, a2, rfl⟩ | ⟨a1, a2, rfl⟩
                · have hm2 : Hid (fm.isSome = false) := Lib.hid (by rw [HIS.out]; exact decide_eq_false a1)
                  have HF := Lib.hid (HE.out (by decide))
                  clear a1 HE HTM HIS HIA HNX
                  go_wp2_with (first | (at_lookup; refine wpList_mapv_int_ok rfl (.tmp 40) (.tmp 41) 72 rfl lawS Tryz.underlying72 Tryz.underlying3 (zeroIn _) rfl HMN.out X _ rfl (keyS HSZ.out) ?_; rw [HMK.out, hm2.out]))
                  go_ret
                  exact ⟨ret_int HF.out, HB.out⟩
                · have hm2 : Hid (fm.isSome = true) := Lib.hid (by rw [HIS.out]; exact decide_eq_true a1)
                  have hs2 : Hid (im.getD false = true) := Lib.hid (by rw [HIA.out]; exact a2)
                  have HF := Lib.hid (HE.out (by decide))
                  clear a1 a2 HE HTM HIS HIA HNX
                  go_wp2_with (first | (at_lookup; refine wpList_mapv_int_ok rfl (.tmp 40) (.tmp 41) 72 rfl lawS Tryz.underlying72 Tryz.underlying3 (zeroIn _) rfl HMN.out X _ rfl (keyS HSZ.out) ?_; rw [HMK.out, hm2.out]) | (at_lookup; refine wpList_mapv_bool rfl (.tmp 47) (.tmp 48) 74 rfl lawS Tryz.underlying74 underBo (zeroBo _) rfl HMS.out X _ rfl (keyS HSZ.out) ?_; rw [HSK.out, hs2.out]))
                  go_ret
                  exact ⟨ret_int HF.out, HB.out⟩
                · have hm2 : Hid (fm.isSome = true) := Lib.hid (by rw [HIS.out]; exact decide_eq_true a1)
                  have hs2 : Hid (im.getD false = false) := Lib.hid (by rw [HIA.out]; exact a2)
                  have HF := Lib.hid (HTM.out rfl)
                  clear a1 a2 HE HTM HIS HIA
                  go_wp2_with (first | (at_lookup; refine wpList_mapv_int_ok rfl (.tmp 40) (.tmp 41) 72 rfl lawS Tryz.underlying72 Tryz.underlying3 (zeroIn _) rfl HMN.out X _ rfl (keyS HSZ.out) ?_; rw [HMK.out, hm2.out]) | (at_lookup; refine wpList_mapv_bool rfl (.tmp 47) (.tmp 48) 74 rfl lawS Tryz.underlying74 underBo (zeroBo _) rfl HMS.out X _ rfl (keyS HSZ.out) ?_; rw [HSK.out, hs2.out]) | (at_mapUpdate; refine wpList_mapv_put (κ := ByteArray) rfl (.tmp 50) (.tmp 51) (.const (.bool true)) 74 rfl lawS Tryz.underlying74 (fun _ _ => slit_inj) (fun _ => trivial) rfl HMS.out (by unfold maxLen; omega) X true _ _ rfl rfl (keyS HSZ.out) (plainElem_bool underBo true) ?_; intro w4 hM4 hg4; go_frame))
                  have hg5 := grown_below hg4 (show w.heap.size ≤ wr.heap.size by omega) (fun q hq => by injection hq; omega)
                  have HM4 := Lib.hid (show MapS w4 _ (k + 1) (inM (tkA l i).af (k + 1)) by rw [HNX.out]; exact hM4)
                  have HN4 := Lib.hid (HMN.out.kept hg4 (by intro e; injection e; omega))
                  have hB4 : Below w.heap.size w w4 := HB.out.trans hg5
                  clear hM4 hg4 hg5
                  go_wp2
                  go_roundw
                  case rel => exact ChI.mk (k + 1) (by omega) (by go_num) HN4 HM4 HF hB4
                  case measure => simp [intOf]; omega
              · have hkn : k = (tkA l i).af.length := by omega
                have hk1 : ¬ (k : Int) < (tkA l i).af.length := by omega
                have HF := Lib.hid (HTN.out (by unfold rowE; rw [← hkn]; exact HT.out))
                have HB := Lib.hid hB
                clear HT HTN HE2 hB hkn
                go_wp2
                go_roundw
                case rel => exact ChO.mk (i + 1) (by omega) (by go_num) HMN HF HB.out
                case measure => simp [intOf]; omega
          · have hil : i = l.length := by omega
            have hi1 : ¬ (i : Int) < l.length := by omega
            have HN : Hid (namesE l = 0) := Lib.hid (by unfold namesE; rw [← hil]; exact HT.out)
            have HF := Lib.hid (E3.out HA.out HN.out)
            have c5 := C5.out HA.out HN.out wr hB
            have hle := ordK_le l l.length
            change (ord l).length ≤ l.length at hle
            have HB := Lib.hid hB
            have hbs := hB.size
            subst hil
            generalize (ord l).length = n at *
            have C9 := Lib.hid c5
            clear c5 HT E3 E2 C5 hB HM
            by_cases hn : n < l.length
            · have hn1 : (n : Int) < l.length := by omega
              have HG : Hid (10 = R) := Lib.hid (by rw [HF.out, if_pos hn])
              clear HF
              go_wp2_with fail
              refine C9.out.mono ?_
              rintro e w1 ⟨⟨v, rfl, ho⟩, hb⟩
              obtain ⟨A1, cap1, rfl, -, -, -, -⟩ := own_ints ho
              have hB2 := Lib.hid (HB.out.trans (hb.mono hbs))
              clear ho hb
              go_wp2
              go_ret
              exact ⟨ret_int HG.out, hB2.out⟩
            · have hn1 : ¬ (n : Int) < l.length := by omega
              have HG : Hid (0 = R) := Lib.hid (by rw [HF.out, if_neg hn])
              clear HF
              go_wp2_with fail
              refine C9.out.mono ?_
              rintro e w1 ⟨⟨v, rfl, ho⟩, hb⟩
              obtain ⟨A1, cap1, rfl, -, -, -, -⟩ := own_ints ho
              have hB2 := Lib.hid (HB.out.trans (hb.mono hbs))
              clear ho hb
              go_wp2
              go_ret
              exact ⟨ret_int HG.out, hB2.out⟩
      · have HF : Hid (aloneE l = R) := Lib.hid (e1 ha)
        have hne : (aloneE l == 0) = false := by simpa using ha
        generalize aloneE l = E at *
        have C1 := Lib.hid c1
        clear c1 c2 e1 ha C5 E2 E3
        go_enter Tryz.func17, Tryz.ntmps17
        go_wp2_with fail
        refine (C1.out _ (by repeat (first | exact Below.refl _ _ | assumption | refine Below.setCell ?_ (by first | (simp; done) | (simp; omega) | omega) _ | refine Below.drew ?_ | refine below_drewN ?_ _ | refine Below.alloc ?_ (by first | (simp; done) | (simp; omega) | omega) _ | refine below_alloc ?_ _ | refine below_step ?_ (by assumption)))).mono ?_
        rintro e w1 ⟨rfl, hb⟩
        have hB_w1 : Below w.heap.size w w1 := (by repeat (first | exact Below.refl _ _ | assumption | refine Below.setCell ?_ (by first | (simp; done) | (simp; omega) | omega) _ | refine Below.drew ?_ | refine below_drewN ?_ _ | refine Below.alloc ?_ (by first | (simp; done) | (simp; omega) | omega) _ | refine below_alloc ?_ _ | refine below_step ?_ (by assumption))); have hz_w1 := hB_w1.size; clear hb
        go_wp2
        go_ret
        exact ⟨ret_int HF.out, (by repeat (first | exact Below.refl _ _ | assumption | refine Below.setCell ?_ (by first | (simp; done) | (simp; omega) | omega) _ | refine Below.drew ?_ | refine below_drewN ?_ _ | refine Below.alloc ?_ (by first | (simp; done) | (simp; omega) | omega) _ | refine below_alloc ?_ _ | refine below_step ?_ (by assumption)))⟩
end Go.Proofs.YtmionebfepkolaaGreatDoor

namespace Go.Proofs.YtmionebfepkolaaGreatDoor
open Go.RowKit Go.Maps
attribute [local go_sem] Later.cell Same.cell

theorem afs_get {l : List Tk} {i j : Nat} (h : j < (tkA l i).af.length) : (afs l i)[j]'(by rw [afs_len]; exact h) = fnd l (afA l i j) := by
  unfold afs
  rw [List.getElem_map]
  unfold afA
  rw [List.getElem?_eq_getElem h]; rfl
theorem jmade1 (n : Nat) : (madeCells (Value.int .i64 0).cells (n * 1)).toList = icells (List.replicate n 0) := by
  apply List.ext_getElem?
  intro i
  by_cases hi : i < n
  · have e : (Value.int .i64 0).cells = #[.int .i64 0] := rfl
    rw [e]
    simp [madeCells, hi, icells, Nat.mod_one]
  · simp [madeCells, hi, icells]
theorem own_not_mapn {W : World} {base : Nat} {e : TypeId} {size : Nat} {v : Value} {n : Nat} {xs : List Value} (ho : W.ownsRow base e size v n xs) {mb mn : Nat} {M : ByteArray → Option Int} (hM : MapN W mb mn M) : some mb ≠ v.ownBlock := by
  intro hh
  obtain ⟨D, ⟨es, clock, hD, -⟩, -⟩ := hM
  rcases ho.2 with ⟨h1, _⟩ | ⟨g, cap, cur, h1, _, h3, _⟩
  · rw [h1] at hh; simp [Value.ownBlock] at hh
  · rw [h1] at hh
    have : mb = g := by simpa [Value.ownBlock] using hh
    subst this
    rw [hD] at h3; cases h3
structure EaR (l : List Tk) (w : World) (nb g : Nat) (A1 : Option Addr) (n cap1 : Nat) (out : List Int) (W : World) : Prop where
  own : W.ownsRow w.heap.size 3 1 (.slice (some ⟨g, 0, none⟩) l.length l.length) l.length (icells out)
  map : MapN W nb l.length (fndM l l.length)
  ord : W.ownsRow (g + 1) 3 1 (.slice A1 n cap1) n (icells (iN (ord l)))
  bel : Below w.heap.size w W
theorem EaR.store {l : List Tk} {w : World} {nb g : Nat} {A1 : Option Addr} {n cap1 : Nat} {out : List Int} {W : World} (h : EaR l w nb g A1 n cap1 out W) (i : Nat) (v : Int) : EaR l w nb g A1 n cap1 (out.set i v) (W.setCell ⟨g, i, none⟩ (.int .i64 v)) := by
  obtain ⟨h1, h2⟩ := jown_store h.own i v
  have hg := (jown_at h.own).2.1
  refine ⟨h1, h.map.setCell (fun e => own_not_mapn h.own h.map (by simp [Value.ownBlock]; exact e.symm)) _, h.ord.kept h2 (.inr fun e => ?_), h.bel.setCell (p := ⟨g, i, none⟩) hg _⟩
  have := (h.ord.lt g e).1
  omega
theorem EaR.later {l : List Tk} {w : World} {nb g : Nat} {A1 : Option Addr} {n cap1 : Nat} {out : List Int} {W W' : World} (h : EaR l w nb g A1 n cap1 out W) (hb : Below W.heap.size W W') : EaR l w nb g A1 n cap1 out W' :=
  ⟨jown_later h.own hb, h.map.below hb, jown_later h.ord hb, h.bel.trans (hb.mono h.bel.size)⟩
theorem iN_at {xs : List Nat} {k : Nat} (h : k < xs.length) : gI (iN xs) k = (xs[k] : Int) := iN_get h
set_option maxRecDepth 20000 in
set_option maxHeartbeats 8000000 in
theorem earliest_any (A : Option Addr) (len cap : Nat) (l : List Tk) (w : World) (hS : Sml l) (hP : okP l) (hx : Plan w w.heap.size A len l) :
    Calls Tryz.prog 36 #[.slice A len cap] w fun e w' => (∃ v, e = .returned v ∧ w'.ownsRow w.heap.size 3 1 v len (icells (ear l))) ∧ Below w.heap.size w w' := by
  obtain rfl : l.length = len := hx.1
  have c2 := fun W (h : Below w.heap.size w W) => byName_any A l.length cap l W hS (hx.go h)
  have c5 := fun W (h : Below w.heap.size w W) => order_any A l.length cap l W hS hP.names (hx.go h)
  obtain ⟨j0, hj, hy0, hy1, hy2⟩ := info_parts jinfo_int
  have hI0 := Lib.hid hj
  have hI1 := Lib.hid hy0
  have hI2 := Lib.hid hy1
  have hI3 := Lib.hid hy2
  have hL := hP.len
  have C2 := Lib.hid c2
  have C5 := Lib.hid c5
  have HX := Lib.hid hx
  have HS := Lib.hid hS
  have HP := Lib.hid hP
  clear c2 c5 hx hS hP hj hy0 hy1 hy2
  go_enter Tryz.func36, Tryz.ntmps36
  go_wp2_with fail
  refine (C2.out _ (by repeat (first | exact Below.refl _ _ | assumption | refine Below.setCell ?_ (by first | (simp; done) | (simp; omega) | omega) _ | refine Below.drew ?_ | refine below_drewN ?_ _ | refine Below.alloc ?_ (by first | (simp; done) | (simp; omega) | omega) _ | refine below_alloc ?_ _ | refine below_step ?_ (by assumption)))).mono ?_
  rintro e w1 ⟨⟨nb, rfl, hnb, hMN⟩, hb⟩
  have HMN := Lib.hid hMN
  have HB1 := Lib.hid hb
  clear hMN hb
  go_wp2_with (at_make; refine wpList_make_full _ rfl _ _ 37 rfl w.heap.size 3 j0 (.int .i64 0) 1 Tryz.underlying37 hI0.out hI1.out hI2.out _ _ _ _ l.length rfl rfl (by omega) (by omega) (by rw [hI3.out]; omega) (by unfold maxLen; omega) (HB1.out.size) ?_; intro w2 hown hgrow; go_frame)
  rw [jmade1] at hown
  have hg2 : Below w1.heap.size w1 w2 := grown_below hgrow (Nat.le_refl _) (fun k hk => by cases hk)
  have hB2 : Below w.heap.size w w2 := HB1.out.trans (hg2.mono HB1.out.size)
  have HM2 := Lib.hid (HMN.out.below hg2)
  have HOW := Lib.hid hown
  have hg0 : w1.heap.size < w2.heap.size := (jown_at hown).1
  have HB2 := Lib.hid hB2
  have hw1 := HB1.out.size
  generalize hgg : w1.heap.size = g at *
  clear hown hgrow hg2 hB2 HMN HB1 hgg
  refine (C5.out _ HB2.out).mono ?_
  rintro e w3 ⟨⟨v, rfl, ho⟩, hb⟩
  obtain ⟨A1, cap1, rfl, hq1, hq2, -, -⟩ := own_ints ho
  have hol : (ord l).length = l.length := HP.out.all
  have HE : Hid (EaR l w nb g A1 (ord l).length cap1 (earK l 0) w3) := Lib.hid ⟨by rw [earK_zero]; exact jown_later HOW.out hb, HM2.out.below hb, jown_mono ho (by omega), HB2.out.trans (hb.mono (by have := HB2.out.size; omega))⟩
  clear ho hb HOW HM2 HB2
  rw [hol] at HE hq1 ⊢
  go_wp2
  go_loopw [18] (fun i W => ∃ k : Nat, k ≤ l.length ∧ i = .int .i64 k ∧ Hid (EaR l w nb g A1 l.length cap1 (earK l k) W)) (fun i _ => l.length - (intOf i).toNat)
  case atStart => exact ⟨0, Nat.zero_le _, rfl, HE⟩
  case round =>
    obtain ⟨k, hk, rfl, HE⟩ := hrel
    by_cases hlt : k < l.length
    · have hko : k < (ord l).length := by omega
      have hil := ord_lt (List.getElem_mem hko)
      obtain ⟨b, off, rfl, hb0, d1, d2, d3, A', n, cc, d4, hn1, hn2, hSt⟩ := HX.out.at_ (ord l)[k] hil
      have D4 := Lib.hid d4
      have HSt := Lib.hid hSt
      obtain rfl : (tkA l (ord l)[k]).af.length = n := hSt.1
      have h5 := HE.out.ord
      obtain ⟨A2, cap2, he, -, -, hI5, hg5⟩ := own_ints h5
      injection he with he1 he2 he3
      subst he1 he3
      obtain ⟨b5, off5, rfl, hb5, hc5⟩ := hI5.at_ k hlt
      change wr.cell? _ = some (.int .i64 (gI (iN (ord l)) k)) at hc5
      rw [iN_at hko] at hc5
      have hbd := fun j (hj : j ≤ 10) => earKJ_bd HP.out hko hj
      have hfew := HP.out.few _ hil
      have hkn := fun j (h : j < (tkA l (ord l)[k]).af.length) => HP.out.known _ hil _ (afA_mem h)
      have hEn := fun j (h : j < (tkA l (ord l)[k]).af.length) => (earJ_next (l := l) (i := (ord l)[k]) (out := earK l k) (j := j) (by rw [afs_len]; exact h)).trans (by rw [afs_get h])
      have hEe := earJ_end (l := l) (i := (ord l)[k]) (out := earK l k) (j := (tkA l (ord l)[k]).af.length) (by rw [afs_len]; exact Nat.le_refl _)
      have hKn := earK_next hko
      have hEz := earJ_zero l (ord l)[k] (earK l k)
      have HAN := Lib.hid (HS.out.an _ hil)
      generalize hio : (ord l)[k] = i at *
      have HBD := Lib.hid hbd
      have HKN := Lib.hid hkn
      have HEN := Lib.hid hEn
      have HEE := Lib.hid hEe
      have HKX := Lib.hid hKn
      have HE0 : Hid (EaR l w nb g (some ⟨b5, off5, none⟩) l.length cap1 (earJ l i (earK l k) 0) wr) := Lib.hid (by rw [hEz]; exact HE.out)
      have hBw := HE.out.bel
      have hbs := hBw.size
      have hb1 : b < wr.heap.size := by omega
      have hc4 : wr.cell? ⟨b, off + i * 4 + 3, none⟩ = some (.slice A' (tkA l i).af.length cc) := (hBw.cell (p := ⟨b, _, none⟩) hb0).trans D4.out
      have hk1 : (k : Int) < l.length := by omega
      have hk2 : ¬ l.length ≤ k := by omega
      have hi1 : (i : Int) < l.length := by omega
      have hi2 : ¬ l.length ≤ i := by omega
      have hnn : (tkA l i).af.length ≤ 9223372036854775807 := by omega
      clear d1 d2 d3 d4 hSt h5 hI5 hg5 hbd hkn hEn hEe hKn hEz HE hBw hio
      go_wp2
      go_loopw [28] (fun i' W => ∃ j : Nat, j ≤ (tkA l i).af.length ∧ i' = .int .i64 j ∧ Hid (EaR l w nb g (some ⟨b5, off5, none⟩) l.length cap1 (earJ l i (earK l k) j) W)) (fun i' _ => (tkA l i).af.length - (intOf i').toNat)
      case atStart => exact ⟨0, Nat.zero_le _, rfl, HE0⟩
      case round =>
        clear hb1 hc4 hbs hc5 hb5
        obtain ⟨j, hj, rfl, HE⟩ := hrel
        by_cases hlj : j < (tkA l i).af.length
        · have hBw := HE.out.bel
          have hbs := hBw.size
          obtain ⟨b2, off2, rfl, hb2, hc6⟩ := (HSt.out.below hBw).atS j hlj
          change wr.cell? _ = some (.string (afA l i j)) at hc6
          have hal := HKN.out j hlj
          have HMV := Lib.hid (fndM_at (l := l) (k := l.length) hal)
          have HSZ := Lib.hid (HAN.out _ (afA_mem hlj))
          have hnx := HEN.out j hlj
          obtain ⟨b7, off7, he7, hb7, d1, d2, d3, -⟩ := (HX.out.below hBw).at_ (fnd l (afA l i j)) hal
          injection he7 with he7
          injection he7 with he71 he72
          subst he71 he72
          have hbd := HBD.out j (by omega)
          have hda := dy_bd HP.out hal
          change 1 ≤ (tkA l _).dy ∧ (tkA l _).dy ≤ 1000 at hda
          obtain ⟨hgs, hgb, hgc, hgf⟩ := jown_at HE.out.own
          have hci := hgc i (by omega)
          have hca := hgc (fnd l (afA l i j)) hal
          have hfi := hgf i
          have hst := HE.out.store i (imax (gI (earJ l i (earK l k) j) i) (gI (earJ l i (earK l k) j) (fnd l (afA l i j)) + (tkA l (fnd l (afA l i j))).dy))
          have hbi := hbd i
          have hba := hbd (fnd l (afA l i j))
          unfold earS dyA at hnx
          rw [← hnx] at hst
          have HM := Lib.hid HE.out.map
          generalize hQ : earJ l i (earK l k) j = Q at *
          generalize afA l i j = X at *
          generalize hF : fnd l X = F at *
          generalize (tkA l F).dy = Y at *
          generalize gI Q i = Gi at *
          generalize gI Q F = Ga at *
          have HST := Lib.hid hst
          have hF1 : (F : Int) < l.length := by omega
          have hF2 : ¬ l.length ≤ F := by omega
          have hj1 : (j : Int) < (tkA l i).af.length := by omega
          have hj2 : ¬ (tkA l i).af.length ≤ j := by omega
          have hb1 : b < wr.heap.size := by omega
          have hb3 : b2 < wr.heap.size := by omega
          unfold imax at HST
          clear hst hnx hbd hgc hgf hBw hQ hF d1 d3
          go_wp2_with (at_lookup; go_loud (refine wpList_mapv_int (z := 0) rfl (.tmp 32) (.tmp 33) 72 rfl lawS Tryz.underlying72 Tryz.underlying3 (zeroIn _) rfl HM.out X _ rfl (keyS HSZ.out) ?_; rw [HMV.out]))
          have hwr : wrap64 (Ga + Y) = Ga + Y := IntWalk.wrap64_in _ ⟨by omega, by omega⟩
          (refine wp_region_tail 18 (by kernel_rfl) (by kernel_rfl) ?_; simp only [List.take_succ_cons, List.take_zero, List.drop_succ_cons, List.drop_zero]; (repeat (go_big_quiet_step ((fail)))); refine wpQuiet_nil ?_)
          go_wp2
          refine ⟨⟨j + 1, by omega, by go_num, ?_⟩, by simp [intOf]; omega⟩
          first | exact Lib.hid (HST.out.later (Below.refl _ _).drew) | (rw [hwr]; exact Lib.hid (HST.out.later (Below.refl _ _).drew))
        · have hjn : j = (tkA l i).af.length := by omega
          have hj1 : ¬ (j : Int) < (tkA l i).af.length := by omega
          have HF : Hid (EaR l w nb g (some ⟨b5, off5, none⟩) l.length cap1 (earK l (k + 1)) wr) := Lib.hid (by rw [HKX.out, ← HEE.out, ← hjn]; exact HE.out)
          clear HE
          go_wp2
          go_roundw
          case rel => exact ⟨k + 1, by omega, by go_num, HF⟩
          case measure => simp [intOf]; omega
    · have hkl : k = l.length := by omega
      have hk1 : ¬ (k : Int) < l.length := by omega
      have HF : Hid (EaR l w nb g A1 l.length cap1 (ear l) wr) := Lib.hid (by rw [← earK_end (l := l) (k := k) (by omega)]; exact HE.out)
      clear HE
      go_wp2
      go_ret
      exact ⟨⟨_, rfl, HF.out.own⟩, HF.out.bel⟩
end Go.Proofs.YtmionebfepkolaaGreatDoor

namespace Go.Proofs.YtmionebfepkolaaGreatDoor
open Go.RowKit Go.Maps
attribute [local go_sem] Later.cell Same.cell

set_option maxRecDepth 20000 in
set_option maxHeartbeats 8000000 in
theorem ends_any (A : Option Addr) (len cap : Nat) (l : List Tk) (A' : Option Addr) (cap' : Nat) (days : List Int) (w : World) (hP : okP l) (hx : Plan w w.heap.size A len l) (hy : Ints w w.heap.size A' len days) (hd : bdE 1000000 days) :
    Calls Tryz.prog 35 #[.slice A len cap, .slice A' len cap'] w fun e w' => e = .returned (.int .i64 (endsV l days)) ∧ Below w.heap.size w w' := by
  obtain rfl : l.length = len := hx.1
  have hL := hP.len
  have HX := Lib.hid hx
  have HY := Lib.hid hy
  have HP := Lib.hid hP
  have HM := Lib.hid (fun k hk => mxs_bd hP hd k hk)
  have HN := Lib.hid (fun k => mxs_next l days k)
  have HD := Lib.hid hd
  have hE : endsV l days = mxs l days 0 (List.range l.length) := rfl
  rw [hE]
  clear hx hy hP hd hE
  go_enter Tryz.func35, Tryz.ntmps35
  go_wp2
  go_loopw [5, 10] (fun v i W => ∃ k : Nat, k ≤ l.length ∧ i = .int .i64 k ∧ v = .int .i64 (mxs l days 0 (List.range k)) ∧ Below w.heap.size w W) (fun _ i _ => l.length - (intOf i).toNat)
  case atStart => exact ⟨0, Nat.zero_le _, rfl, rfl, Below.refl _ _⟩
  case round =>
    obtain ⟨k, hk, rfl, rfl, hB⟩ := hrel
    have hbs := hB.size
    by_cases hlt : k < l.length
    · obtain ⟨b, off, rfl, hb0, hc1, hc2, hc3, A'', n, cc, hc4, -, -, -⟩ := (HX.out.below hB).at_ k hlt
      obtain ⟨b2, off2, rfl, hb2, hc6⟩ := (HY.out.below hB).at_ k hlt
      change wr.cell? _ = some (.int .i64 (gI days k)) at hc6
      have hk1 : (k : Int) < l.length := by omega
      have hk2 : ¬ l.length ≤ k := by omega
      have hb1 : b < wr.heap.size := by omega
      have hb3 : b2 < wr.heap.size := by omega
      have hm := HM.out k (by omega)
      have hnx := HN.out k
      have hda := dy_bd HP.out hlt
      have hdg := HD.out k
      unfold imax dyA at hnx
      change 1 ≤ (tkA l k).dy ∧ (tkA l k).dy ≤ 1000 at hda
      generalize (tkA l k).nm = X at *
      generalize (tkA l k).dy = Y at *
      generalize (tkA l k).mn = Z at *
      generalize gI days k = G at *
      generalize mxs l days 0 (List.range k) = M at *
      have hwr : wrap64 (G + Y) = G + Y := IntWalk.wrap64_in _ ⟨by omega, by omega⟩
      have HNX := Lib.hid hnx
      clear hnx
      go_wp2
      (refine wp_region_later (by kernel_rfl) (by kernel_rfl) ?_; (repeat (go_big_quiet_step ((fail)))); refine wpQuiet_nil ?_)
      intro w3 hb3
      have hB3 : Below w.heap.size w w3 := by first | exact (hB.alloc hbs _).trans (hb3.mono (by simp; omega)) | exact hB.trans (hb3.mono hbs)
      go_wp2
      go_roundw
      case rel => exact ⟨k + 1, by omega, by go_num, by rw [HNX.out], hB3⟩
      case measure => simp [intOf]; omega
    · have hkl : k = l.length := by omega
      have hk1 : ¬ (k : Int) < l.length := by omega
      have HB := Lib.hid hB
      subst hkl
      clear hB
      go_wp2
      go_ret
      exact ⟨rfl, HB.out⟩
theorem ear_bdE {l : List Tk} (h : okP l) : bdE 1000000 (ear l) := bdE_mono (ear_bd h) (by omega)
def lenE (l : List Tk) : Int := if checkE l = 0 then lenV l else 0
set_option maxRecDepth 20000 in
set_option maxHeartbeats 8000000 in
theorem Length_any (A : Option Addr) (len cap : Nat) (l : List Tk) (w : World) (hS : Sml l) (hx : Plan w w.heap.size A len l) :
    Calls Tryz.prog 12 #[.slice A len cap] w fun e w' => e = .returned (.tuple #[.int .i64 (lenE l), .int .i64 (checkE l)]) ∧ Below w.heap.size w w' := by
  have hl := hx.1
  have c1 := Check_any A len cap l w hS hx
  have hE : lenE l = if checkE l = 0 then lenV l else 0 := rfl
  by_cases h0 : checkE l = 0
  · have hP := check_spec h0
    have c2 := fun W (h : Below w.heap.size w W) => earliest_any A len cap l W hS hP (hx.go h)
    have c3 := fun A' cap' W (h : Below w.heap.size w W) (hy : Ints W W.heap.size A' len (ear l)) => ends_any A len cap l A' cap' (ear l) W hP (hx.go h) hy (ear_bdE hP)
    rw [if_pos h0] at hE
    rw [h0] at c1
    rw [h0, hE]
    change ∀ A' cap' W _ _, Calls _ _ _ _ (fun e w' => e = .returned (.int .i64 (lenV l)) ∧ _) at c3
    generalize lenV l = L at *
    have C1 := Lib.hid c1
    have C2 := Lib.hid c2
    have C3 := Lib.hid c3
    clear c1 c2 c3 hx hE h0 hP hl
    go_enter Tryz.func12, Tryz.ntmps12
    go_wp2_with fail
    refine C1.out.mono ?_
    rintro e w1 ⟨rfl, hb⟩
    have hB_w1 : Below w.heap.size w w1 := (by repeat (first | exact Below.refl _ _ | assumption | refine Below.setCell ?_ (by first | (simp; done) | (simp; omega) | omega) _ | refine Below.drew ?_ | refine below_drewN ?_ _ | refine Below.alloc ?_ (by first | (simp; done) | (simp; omega) | omega) _ | refine below_alloc ?_ _ | refine below_step ?_ (by assumption))); have hz_w1 := hB_w1.size; clear hb
    go_wp2_with fail
    refine (C2.out _ hB_w1).mono ?_
    rintro e w2 ⟨⟨v, rfl, ho⟩, hb⟩
    obtain ⟨A1, cap1, rfl, hq1, hq2, hI, -⟩ := own_ints ho
    have HI := Lib.hid hI
    clear ho hI
    have hB_w2 : Below w.heap.size w w2 := (by repeat (first | exact Below.refl _ _ | assumption | refine Below.setCell ?_ (by first | (simp; done) | (simp; omega) | omega) _ | refine Below.drew ?_ | refine below_drewN ?_ _ | refine Below.alloc ?_ (by first | (simp; done) | (simp; omega) | omega) _ | refine below_alloc ?_ _ | refine below_step ?_ (by assumption))); have hz_w2 := hB_w2.size; clear hb hB_w1
    go_wp2_with fail
    refine (C3.out A1 cap1 _ hB_w2 HI.out).mono ?_
    rintro e w3 ⟨rfl, hb⟩
    have hB_w3 : Below w.heap.size w w3 := (by repeat (first | exact Below.refl _ _ | assumption | refine Below.setCell ?_ (by first | (simp; done) | (simp; omega) | omega) _ | refine Below.drew ?_ | refine below_drewN ?_ _ | refine Below.alloc ?_ (by first | (simp; done) | (simp; omega) | omega) _ | refine below_alloc ?_ _ | refine below_step ?_ (by assumption))); have hz_w3 := hB_w3.size; clear hb hB_w2
    go_wp2
    go_ret2
    exact ⟨rfl, (by repeat (first | exact Below.refl _ _ | assumption | refine Below.setCell ?_ (by first | (simp; done) | (simp; omega) | omega) _ | refine Below.drew ?_ | refine below_drewN ?_ _ | refine Below.alloc ?_ (by first | (simp; done) | (simp; omega) | omega) _ | refine below_alloc ?_ _ | refine below_step ?_ (by assumption)))⟩
  · rw [if_neg h0] at hE
    rw [hE]
    have hne : (checkE l == 0) = false := by simpa using h0
    generalize checkE l = E at *
    have C1 := Lib.hid c1
    clear c1 hx hE h0
    go_enter Tryz.func12, Tryz.ntmps12
    go_wp2_with fail
    refine C1.out.mono ?_
    rintro e w1 ⟨rfl, hb⟩
    have hB_w1 : Below w.heap.size w w1 := (by repeat (first | exact Below.refl _ _ | assumption | refine Below.setCell ?_ (by first | (simp; done) | (simp; omega) | omega) _ | refine Below.drew ?_ | refine below_drewN ?_ _ | refine Below.alloc ?_ (by first | (simp; done) | (simp; omega) | omega) _ | refine below_alloc ?_ _ | refine below_step ?_ (by assumption))); have hz_w1 := hB_w1.size; clear hb
    go_wp2
    go_ret2
    exact ⟨rfl, (by repeat (first | exact Below.refl _ _ | assumption | refine Below.setCell ?_ (by first | (simp; done) | (simp; omega) | omega) _ | refine Below.drew ?_ | refine below_drewN ?_ _ | refine Below.alloc ?_ (by first | (simp; done) | (simp; omega) | omega) _ | refine below_alloc ?_ _ | refine below_step ?_ (by assumption)))⟩
end Go.Proofs.YtmionebfepkolaaGreatDoor
