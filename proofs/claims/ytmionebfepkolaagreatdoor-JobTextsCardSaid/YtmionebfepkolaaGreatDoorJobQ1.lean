/- Plans: the program's names: byName, alone. -/
import Derived.Test.YtmionebfepkolaaGreatDoorJobR2
import Derived.Test.YtmionebfepkolaaGreatDoorYJa
import Derived.Test.YtmionebfepkolaaGreatDoorMapV
import Derived.Carry
set_option linter.unusedSimpArgs false
set_option linter.unusedVariables false
namespace Go.Proofs.YtmionebfepkolaaGreatDoor
open Go.RowKit Go.Maps
attribute [local go_sem] Later.cell

theorem lawS : Keyed Tryz.prog 9 := string_keyed Tryz.underlying9
theorem underBo : Tryz.prog.underlying 4 = some .bool := Tryz.underlying4
theorem zeroIn (w : World) : (zeroValue 3).run Tryz.prog w = .ok (.int .i64 0) w := Tryz.zeroValue3 w
theorem zeroBo (w : World) : (zeroValue 4).run Tryz.prog w = .ok (.bool false) w := Tryz.zeroValue4 w
abbrev MapN (w : World) (b n : Nat) (M : ByteArray → Option Int) : Prop := MapV Tryz.prog 9 3 slit ilit 0 w b n M
abbrev MapS (w : World) (b n : Nat) (M : ByteArray → Option Bool) : Prop := MapV Tryz.prog 9 4 slit blit false w b n M
theorem keyS {s : ByteArray} (h : s.size ≤ 9223372036854775807) : keyOf Tryz.prog 9 (.string s) = some (slit s) := WideMaps.keyOf_string_mk Tryz.underlying9 (by unfold maxLen; exact h)
def ByR (l : List Tk) (w : World) (B : Nat) (i : Value) (W : World) : Prop := ∃ k : Nat, k ≤ l.length ∧ i = .int .i64 k ∧ Hid (MapN W B k (fndM l k)) ∧ Below w.heap.size w W
theorem ByR.mk {l : List Tk} {w : World} {B : Nat} {i : Value} {W : World} (k : Nat) (h1 : k ≤ l.length) (h2 : i = .int .i64 k) (h3 : Hid (MapN W B k (fndM l k))) (h4 : Below w.heap.size w W) : ByR l w B i W := ⟨k, h1, h2, h3, h4⟩
set_option maxRecDepth 20000 in
set_option maxHeartbeats 8000000 in
theorem byName_any (A : Option Addr) (len cap : Nat) (l : List Tk) (w : World) (hS : Sml l) (hx : Plan w w.heap.size A len l) :
    Calls Tryz.prog 44 #[.slice A len cap] w fun e w' => (∃ b, e = .returned (.map (some b)) ∧ w.heap.size ≤ b ∧ MapN w' b len (fndM l len)) ∧ Below w.heap.size w w' := by
  obtain rfl : l.length = len := hx.1
  have hm := hS.len
  have hnn := Lib.hid hS.nm
  have hmm := @run_makeMap Tryz.prog
  have hM0 : MapN (w.alloc (.map #[] 0)) w.heap.size 0 (fndM l 0) := by rw [fndM_zero]; exact mapv_made w Tryz.prog 9 3 slit ilit 0
  have HM0 := Lib.hid hM0
  have HX := Lib.hid hx
  have HL := Lib.hid hm
  clear hM0 hx
  go_enter Tryz.func44, Tryz.ntmps44
  go_wp2
  clear hmm
  go_loopw [11] (fun i W => ByR l w w.heap.size i W) (fun i _ => l.length - (intOf i).toNat)
  case atStart => exact ByR.mk 0 (Nat.zero_le _) rfl HM0 (by repeat (first | exact Below.refl _ _ | assumption | refine Below.setCell ?_ (by first | (simp; done) | (simp; omega) | omega) _ | refine Below.drew ?_ | refine below_drewN ?_ _ | refine Below.alloc ?_ (by first | (simp; done) | (simp; omega) | omega) _ | refine below_alloc ?_ _ | refine below_step ?_ (by assumption)))
  case round =>
    obtain ⟨k, hk, rfl, HM, hB⟩ := hrel
    by_cases hlt : k < l.length
    · obtain ⟨b, off, rfl, hb0, hc1, hc2, hc3, A', n, cc, hc4, -, -, -⟩ := (HX.out.below hB).at_ k hlt
      have hbs := hB.size
      have hb1 : b < wr.heap.size := by omega
      have hk1 : (k : Int) < l.length := by omega
      have hk2 : ¬ l.length ≤ k := by omega
      have hsz := hnn.out k hlt
      have hy1 := Lib.hid (fndM_stay hlt)
      have hy2 := Lib.hid (fndM_next hlt)
      have HIS := Lib.hid (fndM_is (l := l) (k := k) (s := (tkA l k).nm))
      generalize (tkA l k).nm = X at *
      have HSZ := Lib.hid hsz
      clear hsz
      generalize (tkA l k).dy = Y at *
      generalize (tkA l k).mn = Z at *
      have HM1 := Lib.hid (HM.out.alloc (.cells #[.string X, .int .i64 Y, .int .i64 Z, .slice A' n cc] 34))
      have hBw : Below w.heap.size w (wr.alloc (.cells #[.string X, .int .i64 Y, .int .i64 Z, .slice A' n cc] 34)) := hB.alloc hbs _
      clear HM
      generalize hmk : fndM l k X = m at *
      have HMK := Lib.hid hmk
      clear hmk
      by_cases hF : fnd l X < k
      · have hm2 : Hid (m.isSome = true) := Lib.hid (by rw [HIS.out]; exact decide_eq_true hF)
        have HG := Lib.hid (hy1.out hF)
        clear hy1 hy2 HIS hF
        go_wp2_with (at_lookup; refine wpList_mapv_int_ok rfl (.tmp 17) (.tmp 19) 72 rfl lawS Tryz.underlying72 Tryz.underlying3 (zeroIn _) rfl HM1.out X _ rfl (keyS HSZ.out) ?_; rw [HMK.out, hm2.out])
        go_roundw
        case rel => exact ByR.mk (k + 1) (by omega) (by go_num) (Lib.hid (by rw [HG.out]; exact HM1.out.mono (by omega))) hBw
        case measure => simp [intOf]; omega
      · have hm2 : Hid (m.isSome = false) := Lib.hid (by rw [HIS.out]; exact decide_eq_false hF)
        have HG := Lib.hid (hy2.out hF)
        have hL := HL.out
        clear hy1 hy2 HIS hF
        go_wp2_with (first | (at_lookup; refine wpList_mapv_int_ok rfl (.tmp 17) (.tmp 19) 72 rfl lawS Tryz.underlying72 Tryz.underlying3 (zeroIn _) rfl HM1.out X _ rfl (keyS HSZ.out) ?_; rw [HMK.out, hm2.out]) | (at_mapUpdate; refine wpList_mapv_put (κ := ByteArray) rfl (.tmp 25) (.tmp 27) (.tmp 28) 72 rfl lawS Tryz.underlying72 (fun _ _ => slit_inj) (fun _ => trivial) rfl HM1.out (by unfold maxLen; omega) X (k : Int) _ _ rfl rfl (keyS HSZ.out) (plainElem_int Tryz.underlying3 (WalkArith.wf_i64 (by omega))) ?_; intro w4 hM4 hg4; go_frame))
        have hB4 : Below w.heap.size w w4 := hBw.trans (grown_below hg4 (by simp; omega) (fun k hk => by injection hk; omega))
        have HM4 : Hid (MapN w4 w.heap.size (k + 1) (fndM l (k + 1))) := Lib.hid (by rw [HG.out]; exact hM4)
        clear hM4 hg4
        go_wp2
        go_roundw
        case rel => exact ByR.mk (k + 1) (by omega) (by go_num) HM4 hB4
        case measure => simp [intOf]; omega
    · have hkl : k = l.length := by omega
      have hk1 : ¬ (k : Int) < l.length := by omega
      have HB := Lib.hid hB
      have HMF : Hid (MapN wr w.heap.size l.length (fndM l l.length)) := Lib.hid (by rw [hkl] at HM; exact HM.out)
      subst hkl
      clear hB HM
      go_wp2
      go_ret
      exact ⟨⟨w.heap.size, rfl, Nat.le_refl _, HMF.out⟩, HB.out⟩

def AlR (l : List Tk) (w : World) (B : Nat) (i : Value) (W : World) : Prop := ∃ k : Nat, k ≤ l.length ∧ i = .int .i64 k ∧ Hid (MapS W B k (seenM l k)) ∧ Hid (frst ((List.range k).map (tkE l)) = 0) ∧ Below w.heap.size w W
theorem AlR.mk {l : List Tk} {w : World} {B : Nat} {i : Value} {W : World} (k : Nat) (h1 : k ≤ l.length) (h2 : i = .int .i64 k) (h3 : Hid (MapS W B k (seenM l k))) (h5 : Hid (frst ((List.range k).map (tkE l)) = 0)) (h4 : Below w.heap.size w W) : AlR l w B i W := ⟨k, h1, h2, h3, h5, h4⟩
set_option maxRecDepth 20000 in
set_option maxHeartbeats 8000000 in
theorem alone_any (A : Option Addr) (len cap : Nat) (l : List Tk) (w : World) (hS : Sml l) (hx : Plan w w.heap.size A len l) :
    Calls Tryz.prog 43 #[.slice A len cap] w fun e w' => e = .returned (.int .i64 (aloneE l)) ∧ Below w.heap.size w w' := by
  obtain rfl : l.length = len := hx.1
  have hm := hS.len
  have hnn := Lib.hid hS.nm
  have hmm := @run_makeMap Tryz.prog
  have hM0 : MapS (w.alloc (.map #[] 0)) w.heap.size 0 (seenM l 0) := by rw [seenM_zero]; exact mapv_made w Tryz.prog 9 4 slit blit false
  have HM0 := Lib.hid hM0
  have HX := Lib.hid hx
  have HL := Lib.hid hm
  have c2 := fun i W (hi : i < l.length) => isName_any (tkA l i).nm W (hS.nm i hi)
  have c3 := fun n lo hi W => jwithin_any n lo hi W
  have C2 := Lib.hid c2
  have C3 := Lib.hid c3
  have e1 : ∀ k, k < l.length → frst ((List.range k).map (tkE l)) = 0 → tkE l k ≠ 0 → tkE l k = aloneE l := fun k hk hf hne => (frst_stop hk hf hne).symm
  have e2 : aloneE l = frst ((List.range l.length).map (tkE l)) := rfl
  generalize aloneE l = R at *
  have E1 := Lib.hid e1
  have E2 := Lib.hid e2
  clear hM0 hx c2 c3 e1 e2
  go_enter Tryz.func43, Tryz.ntmps43
  go_wp2
  clear hmm
  go_loopw [9] (fun i W => AlR l w w.heap.size i W) (fun i _ => l.length - (intOf i).toNat)
  case atStart => exact AlR.mk 0 (Nat.zero_le _) rfl HM0 (Lib.hid rfl) (by repeat (first | exact Below.refl _ _ | assumption | refine Below.setCell ?_ (by first | (simp; done) | (simp; omega) | omega) _ | refine Below.drew ?_ | refine below_drewN ?_ _ | refine Below.alloc ?_ (by first | (simp; done) | (simp; omega) | omega) _ | refine below_alloc ?_ _ | refine below_step ?_ (by assumption)))
  case round =>
    obtain ⟨k, hk, rfl, HM, HT, hB⟩ := hrel
    by_cases hlt : k < l.length
    · obtain ⟨b, off, rfl, hb0, hc1, hc2, hc3, A', n, cc, hc4, hn1, hn2, hSt⟩ := (HX.out.below hB).at_ k hlt
      have hbs := hB.size
      have hb1 : b < wr.heap.size := by omega
      have hk1 : (k : Int) < l.length := by omega
      have hk2 : ¬ l.length ≤ k := by omega
      have HSZ := Lib.hid (hnn.out k hlt)
      have HY2 := Lib.hid (seenM_next hlt)
      have HIS := Lib.hid (seenM_at (l := l) (k := k) (s := (tkA l k).nm))
      have HE1 := Lib.hid (E1.out k hlt HT.out)
      have HTN := Lib.hid (fun h => frst_next (f := tkE l) HT.out h)
      have hnl : (tkA l k).af.length = n := hSt.1
      have c6 := fun W => C2.out k W hlt
      have hcs := tk_cases l k
      rw [hnl] at hcs
      have hnb : n ≤ 9223372036854775807 := by omega
      clear hSt hnl
      generalize (tkA l k).nm = X at *
      generalize (tkA l k).dy = Y at *
      generalize (tkA l k).mn = Z at *
      generalize tkE l k = T at *
      generalize fnd l X = F at *
      have HM1 := Lib.hid (HM.out.alloc (.cells #[.string X, .int .i64 Y, .int .i64 Z, .slice A' n cc] 34))
      have hBw : Below w.heap.size w (wr.alloc (.cells #[.string X, .int .i64 Y, .int .i64 Z, .slice A' n cc] 34)) := hB.alloc hbs _
      have HB := Lib.hid hBw
      clear HM
      generalize hmk : seenM l k X = m at *
      have HMK := Lib.hid hmk
      clear hmk
      rcases hcs with ⟨a1, rfl⟩ | ⟨⟨a1, a2⟩, rfl⟩ | ⟨⟨a1, a2, a3⟩, rfl⟩ | ⟨⟨a1, a2, a3⟩, hcs⟩
      · rw [a1] at c6
        have C6 := Lib.hid c6
        have HF := Lib.hid (HE1.out (by decide))
        clear c6 a1 HTN HE1 HT
        go_wp2_with fail
        refine (C6.out _).mono ?_
        rintro e w1 ⟨rfl, rfl⟩
        go_wp2
        go_ret
        exact ⟨ret_int HF.out, HB.out⟩
      · rw [a1] at c6
        have C6 := Lib.hid c6
        have c8 := fun W => C3.out Y 1 1000 W
        rw [a2] at c8
        have C8 := Lib.hid c8
        have HF := Lib.hid (HE1.out (by decide))
        clear c6 c8 a1 a2 HTN HE1 HT
        go_wp2_with fail
        refine (C6.out _).mono ?_
        rintro e w1 ⟨rfl, rfl⟩
        go_wp2_with fail
        refine (C8.out _).mono ?_
        rintro e w1 ⟨rfl, rfl⟩
        go_wp2
        go_ret
        exact ⟨ret_int HF.out, HB.out⟩
      · rw [a1] at c6
        have C6 := Lib.hid c6
        have c8 := fun W => C3.out Y 1 1000 W
        rw [a2] at c8
        have C8 := Lib.hid c8
        have c9 := fun W => C3.out Z 1 16 W
        rw [a3] at c9
        have C9 := Lib.hid c9
        have HF := Lib.hid (HE1.out (by decide))
        clear c6 c8 c9 a1 a2 a3 HTN HE1 HT
        go_wp2_with fail
        refine (C6.out _).mono ?_
        rintro e w1 ⟨rfl, rfl⟩
        go_wp2_with fail
        refine (C8.out _).mono ?_
        rintro e w1 ⟨rfl, rfl⟩
        go_wp2_with fail
        refine (C9.out _).mono ?_
        rintro e w1 ⟨rfl, rfl⟩
        go_wp2
        go_ret
        exact ⟨ret_int HF.out, HB.out⟩
      · rw [a1] at c6
        have C6 := Lib.hid c6
        have c8 := fun W => C3.out Y 1 1000 W
        rw [a2] at c8
        have C8 := Lib.hid c8
        have c9 := fun W => C3.out Z 1 16 W
        rw [a3] at c9
        have C9 := Lib.hid c9
        have hL := HL.out
        clear c6 c8 c9 a1 a2 a3 hBw
        rcases hcs with ⟨a4, rfl⟩ | ⟨a4, a5, rfl⟩ | ⟨a4, a5, rfl⟩
        · have hm2 : Hid (m.getD false = true) := Lib.hid (by rw [HIS.out]; exact decide_eq_true a4)
          have HF := Lib.hid (HE1.out (by decide))
          clear HTN HE1 HT HIS a4
          go_wp2_with fail
          refine (C6.out _).mono ?_
          rintro e w1 ⟨rfl, rfl⟩
          go_wp2_with fail
          refine (C8.out _).mono ?_
          rintro e w1 ⟨rfl, rfl⟩
          go_wp2_with fail
          refine (C9.out _).mono ?_
          rintro e w1 ⟨rfl, rfl⟩
          go_wp2_with (at_lookup; refine wpList_mapv_bool rfl (.tmp 31) (.tmp 33) 74 rfl lawS Tryz.underlying74 underBo (zeroBo _) rfl HM1.out X _ rfl (keyS HSZ.out) ?_; rw [HMK.out, hm2.out])
          go_ret
          exact ⟨ret_int HF.out, HB.out⟩
        · have hm2 : Hid (m.getD false = false) := Lib.hid (by rw [HIS.out]; exact decide_eq_false a4)
          have a7 : (10 : Int) < n := by omega
          have HF := Lib.hid (HE1.out (by decide))
          clear HTN HE1 HT HIS a4
          go_wp2_with fail
          refine (C6.out _).mono ?_
          rintro e w1 ⟨rfl, rfl⟩
          go_wp2_with fail
          refine (C8.out _).mono ?_
          rintro e w1 ⟨rfl, rfl⟩
          go_wp2_with fail
          refine (C9.out _).mono ?_
          rintro e w1 ⟨rfl, rfl⟩
          go_wp2_with (at_lookup; refine wpList_mapv_bool rfl (.tmp 31) (.tmp 33) 74 rfl lawS Tryz.underlying74 underBo (zeroBo _) rfl HM1.out X _ rfl (keyS HSZ.out) ?_; rw [HMK.out, hm2.out])
          go_ret
          exact ⟨ret_int HF.out, HB.out⟩
        · have hm2 : Hid (m.getD false = false) := Lib.hid (by rw [HIS.out]; exact decide_eq_false a4)
          have a7 : ¬ (10 : Int) < n := by omega
          have HF := Lib.hid (HTN.out rfl)
          have HG := Lib.hid (HY2.out a4)
          clear HTN HE1 HT HIS a4 HY2
          go_wp2_with fail
          refine (C6.out _).mono ?_
          rintro e w1 ⟨rfl, rfl⟩
          go_wp2_with fail
          refine (C8.out _).mono ?_
          rintro e w1 ⟨rfl, rfl⟩
          go_wp2_with fail
          refine (C9.out _).mono ?_
          rintro e w1 ⟨rfl, rfl⟩
          go_wp2_with (first | (at_lookup; refine wpList_mapv_bool rfl (.tmp 31) (.tmp 33) 74 rfl lawS Tryz.underlying74 underBo (zeroBo _) rfl HM1.out X _ rfl (keyS HSZ.out) ?_; rw [HMK.out, hm2.out]) | (at_mapUpdate; refine wpList_mapv_put (κ := ByteArray) rfl (.tmp 40) (.tmp 42) (.const (.bool true)) 74 rfl lawS Tryz.underlying74 (fun _ _ => slit_inj) (fun _ => trivial) rfl HM1.out (by unfold maxLen; omega) X true _ _ rfl rfl (keyS HSZ.out) (plainElem_bool underBo true) ?_; intro w4 hM4 hg4; go_frame))
          have hB4 : Below w.heap.size w w4 := HB.out.trans (grown_below hg4 (by simp; omega) (fun k hk => by injection hk; omega))
          have HM4 : Hid (MapS w4 w.heap.size (k + 1) (seenM l (k + 1))) := Lib.hid (by rw [HG.out]; exact hM4)
          clear hM4 hg4
          go_wp2
          go_roundw
          case rel => exact AlR.mk (k + 1) (by omega) (by go_num) HM4 HF hB4
          case measure => simp [intOf]; omega
    · have hkl : k = l.length := by omega
      have hk1 : ¬ (k : Int) < l.length := by omega
      have HB := Lib.hid hB
      have HF : Hid (0 = R) := Lib.hid (by rw [E2.out, ← hkl, HT.out])
      subst hkl
      clear hB HM HT
      go_wp2
      go_ret
      exact ⟨ret_int HF.out, HB.out⟩
end Go.Proofs.YtmionebfepkolaaGreatDoor
