/- JobTexts: the reference's Parse. -/
import Derived.Test.YtmionebfepkolaaGreatDoorJtC
set_option linter.unusedSimpArgs false
set_option linter.unusedVariables false
namespace Go.Proofs.YtmionebfepkolaaGreatDoor
open Go.RowKit
attribute [local go_sem] Later.cell Same.cell OffB.cell

set_option maxRecDepth 20000 in
set_option maxHeartbeats 16000000 in
theorem rParse_any (b : List UInt8) (w : World) (hbl : b.length ≤ 65536) (hS : ∀ L, AllJ b L → Sml L) :
    Calls Tryz.prog 8 #[.string ⟨b.toArray⟩] w fun e w' => (∃ v xs, e = .returned (.tuple #[v, .int .i64 ((rpJ b).2.1 : Nat), .int .i64 (rpJ b).2.2]) ∧ xs.map (·.2) = (rpJ b).1 ∧ OPv w' w.heap.size v (rpJ b).1.length xs) ∧ Below w.heap.size w w' := by
  have hsz : (⟨b.toArray⟩ : ByteArray).size = b.length := rfl
  have h1' : decide ((65536 : Int) < b.length) = false := decide_eq_false (by omega)
  have h1'' : ¬ (65536 : Int) < b.length := by omega
  have HE : Hid (rpJ b = runJ (words 10 b) 0 []) := Lib.hid rfl
  have HALL : Hid (∀ ws' L, words 10 b = ws' ++ [[]] → ReadJ ws' L → Sml L) := Lib.hid (fun ws' L h1 h2 => hS L ⟨ws', h1, h2⟩)
  have C1 : Hid (Calls Tryz.prog 27 #[.string ⟨b.toArray⟩, .int .u8 10] w fun e w' => (∃ v, e = .returned v ∧ w'.ownsRow w.heap.size 9 1 v (words 10 b).length (bcel (words 10 b))) ∧ Below w.heap.size w w') := Lib.hid (cut6_any b 10 w (by omega))
  have HWL := Lib.hid (fun y (hy : y ∈ words 10 b) => words10_len hy)
  have HNL : Hid ((words 10 b).length ≤ b.length + 1) := Lib.hid (wordsA_len 10 b [])
  have HNP : Hid (0 < (words 10 b).length) := Lib.hid (List.length_pos_iff.2 (words_ne _ _))
  obtain ⟨i0, hi, hz0, hz1, hz2⟩ := info_parts info_task
  have hI0 := Lib.hid hi
  have hI1 := Lib.hid hz0
  have hI2 := Lib.hid hz1
  have hI3 := Lib.hid hz2
  obtain ⟨k0, hk, ky0, ky1, ky2⟩ := info_parts info_str
  have hJ0 := Lib.hid hk
  have hJ1 := Lib.hid ky0
  have hJ2 := Lib.hid ky1
  have hJ3 := Lib.hid ky2
  clear hi hz0 hz1 hz2 hk ky0 ky1 ky2 hS
  go_enter Tryz.func8, Tryz.ntmps8
  go_wp2_with fail
  refine C1.out.mono ?_
  rintro e w1 ⟨⟨v1, rfl, ho1⟩, hb1⟩
  generalize hWs : words 10 b = ws at *
  obtain ⟨A1, cap1, rfl, hnc1, hcm1, -, hT1, hg1⟩ := own_txts ho1
  have hnl : ws.length ≤ b.length + 1 := HNL.out
  have hnp : 0 < ws.length := HNP.out
  obtain ⟨g, rfl, hgb, hgl⟩ := hg1 hnp
  have HT1 := Lib.hid hT1
  have HB1 := Lib.hid hb1
  have hb1s := hb1.size
  have HST : Hid (rpJ b = runJ (ws.drop 0) 0 []) := Lib.hid HE.out
  clear ho1 hb1 hWs C1 HE HNL HNP hT1
  go_wp2
  go_loopw [6, 7] (fun v i wr => ∃ (k : Nat) (xs : List TkR), k + 1 ≤ ws.length ∧ i = .int .i64 (k : Int) ∧ Hid (OPv wr w1.heap.size v k xs) ∧ Hid (ReadJ (ws.take k) (xs.map (·.2))) ∧ Hid (rpJ b = runJ (ws.drop k) k (xs.map (·.2))) ∧ Below w1.heap.size w1 wr) (fun _ i _ => ws.length - (intOf i).toNat)
  case atStart => exact ⟨0, [], hnp, rfl, Lib.hid (OPv.nil _ _), Lib.hid ReadJ.nil, HST, Below.refl _ _⟩
  case round =>
    obtain ⟨k, xs, hk, rfl, HO, HRd, HR, hB⟩ := hrel
    clear HST
    obtain ⟨A0, cap0, rfl, hnc0, hcm0⟩ := opv_slice HO.out
    have hsz1 := hB.size
    have hgr : g < wr.heap.size := by omega
    have HBw : ∀ W, Below wr.heap.size wr W → Below w.heap.size w W := fun W h => HB1.out.trans ((hB.trans (h.mono hsz1)).mono hb1s)
    have hk2 : ¬ ws.length ≤ k := by omega
    have hk3 : (k : Int) < ws.length := by omega
    obtain ⟨_, _, he, _, hc1⟩ := (HT1.out.below hB).at_ k (by omega)
    cases he
    rw [Nat.zero_add] at hc1
    have hyl : (ws[k]?.getD []).length ≤ b.length := by
      have hk' : k < ws.length := by omega
      rw [List.getElem?_eq_getElem hk']
      exact HWL.out _ (List.getElem_mem hk')
    have HDR : Hid (ws.drop k = (ws[k]?.getD []) :: ws.drop (k + 1)) := Lib.hid (by
      have hk' : k < ws.length := by omega
      rw [List.getElem?_eq_getElem hk', List.drop_eq_getElem_cons hk']; rfl)
    have HTK : Hid (ws.take (k + 1) = ws.take k ++ [ws[k]?.getD []]) := Lib.hid (by
      have hk' : k < ws.length := by omega
      rw [List.take_succ_eq_append_getElem hk', List.getElem?_eq_getElem hk']; rfl)
    generalize ws[k]?.getD [] = Y at *
    have C2 : Hid (∀ W : World, Calls Tryz.prog 27 #[.string ⟨Y.toArray⟩, .int .u8 32] W fun e w' => (∃ v, e = .returned v ∧ w'.ownsRow W.heap.size 9 1 v (words 32 Y).length (bcel (words 32 Y))) ∧ Below W.heap.size W w') := Lib.hid (fun W => cut6_any Y 32 W (by omega))
    have hYz : (⟨Y.toArray⟩ : ByteArray).size = Y.length := rfl
    by_cases hlast : k + 1 = ws.length
    · have hke : ((k : Int) == (ws.length : Int) - 1) = true := beq_iff_eq.2 (by omega)
      have HDZ : Hid (ws.drop (k + 1) = []) := Lib.hid (List.drop_eq_nil_iff.2 (by omega))
      by_cases hfin : k ≠ 0 ∧ Y = []
      · obtain ⟨hk0, rfl⟩ := hfin
        have hkp : (0 : Int) < k := by omega
        have HFI : Hid (rpJ b = finJ (xs.map (·.2))) := Lib.hid (by rw [HR.out, HDR.out, HDZ.out, runJ_end hk0])
        have hSm : Sml (xs.map (·.2)) := HALL.out (ws.take k) _ (by rw [← HTK.out, hlast, List.take_length]) HRd.out
        have C6 := Lib.hid (fun W (h : Plan W W.heap.size A0 k (xs.map (·.2))) => rCheck_any A0 k cap0 (xs.map (·.2)) W hSm h)
        have HXL : Hid ((xs.map (·.2)).length = k) := Lib.hid (by rw [List.length_map]; exact opv_len HO.out)
        clear HRd HR HDR HTK HDZ HALL C2 hSm
        have hw1 : ¬ ws.length = 0 := by omega
        generalize hLL : xs.map (·.2) = L at *
        by_cases hE : checkE L = 0
        · have HFJ : Hid (rpJ b = (L, 0, 0)) := Lib.hid (by rw [HFI.out]; unfold finJ; rw [if_pos hE])
          rw [hE] at C6
          clear HFI hE
          go_wp2_with fail
          refine (C6.out _ (by rw [← hLL]; exact opv_plan HO.out)).mono ?_
          rintro e w6 ⟨rfl, hb6⟩
          have HO6 : Hid (OPv w6 w.heap.size (.slice A0 k cap0) L.length xs) := Lib.hid (by rw [HXL.out]; exact opv_mono (HO.out.later hb6) hb1s)
          have HB6 := Lib.hid (HBw _ hb6)
          clear hb6 C6
          go_wp2
          go_ret3
          exact ⟨⟨_, xs, by rw [HFJ.out] <;> rfl, by rw [HFJ.out]; exact hLL, by rw [HFJ.out]; exact HO6.out⟩, HB6.out⟩
        · have HFJ : Hid (rpJ b = ([], 0, checkE L)) := Lib.hid (by rw [HFI.out]; unfold finJ; rw [if_neg hE])
          have hE2 : (checkE L == 0) = false := beq_eq_false_iff_ne.2 hE
          generalize checkE L = EE at *
          clear HFI
          go_wp2_with fail
          refine (C6.out _ (by rw [← hLL]; exact opv_plan HO.out)).mono ?_
          rintro e w6 ⟨rfl, hb6⟩
          have HB6 := Lib.hid (HBw _ hb6)
          clear hb6 C6
          go_wp2
          go_ret3
          exact ⟨⟨.slice none 0 0, [], by rw [HFJ.out] <;> rfl, by rw [HFJ.out]; rfl, by rw [HFJ.out]; exact OPv.nil _ _⟩, HB6.out⟩
      · have HBd : Hid (rpJ b = ([], k, 2)) := Lib.hid (by rw [HR.out, HDR.out, HDZ.out, runJ_last hfin])
        clear HR HRd HDR HTK HDZ HALL
        by_cases hk0 : k = 0
        · have hkp : ¬ (0 : Int) < k := by omega
          have hkp2 : decide ((0 : Int) < k) = false := decide_eq_false hkp
          clear hfin hk0 hlast
          go_wp2_with fail
          refine (C2.out _).mono ?_
          rintro e w2 ⟨⟨v2, rfl, ho2⟩, hb2⟩
          obtain ⟨A2, cap2, rfl, hnc2, hcm2, -, hT2, hg2⟩ := own_txts ho2
          have HB2 := Lib.hid (HBw _ hb2)
          clear ho2 hT2 hb2 hg2 hc1
          go_wp2
          go_ret3
          exact ⟨⟨.slice none 0 0, [], by rw [HBd.out] <;> rfl, by rw [HBd.out]; rfl, by rw [HBd.out]; exact OPv.nil _ _⟩, HB2.out⟩
        · have hkp : (0 : Int) < k := by omega
          have hYi : Y.isEmpty = false := by cases Y with
            | nil => exact absurd ⟨hk0, rfl⟩ hfin
            | cons c r => rfl
          clear hfin hk0 hlast
          go_wp2_with fail
          refine (C2.out _).mono ?_
          rintro e w2 ⟨⟨v2, rfl, ho2⟩, hb2⟩
          obtain ⟨A2, cap2, rfl, hnc2, hcm2, -, hT2, hg2⟩ := own_txts ho2
          have HB2 := Lib.hid (HBw _ hb2)
          clear ho2 hT2 hb2 hg2 hc1
          go_wp2
          go_ret3
          exact ⟨⟨.slice none 0 0, [], by rw [HBd.out] <;> rfl, by rw [HBd.out]; rfl, by rw [HBd.out]; exact OPv.nil _ _⟩, HB2.out⟩
    · have hke : ((k : Int) == (ws.length : Int) - 1) = false := beq_eq_false_iff_ne.2 (by omega)
      have hke2 : ¬ (k : Int) = (ws.length : Int) - 1 := by omega
      have HNB : Hid (lineOk Y = false → rpJ b = ([], k, 2)) := Lib.hid (fun h => by rw [HR.out, HDR.out, runJ_no h (.inl (by intro e; have := List.drop_eq_nil_iff.1 e; omega))])
      have HYS : Hid (lineOk Y = true → rpJ b = runJ (ws.drop (k + 1)) (k + 1) (xs.map (·.2) ++ [lineT Y]) ∧ ReadJ (ws.take (k + 1)) (xs.map (·.2) ++ [lineT Y])) := Lib.hid (fun h => ⟨by rw [HR.out, HDR.out, runJ_yes (by intro e; have := List.drop_eq_nil_iff.1 e; omega) h], by rw [HTK.out]; exact HRd.out.push h⟩)
      have H1 : Hid ((words 32 Y).length < 3 → lineOk Y = false) := Lib.hid lineOk_short
      have H2 : Hid ((words 32 Y).contains [] = true → lineOk Y = false) := Lib.hid lineOk_hole
      have H3 : Hid (nmOk ((words 32 Y)[1]?.getD []) = false ∨ nmOk ((words 32 Y)[2]?.getD []) = false → lineOk Y = false) := Lib.hid lineOk_num
      have H4 : Hid (3 ≤ (words 32 Y).length → (words 32 Y).contains [] = false → nmOk ((words 32 Y)[1]?.getD []) = true → nmOk ((words 32 Y)[2]?.getD []) = true → lineOk Y = true) := Lib.hid lineOk_yes'
      have H5 : Hid (lineT Y = ⟨bsj ((words 32 Y)[0]?.getD []), atoiV ((words 32 Y)[1]?.getD []), atoiV ((words 32 Y)[2]?.getD []), ((words 32 Y).drop 3).map bsj⟩) := Lib.hid rfl
      have hyw : (words 32 Y).length ≤ 65537 := by have := wordsA_len 32 Y []; show (wordsA 32 [] Y).length ≤ _; omega
      have HYL := Lib.hid (fun j => (show ((words 32 Y)[j]?.getD []).length ≤ 65536 by
        by_cases hj : j < (words 32 Y).length
        · rw [List.getElem?_eq_getElem hj]; have := words_mem_len (List.getElem_mem hj); exact Nat.le_trans this (by omega)
        · rw [List.getElem?_eq_none (by omega)]; exact Nat.zero_le _))
      clear HR HDR HRd HTK HALL
      generalize words 32 Y = T at *
      have C3 := Lib.hid (fun (A : Option Addr) (cap : Nat) (W : World) (h : Strs W W.heap.size A T.length (T.map bsj)) => Has_any A T.length cap (T.map bsj) ⟨#[]⟩ W (by omega) h)
      rw [isIn_bsj] at C3
      have C4 := Lib.hid (fun W => number9_any (T[1]?.getD []) W (by have := HYL.out 1; omega))
      have C5 := Lib.hid (fun W => number9_any (T[2]?.getD []) W (by have := HYL.out 2; omega))
      by_cases hk0 : k = 0
      · have hkp : ¬ (0 : Int) < k := by omega
        have hkp2 : decide ((0 : Int) < k) = false := decide_eq_false hkp
        clear hk0
        by_cases hT3 : T.length < 3
        · have hT3' : (T.length : Int) < 3 := by omega
          have HBd := Lib.hid (HNB.out (H1.out hT3))
          clear HNB HYS H1 H2 H3 H4 H5 C3 C4 C5
          go_wp2_with fail
          refine (C2.out _).mono ?_
          rintro e w2 ⟨⟨v2, rfl, ho2⟩, hb2⟩
          obtain ⟨A2, cap2, rfl, hnc2, hcm2, -, hT2, hg2⟩ := own_txts ho2
          have HBn := Lib.hid hb2
          clear ho2 hT2 hb2 hg2 hc1
          go_wp2
          go_ret3
          exact ⟨⟨.slice none 0 0, [], by rw [HBd.out] <;> rfl, by rw [HBd.out]; rfl, by rw [HBd.out]; exact OPv.nil _ _⟩, HBw _ HBn.out⟩
        · have hT3' : ¬ (T.length : Int) < 3 := by omega
          cases hcn : T.contains []
          · rw [hcn] at C3
            have HH4 := Lib.hid (fun h h2 => H4.out (by omega) hcn h h2)
            clear hcn H4 H1 H2
            cases hn1 : nmOk (T[1]?.getD [])
            · have HBd := Lib.hid (HNB.out (H3.out (.inl hn1)))
              rw [hn1] at C4
              clear hn1 HNB HYS H3 HH4 H5
              cases hn2 : nmOk (T[2]?.getD [])
              · rw [hn2] at C5
                clear hn2
                go_wp2_with fail
                refine (C2.out _).mono ?_
                rintro e w2 ⟨⟨v2, rfl, ho2⟩, hb2⟩
                obtain ⟨A2, cap2, rfl, hnc2, hcm2, -, hT2, hg2⟩ := own_txts ho2
                obtain ⟨g2, rfl, hgb2, hgl2⟩ := hg2 (by omega)
                obtain ⟨c2, rfl⟩ : ∃ c2, cap2 = c2 + 3 := ⟨cap2 - 3, by omega⟩
                obtain ⟨_, _, he2, _, hw0⟩ := hT2.at_ 0 (by omega)
                cases he2
                obtain ⟨_, _, he2, _, hw1⟩ := hT2.at_ 1 (by omega)
                cases he2
                obtain ⟨_, _, he2, _, hw2⟩ := hT2.at_ 2 (by omega)
                cases he2
                simp only [Nat.zero_add, Nat.add_zero] at hw0 hw1 hw2
                have HT2 := Lib.hid hT2.strs
                have HTx := Lib.hid hT2
                have hs2 := hb2.size
                have HB2 := Lib.hid hb2
                have ht1 : ¬ T.length ≤ 1 := by omega
                have ht2 : ¬ T.length ≤ 2 := by omega
                have ht0 : ¬ T.length ≤ 0 := by omega
                have htz : ¬ T.length = 0 := by omega
                have ht3 : 3 ≤ T.length := by omega
                clear ho2 hT2 hb2 hg2 C2 hc1
                generalize hX0 : T[0]?.getD [] = X0 at *
                generalize hX1 : T[1]?.getD [] = X1 at *
                generalize hX2 : T[2]?.getD [] = X2 at *
                go_wp2_with fail
                refine (C3.out _ _ _ HT2.out).mono ?_
                rintro e w3 ⟨rfl, rfl⟩
                go_wp2_with fail
                refine (C4.out _).mono ?_
                rintro e w4 ⟨⟨n1, rfl, hv1⟩, hb4⟩
                have hs4 := hb4.size
                replace hw0 := (hb4.cell (p := ⟨g2, 0, none⟩) hgl2).trans hw0
                replace hw2 := (hb4.cell (p := ⟨g2, 2, none⟩) hgl2).trans hw2
                have HB4 := Lib.hid (below_step HB2.out hb4)
                have HB24 := Lib.hid hb4
                clear hb4 C3 C4 hw1
                go_wp2_with fail
                refine (C5.out _).mono ?_
                rintro e w5 ⟨⟨n2, rfl, hv2⟩, hb5⟩
                have hs5 := hb5.size
                replace hw0 := (hb5.cell (p := ⟨g2, 0, none⟩) (by show g2 < _; omega)).trans hw0
                have HBn := Lib.hid (below_step HB4.out hb5)
                have HB25 := Lib.hid (below_step HB24.out hb5)
                clear hb5 C5 hw2 HB2 HB4 HB24
                go_wp2
                go_ret3
                exact ⟨⟨.slice none 0 0, [], by rw [HBd.out] <;> rfl, by rw [HBd.out]; rfl, by rw [HBd.out]; exact OPv.nil _ _⟩, HBw _ HBn.out⟩
              · rw [hn2] at C5
                clear hn2
                go_wp2_with fail
                refine (C2.out _).mono ?_
                rintro e w2 ⟨⟨v2, rfl, ho2⟩, hb2⟩
                obtain ⟨A2, cap2, rfl, hnc2, hcm2, -, hT2, hg2⟩ := own_txts ho2
                obtain ⟨g2, rfl, hgb2, hgl2⟩ := hg2 (by omega)
                obtain ⟨c2, rfl⟩ : ∃ c2, cap2 = c2 + 3 := ⟨cap2 - 3, by omega⟩
                obtain ⟨_, _, he2, _, hw0⟩ := hT2.at_ 0 (by omega)
                cases he2
                obtain ⟨_, _, he2, _, hw1⟩ := hT2.at_ 1 (by omega)
                cases he2
                obtain ⟨_, _, he2, _, hw2⟩ := hT2.at_ 2 (by omega)
                cases he2
                simp only [Nat.zero_add, Nat.add_zero] at hw0 hw1 hw2
                have HT2 := Lib.hid hT2.strs
                have HTx := Lib.hid hT2
                have hs2 := hb2.size
                have HB2 := Lib.hid hb2
                have ht1 : ¬ T.length ≤ 1 := by omega
                have ht2 : ¬ T.length ≤ 2 := by omega
                have ht0 : ¬ T.length ≤ 0 := by omega
                have htz : ¬ T.length = 0 := by omega
                have ht3 : 3 ≤ T.length := by omega
                clear ho2 hT2 hb2 hg2 C2 hc1
                generalize hX0 : T[0]?.getD [] = X0 at *
                generalize hX1 : T[1]?.getD [] = X1 at *
                generalize hX2 : T[2]?.getD [] = X2 at *
                go_wp2_with fail
                refine (C3.out _ _ _ HT2.out).mono ?_
                rintro e w3 ⟨rfl, rfl⟩
                go_wp2_with fail
                refine (C4.out _).mono ?_
                rintro e w4 ⟨⟨n1, rfl, hv1⟩, hb4⟩
                have hs4 := hb4.size
                replace hw0 := (hb4.cell (p := ⟨g2, 0, none⟩) hgl2).trans hw0
                replace hw2 := (hb4.cell (p := ⟨g2, 2, none⟩) hgl2).trans hw2
                have HB4 := Lib.hid (below_step HB2.out hb4)
                have HB24 := Lib.hid hb4
                clear hb4 C3 C4 hw1
                go_wp2_with fail
                refine (C5.out _).mono ?_
                rintro e w5 ⟨⟨n2, rfl, hv2⟩, hb5⟩
                have hs5 := hb5.size
                replace hw0 := (hb5.cell (p := ⟨g2, 0, none⟩) (by show g2 < _; omega)).trans hw0
                have HBn := Lib.hid (below_step HB4.out hb5)
                have HB25 := Lib.hid (below_step HB24.out hb5)
                clear hb5 C5 hw2 HB2 HB4 HB24
                go_wp2
                go_ret3
                exact ⟨⟨.slice none 0 0, [], by rw [HBd.out] <;> rfl, by rw [HBd.out]; rfl, by rw [HBd.out]; exact OPv.nil _ _⟩, HBw _ HBn.out⟩
            · cases hn2 : nmOk (T[2]?.getD [])
              · have HBd := Lib.hid (HNB.out (H3.out (.inr hn2)))
                rw [hn1] at C4
                rw [hn2] at C5
                clear hn1 hn2 HNB HYS H3 HH4 H5
                go_wp2_with fail
                refine (C2.out _).mono ?_
                rintro e w2 ⟨⟨v2, rfl, ho2⟩, hb2⟩
                obtain ⟨A2, cap2, rfl, hnc2, hcm2, -, hT2, hg2⟩ := own_txts ho2
                obtain ⟨g2, rfl, hgb2, hgl2⟩ := hg2 (by omega)
                obtain ⟨c2, rfl⟩ : ∃ c2, cap2 = c2 + 3 := ⟨cap2 - 3, by omega⟩
                obtain ⟨_, _, he2, _, hw0⟩ := hT2.at_ 0 (by omega)
                cases he2
                obtain ⟨_, _, he2, _, hw1⟩ := hT2.at_ 1 (by omega)
                cases he2
                obtain ⟨_, _, he2, _, hw2⟩ := hT2.at_ 2 (by omega)
                cases he2
                simp only [Nat.zero_add, Nat.add_zero] at hw0 hw1 hw2
                have HT2 := Lib.hid hT2.strs
                have HTx := Lib.hid hT2
                have hs2 := hb2.size
                have HB2 := Lib.hid hb2
                have ht1 : ¬ T.length ≤ 1 := by omega
                have ht2 : ¬ T.length ≤ 2 := by omega
                have ht0 : ¬ T.length ≤ 0 := by omega
                have htz : ¬ T.length = 0 := by omega
                have ht3 : 3 ≤ T.length := by omega
                clear ho2 hT2 hb2 hg2 C2 hc1
                generalize hX0 : T[0]?.getD [] = X0 at *
                generalize hX1 : T[1]?.getD [] = X1 at *
                generalize hX2 : T[2]?.getD [] = X2 at *
                go_wp2_with fail
                refine (C3.out _ _ _ HT2.out).mono ?_
                rintro e w3 ⟨rfl, rfl⟩
                go_wp2_with fail
                refine (C4.out _).mono ?_
                rintro e w4 ⟨⟨n1, rfl, hv1⟩, hb4⟩
                have hs4 := hb4.size
                replace hw0 := (hb4.cell (p := ⟨g2, 0, none⟩) hgl2).trans hw0
                replace hw2 := (hb4.cell (p := ⟨g2, 2, none⟩) hgl2).trans hw2
                have HB4 := Lib.hid (below_step HB2.out hb4)
                have HB24 := Lib.hid hb4
                clear hb4 C3 C4 hw1
                go_wp2_with fail
                refine (C5.out _).mono ?_
                rintro e w5 ⟨⟨n2, rfl, hv2⟩, hb5⟩
                have hs5 := hb5.size
                replace hw0 := (hb5.cell (p := ⟨g2, 0, none⟩) (by show g2 < _; omega)).trans hw0
                have HBn := Lib.hid (below_step HB4.out hb5)
                have HB25 := Lib.hid (below_step HB24.out hb5)
                clear hb5 C5 hw2 HB2 HB4 HB24
                go_wp2
                go_ret3
                exact ⟨⟨.slice none 0 0, [], by rw [HBd.out] <;> rfl, by rw [HBd.out]; rfl, by rw [HBd.out]; exact OPv.nil _ _⟩, HBw _ HBn.out⟩
              · have HY := Lib.hid (HYS.out (HH4.out hn1 hn2))
                rw [hn1] at C4
                rw [hn2] at C5
                rw [H5.out] at HY
                clear hn1 hn2 HNB HYS H3 HH4 H5
                go_wp2_with fail
                refine (C2.out _).mono ?_
                rintro e w2 ⟨⟨v2, rfl, ho2⟩, hb2⟩
                obtain ⟨A2, cap2, rfl, hnc2, hcm2, -, hT2, hg2⟩ := own_txts ho2
                obtain ⟨g2, rfl, hgb2, hgl2⟩ := hg2 (by omega)
                obtain ⟨c2, rfl⟩ : ∃ c2, cap2 = c2 + 3 := ⟨cap2 - 3, by omega⟩
                obtain ⟨_, _, he2, _, hw0⟩ := hT2.at_ 0 (by omega)
                cases he2
                obtain ⟨_, _, he2, _, hw1⟩ := hT2.at_ 1 (by omega)
                cases he2
                obtain ⟨_, _, he2, _, hw2⟩ := hT2.at_ 2 (by omega)
                cases he2
                simp only [Nat.zero_add, Nat.add_zero] at hw0 hw1 hw2
                have HT2 := Lib.hid hT2.strs
                have HTx := Lib.hid hT2
                have hs2 := hb2.size
                have HB2 := Lib.hid hb2
                have ht1 : ¬ T.length ≤ 1 := by omega
                have ht2 : ¬ T.length ≤ 2 := by omega
                have ht0 : ¬ T.length ≤ 0 := by omega
                have htz : ¬ T.length = 0 := by omega
                have ht3 : 3 ≤ T.length := by omega
                clear ho2 hT2 hb2 hg2 C2 hc1
                generalize hX0 : T[0]?.getD [] = X0 at *
                generalize hX1 : T[1]?.getD [] = X1 at *
                generalize hX2 : T[2]?.getD [] = X2 at *
                go_wp2_with fail
                refine (C3.out _ _ _ HT2.out).mono ?_
                rintro e w3 ⟨rfl, rfl⟩
                go_wp2_with fail
                refine (C4.out _).mono ?_
                rintro e w4 ⟨⟨n1, rfl, hv1⟩, hb4⟩
                have hs4 := hb4.size
                replace hw0 := (hb4.cell (p := ⟨g2, 0, none⟩) hgl2).trans hw0
                replace hw2 := (hb4.cell (p := ⟨g2, 2, none⟩) hgl2).trans hw2
                have HB4 := Lib.hid (below_step HB2.out hb4)
                have HB24 := Lib.hid hb4
                clear hb4 C3 C4 hw1
                go_wp2_with fail
                refine (C5.out _).mono ?_
                rintro e w5 ⟨⟨n2, rfl, hv2⟩, hb5⟩
                have hs5 := hb5.size
                replace hw0 := (hb5.cell (p := ⟨g2, 0, none⟩) (by show g2 < _; omega)).trans hw0
                have HBn := Lib.hid (below_step HB4.out hb5)
                have HB25 := Lib.hid (below_step HB24.out hb5)
                clear hb5 C5 hw2 HB2 HB4 HB24
                obtain rfl := hv1 (by simp)
                obtain rfl := hv2 (by simp)
                clear hv1 hv2
                generalize atoiV X1 = n1 at *
                generalize atoiV X2 = n2 at *
                have HO5 := Lib.hid (HO.out.later HBn.out)
                have hro : ∀ x, (Value.slice A0 k cap0).ownBlock = some x → w1.heap.size ≤ x ∧ x < wr.heap.size := fun x hx => ⟨(HO.out.own.lt x hx).1, (HO.out.own.lt x hx).2⟩
                have hne2 : some g2 ≠ (Value.slice A0 k cap0).ownBlock := fun e => by have := (hro g2 e.symm).2; omega
                have hg5 : g2 < w5.heap.size := by omega
                have HTd : Hid (∀ W, Below w5.heap.size w5 W → Cells W (if c2 = 0 then some ⟨g2, 0, none⟩ else some ⟨g2, 3, none⟩) (bcel (T.drop 3))) := Lib.hid (fun W h => (HTx.out.below (B := w2.heap.size) (HB25.out.trans (h.mono (by have := HB25.out.size; omega)))).drop3 (by omega))
                have HDL : Hid ((T.drop 3).length = T.length - 3) := Lib.hid (by rw [List.length_drop])
                clear hX0 hX1 hX2 HO HTx HT2 HB25
                go_wp2_with fail
                refine wp_region_offb (Value.slice A0 k cap0).ownBlock (by kernel_rfl) (by kernel_rfl) ?_
                refine wpC_take (f := 6) (by kernel_rfl) (by kernel_rfl) ⟨⟨_, grown_drew (World.grownBy.refl _ _)⟩, rfl⟩ [0, 1, 2, 3, 4, 5, 7, 8] _ _ (by kernel_rfl) ?_
                simp only [List.map_cons, List.map_nil, List.getElem?_toArray, List.getElem?_cons_succ, List.getElem?_cons_zero, Option.getD_some]
                repeat (go_big_quiet_step (fail))
                refine wpQuiet_nil ?_
                have hB0 : Below w5.heap.size w5 w5.drew := (Below.refl _ _).drew
                generalize w5.drew = WW0 at *
                refine wpC_all (rs := [6]) (by kernel_rfl) (by decide) ?_
                intro i hi
                simp only [List.mem_cons, List.not_mem_nil, or_false] at hi
                subst hi
                refine ⟨_, rfl, ?_⟩
                go_simp
                have ho := row0_new WW0 9
                have hG2 : WW0.heap.size < (WW0.alloc (.cells #[] 9)).heap.size := by simp
                have hG := hB0.size
                replace hB0 := hB0.alloc hB0.size (.cells #[] 9)
                generalize WW0.heap.size = G at *
                generalize WW0.alloc (.cells #[] 9) = WW1 at *
                refine ⟨⟨⟨_, grown_of_below hB0 _⟩, rfl⟩, ?_⟩
                refine wpC_all (rs := [9]) (by kernel_rfl) (by decide) ?_
                intro i hi
                simp only [List.mem_cons, List.not_mem_nil, or_false] at hi
                subst hi
                refine ⟨_, rfl, ?_⟩
                refine wp_append_src (.tmp 88) (.tmp 90) 32 rfl G 9 k0 (.string ByteArray.empty) 1 16 Tryz.underlying32 hJ0.out hJ1.out hJ2.out hJ3.out rfl (by decide) (.slice (some ⟨G, 0, none⟩) 0 0) 0 _ (by simp [Act.eval, Act.put]) ho (by simp) _ (T.length - 3) c2 (bcel (T.drop 3)) (by simp [Act.eval, Act.put]) (by rw [bcel_len, HDL.out]; omega) (by intro h; exfalso; revert h; split <;> simp) (HTd.out _ hB0) (bcel_one _) (by unfold maxLen; omega) (by omega) (by omega) ?_
                intro g9 cap9 WW2 hown hgr hat
                rw [List.nil_append, bcel_scel, Nat.zero_add] at hown
                obtain ⟨A9, cap9', e9, hq1, hq2, hS9, hge9⟩ := own_strs hown
                cases e9
                have hg9 : G ≤ g9 := hge9 g9 0 rfl
                replace hB0 := hB0.trans (grown_below hgr (by omega) (fun q hq => by simp [Value.ownBlock] at hq; omega))
                have HS9 := Lib.hid hS9
                have hsz9 := hB0.size
                simp only [Nat.zero_add]
                clear hgr hat hown ho hge9 hS9
                refine ⟨⟨⟨_, grown_of_below hB0 _⟩, rfl⟩, ?_⟩
                go_simp
                refine wpC_take (f := 3) (by kernel_rfl) (by kernel_rfl) ⟨⟨_, grown_of_below hB0 _⟩, rfl⟩ [10] _ _ (by kernel_rfl) ?_
                simp only [List.map_cons, List.map_nil, List.getElem?_toArray, List.getElem?_cons_succ, List.getElem?_cons_zero, Option.getD_some]
                repeat (go_big_quiet_step (fail))
                refine wpQuiet_nil ?_
                refine wpC_all (rs := [11]) (by kernel_rfl) (by decide) ?_
                intro i hi
                simp only [List.mem_cons, List.not_mem_nil, or_false] at hi
                subst hi
                refine ⟨_, rfl, ?_⟩
                go_simp
                have hnw := rnews4 WW2 (((some ⟨g9, 0, none⟩, T.length - 3, cap9), ⟨bsj X0, n1, n2, (T.drop 3).map bsj⟩) : TkR) 34
                have hY6 : okR WW2 WW2.heap.size (((some ⟨g9, 0, none⟩, T.length - 3, cap9), ⟨bsj X0, n1, n2, (T.drop 3).map bsj⟩) : TkR) := ⟨⟨hq1, hq2⟩, HS9.out⟩
                have hO6 := HO5.out.later hB0
                have hBb : Below WW2.heap.size WW2 (WW2.alloc (.cells #[.string ⟨X0.toArray⟩, .int .i64 n1, .int .i64 n2, .slice (some ⟨g9, 0, none⟩) (T.length - 3) cap9] 34)) := (Below.refl _ _).alloc (Nat.le_refl _) _
                replace hB0 := below_step hB0 hBb
                have HY7 := Lib.hid (hY6.go hBb)
                have HO7 := Lib.hid (hO6.later hBb)
                have hsz7 := hBb.size
                generalize hH : WW2.heap.size = HH at *
                change ∀ j u, (tk4 (((some ⟨g9, 0, none⟩, T.length - 3, cap9), ⟨bsj X0, n1, n2, (T.drop 3).map bsj⟩) : TkR))[j]? = some u → (WW2.alloc (.cells #[.string ⟨X0.toArray⟩, .int .i64 n1, .int .i64 n2, .slice (some ⟨g9, 0, none⟩) (T.length - 3) cap9] 34)).cell? _ = some u at hnw
                clear hY6 hO6 hBb
                generalize WW2.alloc (.cells #[.string ⟨X0.toArray⟩, .int .i64 n1, .int .i64 n2, .slice (some ⟨g9, 0, none⟩) (T.length - 3) cap9] 34) = WW3 at *
                refine ⟨⟨⟨_, grown_of_below hB0 _⟩, rfl⟩, ?_⟩
                refine wpC_all (rs := [12]) (by kernel_rfl) (by decide) ?_
                intro i hi
                simp only [List.mem_cons, List.not_mem_nil, or_false] at hi
                subst hi
                refine ⟨_, rfl, ?_⟩
                refine wp_append_own_at (.tmp 82) (.tmp 93) 22 rfl w1.heap.size 34 i0 (.agg #[.string ByteArray.empty, .int .i64 0, .int .i64 0, .slice none 0 0]) 4 56 Tryz.underlying22 hI0.out hI1.out hI2.out hI3.out rfl (by decide) _ k (tcel xs) (by simp [Act.eval, Act.put]) HO7.out.own ⟨HH, 0, none⟩ 1 1 (tk4 (((some ⟨g9, 0, none⟩, T.length - 3, cap9), ⟨bsj X0, n1, n2, (T.drop 3).map bsj⟩) : TkR)) (by simp [Act.eval, Act.put]) rfl hnw (by intro u hu; exact tcel_one [(((some ⟨g9, 0, none⟩, T.length - 3, cap9), ⟨bsj X0, n1, n2, (T.drop 3).map bsj⟩) : TkR)] u (by simpa [tcel] using hu)) (by unfold maxLen; omega) (by omega) (by have := hB0.size; omega) ?_
                intro v8 WW4 hown8 hgr8 hat8
                have HO8 := Lib.hid (HO7.out.push HY7.out (fun _ b off e hh => by
                  injection e with e
                  injection e with e1 e2
                  have := (hro b hh.symm).2
                  omega) hown8 hgr8 hat8)
                have hB8 : Below w1.heap.size w1 WW4 := (hB.trans (HBn.out.mono hsz1)).trans ((hB0.mono (by omega)).trans (grown_below hgr8 (by have := hB0.size; omega) (fun q hq => (hro q hq).1)))
                have hC8 := grown_trans (grown_of_below hB0 (Value.slice A0 k cap0).ownBlock) hgr8
                clear hown8 hgr8 hat8 hnw
                refine ⟨⟨⟨_, hC8⟩, rfl⟩, ?_⟩
                go_simp
                refine wpC_take (f := 0) (by kernel_rfl) (by kernel_rfl) ⟨⟨_, hC8⟩, rfl⟩ [13] _ _ (by kernel_rfl) ?_
                simp only [List.map_cons, List.map_nil, List.getElem?_toArray, List.getElem?_cons_succ, List.getElem?_cons_zero, Option.getD_some]
                repeat (go_big_quiet_step (fail))
                refine wpQuiet_nil ?_
                refine wpC_done (by kernel_rfl) ?_
                have HB8 := Lib.hid hB8
                have HM8 : Hid (rpJ b = runJ (ws.drop (k + 1)) (k + 1) ((xs ++ [(((some ⟨g9, 0, none⟩, T.length - 3, cap9), ⟨bsj X0, n1, n2, (T.drop 3).map bsj⟩) : TkR)]).map (·.2))) := Lib.hid (by rw [List.map_append]; exact HY.out.1)
                have HR8 : Hid (ReadJ (ws.take (k + 1)) ((xs ++ [(((some ⟨g9, 0, none⟩, T.length - 3, cap9), ⟨bsj X0, n1, n2, (T.drop 3).map bsj⟩) : TkR)]).map (·.2))) := Lib.hid (by rw [List.map_append]; exact HY.out.2)
                clear hB8 hC8 hB0 HO5 HO7 HY HY7
                go_wp2
                go_roundw
                case rel => exact ⟨k + 1, _, by omega, by first | rfl | go_num, HO8, HR8, HM8, HB8.out⟩
                case measure => simp [intOf]; omega
          · have HBd := Lib.hid (HNB.out (H2.out hcn))
            rw [hcn] at C3
            clear HNB HYS H1 H2 H3 H4 H5 C4 C5 hcn
            go_wp2_with fail
            refine (C2.out _).mono ?_
            rintro e w2 ⟨⟨v2, rfl, ho2⟩, hb2⟩
            obtain ⟨A2, cap2, rfl, hnc2, hcm2, -, hT2, hg2⟩ := own_txts ho2
            have HT2 := Lib.hid hT2.strs
            have HBn := Lib.hid hb2
            clear ho2 hT2 hb2 hg2 hc1
            go_wp2_with fail
            refine (C3.out _ _ _ HT2.out).mono ?_
            rintro e w3 ⟨rfl, rfl⟩
            go_wp2
            go_ret3
            exact ⟨⟨.slice none 0 0, [], by rw [HBd.out] <;> rfl, by rw [HBd.out]; rfl, by rw [HBd.out]; exact OPv.nil _ _⟩, HBw _ HBn.out⟩
      · have hkp : (0 : Int) < k := by omega
        clear hk0
        by_cases hT3 : T.length < 3
        · have hT3' : (T.length : Int) < 3 := by omega
          have HBd := Lib.hid (HNB.out (H1.out hT3))
          clear HNB HYS H1 H2 H3 H4 H5 C3 C4 C5
          go_wp2_with fail
          refine (C2.out _).mono ?_
          rintro e w2 ⟨⟨v2, rfl, ho2⟩, hb2⟩
          obtain ⟨A2, cap2, rfl, hnc2, hcm2, -, hT2, hg2⟩ := own_txts ho2
          have HBn := Lib.hid hb2
          clear ho2 hT2 hb2 hg2 hc1
          go_wp2
          go_ret3
          exact ⟨⟨.slice none 0 0, [], by rw [HBd.out] <;> rfl, by rw [HBd.out]; rfl, by rw [HBd.out]; exact OPv.nil _ _⟩, HBw _ HBn.out⟩
        · have hT3' : ¬ (T.length : Int) < 3 := by omega
          cases hcn : T.contains []
          · rw [hcn] at C3
            have HH4 := Lib.hid (fun h h2 => H4.out (by omega) hcn h h2)
            clear hcn H4 H1 H2
            cases hn1 : nmOk (T[1]?.getD [])
            · have HBd := Lib.hid (HNB.out (H3.out (.inl hn1)))
              rw [hn1] at C4
              clear hn1 HNB HYS H3 HH4 H5
              cases hn2 : nmOk (T[2]?.getD [])
              · rw [hn2] at C5
                clear hn2
                go_wp2_with fail
                refine (C2.out _).mono ?_
                rintro e w2 ⟨⟨v2, rfl, ho2⟩, hb2⟩
                obtain ⟨A2, cap2, rfl, hnc2, hcm2, -, hT2, hg2⟩ := own_txts ho2
                obtain ⟨g2, rfl, hgb2, hgl2⟩ := hg2 (by omega)
                obtain ⟨c2, rfl⟩ : ∃ c2, cap2 = c2 + 3 := ⟨cap2 - 3, by omega⟩
                obtain ⟨_, _, he2, _, hw0⟩ := hT2.at_ 0 (by omega)
                cases he2
                obtain ⟨_, _, he2, _, hw1⟩ := hT2.at_ 1 (by omega)
                cases he2
                obtain ⟨_, _, he2, _, hw2⟩ := hT2.at_ 2 (by omega)
                cases he2
                simp only [Nat.zero_add, Nat.add_zero] at hw0 hw1 hw2
                have HT2 := Lib.hid hT2.strs
                have HTx := Lib.hid hT2
                have hs2 := hb2.size
                have HB2 := Lib.hid hb2
                have ht1 : ¬ T.length ≤ 1 := by omega
                have ht2 : ¬ T.length ≤ 2 := by omega
                have ht0 : ¬ T.length ≤ 0 := by omega
                have htz : ¬ T.length = 0 := by omega
                have ht3 : 3 ≤ T.length := by omega
                clear ho2 hT2 hb2 hg2 C2 hc1
                generalize hX0 : T[0]?.getD [] = X0 at *
                generalize hX1 : T[1]?.getD [] = X1 at *
                generalize hX2 : T[2]?.getD [] = X2 at *
                go_wp2_with fail
                refine (C3.out _ _ _ HT2.out).mono ?_
                rintro e w3 ⟨rfl, rfl⟩
                go_wp2_with fail
                refine (C4.out _).mono ?_
                rintro e w4 ⟨⟨n1, rfl, hv1⟩, hb4⟩
                have hs4 := hb4.size
                replace hw0 := (hb4.cell (p := ⟨g2, 0, none⟩) hgl2).trans hw0
                replace hw2 := (hb4.cell (p := ⟨g2, 2, none⟩) hgl2).trans hw2
                have HB4 := Lib.hid (below_step HB2.out hb4)
                have HB24 := Lib.hid hb4
                clear hb4 C3 C4 hw1
                go_wp2_with fail
                refine (C5.out _).mono ?_
                rintro e w5 ⟨⟨n2, rfl, hv2⟩, hb5⟩
                have hs5 := hb5.size
                replace hw0 := (hb5.cell (p := ⟨g2, 0, none⟩) (by show g2 < _; omega)).trans hw0
                have HBn := Lib.hid (below_step HB4.out hb5)
                have HB25 := Lib.hid (below_step HB24.out hb5)
                clear hb5 C5 hw2 HB2 HB4 HB24
                go_wp2
                go_ret3
                exact ⟨⟨.slice none 0 0, [], by rw [HBd.out] <;> rfl, by rw [HBd.out]; rfl, by rw [HBd.out]; exact OPv.nil _ _⟩, HBw _ HBn.out⟩
              · rw [hn2] at C5
                clear hn2
                go_wp2_with fail
                refine (C2.out _).mono ?_
                rintro e w2 ⟨⟨v2, rfl, ho2⟩, hb2⟩
                obtain ⟨A2, cap2, rfl, hnc2, hcm2, -, hT2, hg2⟩ := own_txts ho2
                obtain ⟨g2, rfl, hgb2, hgl2⟩ := hg2 (by omega)
                obtain ⟨c2, rfl⟩ : ∃ c2, cap2 = c2 + 3 := ⟨cap2 - 3, by omega⟩
                obtain ⟨_, _, he2, _, hw0⟩ := hT2.at_ 0 (by omega)
                cases he2
                obtain ⟨_, _, he2, _, hw1⟩ := hT2.at_ 1 (by omega)
                cases he2
                obtain ⟨_, _, he2, _, hw2⟩ := hT2.at_ 2 (by omega)
                cases he2
                simp only [Nat.zero_add, Nat.add_zero] at hw0 hw1 hw2
                have HT2 := Lib.hid hT2.strs
                have HTx := Lib.hid hT2
                have hs2 := hb2.size
                have HB2 := Lib.hid hb2
                have ht1 : ¬ T.length ≤ 1 := by omega
                have ht2 : ¬ T.length ≤ 2 := by omega
                have ht0 : ¬ T.length ≤ 0 := by omega
                have htz : ¬ T.length = 0 := by omega
                have ht3 : 3 ≤ T.length := by omega
                clear ho2 hT2 hb2 hg2 C2 hc1
                generalize hX0 : T[0]?.getD [] = X0 at *
                generalize hX1 : T[1]?.getD [] = X1 at *
                generalize hX2 : T[2]?.getD [] = X2 at *
                go_wp2_with fail
                refine (C3.out _ _ _ HT2.out).mono ?_
                rintro e w3 ⟨rfl, rfl⟩
                go_wp2_with fail
                refine (C4.out _).mono ?_
                rintro e w4 ⟨⟨n1, rfl, hv1⟩, hb4⟩
                have hs4 := hb4.size
                replace hw0 := (hb4.cell (p := ⟨g2, 0, none⟩) hgl2).trans hw0
                replace hw2 := (hb4.cell (p := ⟨g2, 2, none⟩) hgl2).trans hw2
                have HB4 := Lib.hid (below_step HB2.out hb4)
                have HB24 := Lib.hid hb4
                clear hb4 C3 C4 hw1
                go_wp2_with fail
                refine (C5.out _).mono ?_
                rintro e w5 ⟨⟨n2, rfl, hv2⟩, hb5⟩
                have hs5 := hb5.size
                replace hw0 := (hb5.cell (p := ⟨g2, 0, none⟩) (by show g2 < _; omega)).trans hw0
                have HBn := Lib.hid (below_step HB4.out hb5)
                have HB25 := Lib.hid (below_step HB24.out hb5)
                clear hb5 C5 hw2 HB2 HB4 HB24
                go_wp2
                go_ret3
                exact ⟨⟨.slice none 0 0, [], by rw [HBd.out] <;> rfl, by rw [HBd.out]; rfl, by rw [HBd.out]; exact OPv.nil _ _⟩, HBw _ HBn.out⟩
            · cases hn2 : nmOk (T[2]?.getD [])
              · have HBd := Lib.hid (HNB.out (H3.out (.inr hn2)))
                rw [hn1] at C4
                rw [hn2] at C5
                clear hn1 hn2 HNB HYS H3 HH4 H5
                go_wp2_with fail
                refine (C2.out _).mono ?_
                rintro e w2 ⟨⟨v2, rfl, ho2⟩, hb2⟩
                obtain ⟨A2, cap2, rfl, hnc2, hcm2, -, hT2, hg2⟩ := own_txts ho2
                obtain ⟨g2, rfl, hgb2, hgl2⟩ := hg2 (by omega)
                obtain ⟨c2, rfl⟩ : ∃ c2, cap2 = c2 + 3 := ⟨cap2 - 3, by omega⟩
                obtain ⟨_, _, he2, _, hw0⟩ := hT2.at_ 0 (by omega)
                cases he2
                obtain ⟨_, _, he2, _, hw1⟩ := hT2.at_ 1 (by omega)
                cases he2
                obtain ⟨_, _, he2, _, hw2⟩ := hT2.at_ 2 (by omega)
                cases he2
                simp only [Nat.zero_add, Nat.add_zero] at hw0 hw1 hw2
                have HT2 := Lib.hid hT2.strs
                have HTx := Lib.hid hT2
                have hs2 := hb2.size
                have HB2 := Lib.hid hb2
                have ht1 : ¬ T.length ≤ 1 := by omega
                have ht2 : ¬ T.length ≤ 2 := by omega
                have ht0 : ¬ T.length ≤ 0 := by omega
                have htz : ¬ T.length = 0 := by omega
                have ht3 : 3 ≤ T.length := by omega
                clear ho2 hT2 hb2 hg2 C2 hc1
                generalize hX0 : T[0]?.getD [] = X0 at *
                generalize hX1 : T[1]?.getD [] = X1 at *
                generalize hX2 : T[2]?.getD [] = X2 at *
                go_wp2_with fail
                refine (C3.out _ _ _ HT2.out).mono ?_
                rintro e w3 ⟨rfl, rfl⟩
                go_wp2_with fail
                refine (C4.out _).mono ?_
                rintro e w4 ⟨⟨n1, rfl, hv1⟩, hb4⟩
                have hs4 := hb4.size
                replace hw0 := (hb4.cell (p := ⟨g2, 0, none⟩) hgl2).trans hw0
                replace hw2 := (hb4.cell (p := ⟨g2, 2, none⟩) hgl2).trans hw2
                have HB4 := Lib.hid (below_step HB2.out hb4)
                have HB24 := Lib.hid hb4
                clear hb4 C3 C4 hw1
                go_wp2_with fail
                refine (C5.out _).mono ?_
                rintro e w5 ⟨⟨n2, rfl, hv2⟩, hb5⟩
                have hs5 := hb5.size
                replace hw0 := (hb5.cell (p := ⟨g2, 0, none⟩) (by show g2 < _; omega)).trans hw0
                have HBn := Lib.hid (below_step HB4.out hb5)
                have HB25 := Lib.hid (below_step HB24.out hb5)
                clear hb5 C5 hw2 HB2 HB4 HB24
                go_wp2
                go_ret3
                exact ⟨⟨.slice none 0 0, [], by rw [HBd.out] <;> rfl, by rw [HBd.out]; rfl, by rw [HBd.out]; exact OPv.nil _ _⟩, HBw _ HBn.out⟩
              · have HY := Lib.hid (HYS.out (HH4.out hn1 hn2))
                rw [hn1] at C4
                rw [hn2] at C5
                rw [H5.out] at HY
                clear hn1 hn2 HNB HYS H3 HH4 H5
                go_wp2_with fail
                refine (C2.out _).mono ?_
                rintro e w2 ⟨⟨v2, rfl, ho2⟩, hb2⟩
                obtain ⟨A2, cap2, rfl, hnc2, hcm2, -, hT2, hg2⟩ := own_txts ho2
                obtain ⟨g2, rfl, hgb2, hgl2⟩ := hg2 (by omega)
                obtain ⟨c2, rfl⟩ : ∃ c2, cap2 = c2 + 3 := ⟨cap2 - 3, by omega⟩
                obtain ⟨_, _, he2, _, hw0⟩ := hT2.at_ 0 (by omega)
                cases he2
                obtain ⟨_, _, he2, _, hw1⟩ := hT2.at_ 1 (by omega)
                cases he2
                obtain ⟨_, _, he2, _, hw2⟩ := hT2.at_ 2 (by omega)
                cases he2
                simp only [Nat.zero_add, Nat.add_zero] at hw0 hw1 hw2
                have HT2 := Lib.hid hT2.strs
                have HTx := Lib.hid hT2
                have hs2 := hb2.size
                have HB2 := Lib.hid hb2
                have ht1 : ¬ T.length ≤ 1 := by omega
                have ht2 : ¬ T.length ≤ 2 := by omega
                have ht0 : ¬ T.length ≤ 0 := by omega
                have htz : ¬ T.length = 0 := by omega
                have ht3 : 3 ≤ T.length := by omega
                clear ho2 hT2 hb2 hg2 C2 hc1
                generalize hX0 : T[0]?.getD [] = X0 at *
                generalize hX1 : T[1]?.getD [] = X1 at *
                generalize hX2 : T[2]?.getD [] = X2 at *
                go_wp2_with fail
                refine (C3.out _ _ _ HT2.out).mono ?_
                rintro e w3 ⟨rfl, rfl⟩
                go_wp2_with fail
                refine (C4.out _).mono ?_
                rintro e w4 ⟨⟨n1, rfl, hv1⟩, hb4⟩
                have hs4 := hb4.size
                replace hw0 := (hb4.cell (p := ⟨g2, 0, none⟩) hgl2).trans hw0
                replace hw2 := (hb4.cell (p := ⟨g2, 2, none⟩) hgl2).trans hw2
                have HB4 := Lib.hid (below_step HB2.out hb4)
                have HB24 := Lib.hid hb4
                clear hb4 C3 C4 hw1
                go_wp2_with fail
                refine (C5.out _).mono ?_
                rintro e w5 ⟨⟨n2, rfl, hv2⟩, hb5⟩
                have hs5 := hb5.size
                replace hw0 := (hb5.cell (p := ⟨g2, 0, none⟩) (by show g2 < _; omega)).trans hw0
                have HBn := Lib.hid (below_step HB4.out hb5)
                have HB25 := Lib.hid (below_step HB24.out hb5)
                clear hb5 C5 hw2 HB2 HB4 HB24
                obtain rfl := hv1 (by simp)
                obtain rfl := hv2 (by simp)
                clear hv1 hv2
                generalize atoiV X1 = n1 at *
                generalize atoiV X2 = n2 at *
                have HO5 := Lib.hid (HO.out.later HBn.out)
                have hro : ∀ x, (Value.slice A0 k cap0).ownBlock = some x → w1.heap.size ≤ x ∧ x < wr.heap.size := fun x hx => ⟨(HO.out.own.lt x hx).1, (HO.out.own.lt x hx).2⟩
                have hne2 : some g2 ≠ (Value.slice A0 k cap0).ownBlock := fun e => by have := (hro g2 e.symm).2; omega
                have hg5 : g2 < w5.heap.size := by omega
                have HTd : Hid (∀ W, Below w5.heap.size w5 W → Cells W (if c2 = 0 then some ⟨g2, 0, none⟩ else some ⟨g2, 3, none⟩) (bcel (T.drop 3))) := Lib.hid (fun W h => (HTx.out.below (B := w2.heap.size) (HB25.out.trans (h.mono (by have := HB25.out.size; omega)))).drop3 (by omega))
                have HDL : Hid ((T.drop 3).length = T.length - 3) := Lib.hid (by rw [List.length_drop])
                clear hX0 hX1 hX2 HO HTx HT2 HB25
                go_wp2_with fail
                refine wp_region_offb (Value.slice A0 k cap0).ownBlock (by kernel_rfl) (by kernel_rfl) ?_
                refine wpC_take (f := 6) (by kernel_rfl) (by kernel_rfl) ⟨⟨_, grown_drew (World.grownBy.refl _ _)⟩, rfl⟩ [0, 1, 2, 3, 4, 5, 7, 8] _ _ (by kernel_rfl) ?_
                simp only [List.map_cons, List.map_nil, List.getElem?_toArray, List.getElem?_cons_succ, List.getElem?_cons_zero, Option.getD_some]
                repeat (go_big_quiet_step (fail))
                refine wpQuiet_nil ?_
                have hB0 : Below w5.heap.size w5 w5.drew := (Below.refl _ _).drew
                generalize w5.drew = WW0 at *
                refine wpC_all (rs := [6]) (by kernel_rfl) (by decide) ?_
                intro i hi
                simp only [List.mem_cons, List.not_mem_nil, or_false] at hi
                subst hi
                refine ⟨_, rfl, ?_⟩
                go_simp
                have ho := row0_new WW0 9
                have hG2 : WW0.heap.size < (WW0.alloc (.cells #[] 9)).heap.size := by simp
                have hG := hB0.size
                replace hB0 := hB0.alloc hB0.size (.cells #[] 9)
                generalize WW0.heap.size = G at *
                generalize WW0.alloc (.cells #[] 9) = WW1 at *
                refine ⟨⟨⟨_, grown_of_below hB0 _⟩, rfl⟩, ?_⟩
                refine wpC_all (rs := [9]) (by kernel_rfl) (by decide) ?_
                intro i hi
                simp only [List.mem_cons, List.not_mem_nil, or_false] at hi
                subst hi
                refine ⟨_, rfl, ?_⟩
                refine wp_append_src (.tmp 88) (.tmp 90) 32 rfl G 9 k0 (.string ByteArray.empty) 1 16 Tryz.underlying32 hJ0.out hJ1.out hJ2.out hJ3.out rfl (by decide) (.slice (some ⟨G, 0, none⟩) 0 0) 0 _ (by simp [Act.eval, Act.put]) ho (by simp) _ (T.length - 3) c2 (bcel (T.drop 3)) (by simp [Act.eval, Act.put]) (by rw [bcel_len, HDL.out]; omega) (by intro h; exfalso; revert h; split <;> simp) (HTd.out _ hB0) (bcel_one _) (by unfold maxLen; omega) (by omega) (by omega) ?_
                intro g9 cap9 WW2 hown hgr hat
                rw [List.nil_append, bcel_scel, Nat.zero_add] at hown
                obtain ⟨A9, cap9', e9, hq1, hq2, hS9, hge9⟩ := own_strs hown
                cases e9
                have hg9 : G ≤ g9 := hge9 g9 0 rfl
                replace hB0 := hB0.trans (grown_below hgr (by omega) (fun q hq => by simp [Value.ownBlock] at hq; omega))
                have HS9 := Lib.hid hS9
                have hsz9 := hB0.size
                simp only [Nat.zero_add]
                clear hgr hat hown ho hge9 hS9
                refine ⟨⟨⟨_, grown_of_below hB0 _⟩, rfl⟩, ?_⟩
                go_simp
                refine wpC_take (f := 3) (by kernel_rfl) (by kernel_rfl) ⟨⟨_, grown_of_below hB0 _⟩, rfl⟩ [10] _ _ (by kernel_rfl) ?_
                simp only [List.map_cons, List.map_nil, List.getElem?_toArray, List.getElem?_cons_succ, List.getElem?_cons_zero, Option.getD_some]
                repeat (go_big_quiet_step (fail))
                refine wpQuiet_nil ?_
                refine wpC_all (rs := [11]) (by kernel_rfl) (by decide) ?_
                intro i hi
                simp only [List.mem_cons, List.not_mem_nil, or_false] at hi
                subst hi
                refine ⟨_, rfl, ?_⟩
                go_simp
                have hnw := rnews4 WW2 (((some ⟨g9, 0, none⟩, T.length - 3, cap9), ⟨bsj X0, n1, n2, (T.drop 3).map bsj⟩) : TkR) 34
                have hY6 : okR WW2 WW2.heap.size (((some ⟨g9, 0, none⟩, T.length - 3, cap9), ⟨bsj X0, n1, n2, (T.drop 3).map bsj⟩) : TkR) := ⟨⟨hq1, hq2⟩, HS9.out⟩
                have hO6 := HO5.out.later hB0
                have hBb : Below WW2.heap.size WW2 (WW2.alloc (.cells #[.string ⟨X0.toArray⟩, .int .i64 n1, .int .i64 n2, .slice (some ⟨g9, 0, none⟩) (T.length - 3) cap9] 34)) := (Below.refl _ _).alloc (Nat.le_refl _) _
                replace hB0 := below_step hB0 hBb
                have HY7 := Lib.hid (hY6.go hBb)
                have HO7 := Lib.hid (hO6.later hBb)
                have hsz7 := hBb.size
                generalize hH : WW2.heap.size = HH at *
                change ∀ j u, (tk4 (((some ⟨g9, 0, none⟩, T.length - 3, cap9), ⟨bsj X0, n1, n2, (T.drop 3).map bsj⟩) : TkR))[j]? = some u → (WW2.alloc (.cells #[.string ⟨X0.toArray⟩, .int .i64 n1, .int .i64 n2, .slice (some ⟨g9, 0, none⟩) (T.length - 3) cap9] 34)).cell? _ = some u at hnw
                clear hY6 hO6 hBb
                generalize WW2.alloc (.cells #[.string ⟨X0.toArray⟩, .int .i64 n1, .int .i64 n2, .slice (some ⟨g9, 0, none⟩) (T.length - 3) cap9] 34) = WW3 at *
                refine ⟨⟨⟨_, grown_of_below hB0 _⟩, rfl⟩, ?_⟩
                refine wpC_all (rs := [12]) (by kernel_rfl) (by decide) ?_
                intro i hi
                simp only [List.mem_cons, List.not_mem_nil, or_false] at hi
                subst hi
                refine ⟨_, rfl, ?_⟩
                refine wp_append_own_at (.tmp 82) (.tmp 93) 22 rfl w1.heap.size 34 i0 (.agg #[.string ByteArray.empty, .int .i64 0, .int .i64 0, .slice none 0 0]) 4 56 Tryz.underlying22 hI0.out hI1.out hI2.out hI3.out rfl (by decide) _ k (tcel xs) (by simp [Act.eval, Act.put]) HO7.out.own ⟨HH, 0, none⟩ 1 1 (tk4 (((some ⟨g9, 0, none⟩, T.length - 3, cap9), ⟨bsj X0, n1, n2, (T.drop 3).map bsj⟩) : TkR)) (by simp [Act.eval, Act.put]) rfl hnw (by intro u hu; exact tcel_one [(((some ⟨g9, 0, none⟩, T.length - 3, cap9), ⟨bsj X0, n1, n2, (T.drop 3).map bsj⟩) : TkR)] u (by simpa [tcel] using hu)) (by unfold maxLen; omega) (by omega) (by have := hB0.size; omega) ?_
                intro v8 WW4 hown8 hgr8 hat8
                have HO8 := Lib.hid (HO7.out.push HY7.out (fun _ b off e hh => by
                  injection e with e
                  injection e with e1 e2
                  have := (hro b hh.symm).2
                  omega) hown8 hgr8 hat8)
                have hB8 : Below w1.heap.size w1 WW4 := (hB.trans (HBn.out.mono hsz1)).trans ((hB0.mono (by omega)).trans (grown_below hgr8 (by have := hB0.size; omega) (fun q hq => (hro q hq).1)))
                have hC8 := grown_trans (grown_of_below hB0 (Value.slice A0 k cap0).ownBlock) hgr8
                clear hown8 hgr8 hat8 hnw
                refine ⟨⟨⟨_, hC8⟩, rfl⟩, ?_⟩
                go_simp
                refine wpC_take (f := 0) (by kernel_rfl) (by kernel_rfl) ⟨⟨_, hC8⟩, rfl⟩ [13] _ _ (by kernel_rfl) ?_
                simp only [List.map_cons, List.map_nil, List.getElem?_toArray, List.getElem?_cons_succ, List.getElem?_cons_zero, Option.getD_some]
                repeat (go_big_quiet_step (fail))
                refine wpQuiet_nil ?_
                refine wpC_done (by kernel_rfl) ?_
                have HB8 := Lib.hid hB8
                have HM8 : Hid (rpJ b = runJ (ws.drop (k + 1)) (k + 1) ((xs ++ [(((some ⟨g9, 0, none⟩, T.length - 3, cap9), ⟨bsj X0, n1, n2, (T.drop 3).map bsj⟩) : TkR)]).map (·.2))) := Lib.hid (by rw [List.map_append]; exact HY.out.1)
                have HR8 : Hid (ReadJ (ws.take (k + 1)) ((xs ++ [(((some ⟨g9, 0, none⟩, T.length - 3, cap9), ⟨bsj X0, n1, n2, (T.drop 3).map bsj⟩) : TkR)]).map (·.2))) := Lib.hid (by rw [List.map_append]; exact HY.out.2)
                clear hB8 hC8 hB0 HO5 HO7 HY HY7
                go_wp2
                go_roundw
                case rel => exact ⟨k + 1, _, by omega, by first | rfl | go_num, HO8, HR8, HM8, HB8.out⟩
                case measure => simp [intOf]; omega
          · have HBd := Lib.hid (HNB.out (H2.out hcn))
            rw [hcn] at C3
            clear HNB HYS H1 H2 H3 H4 H5 C4 C5 hcn
            go_wp2_with fail
            refine (C2.out _).mono ?_
            rintro e w2 ⟨⟨v2, rfl, ho2⟩, hb2⟩
            obtain ⟨A2, cap2, rfl, hnc2, hcm2, -, hT2, hg2⟩ := own_txts ho2
            have HT2 := Lib.hid hT2.strs
            have HBn := Lib.hid hb2
            clear ho2 hT2 hb2 hg2 hc1
            go_wp2_with fail
            refine (C3.out _ _ _ HT2.out).mono ?_
            rintro e w3 ⟨rfl, rfl⟩
            go_wp2
            go_ret3
            exact ⟨⟨.slice none 0 0, [], by rw [HBd.out] <;> rfl, by rw [HBd.out]; rfl, by rw [HBd.out]; exact OPv.nil _ _⟩, HBw _ HBn.out⟩
end Go.Proofs.YtmionebfepkolaaGreatDoor
