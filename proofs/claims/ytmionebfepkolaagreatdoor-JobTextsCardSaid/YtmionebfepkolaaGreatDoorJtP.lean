/- JobTexts: the program's Parse. -/
import Derived.Test.YtmionebfepkolaaGreatDoorJtC
import Derived.Test.YtmionebfepkolaaGreatDoorYJj
import Derived.Test.YtmionebfepkolaaGreatDoorJobQ7
set_option linter.unusedSimpArgs false
set_option linter.unusedVariables false
namespace Go.Proofs.YtmionebfepkolaaGreatDoor
open Go.RowKit
attribute [local go_sem] Later.cell Same.cell OffB.cell

theorem Txts.strs3 {w : World} {B g c n : Nat} {ws : List (List UInt8)} (h : Txts w B (some ⟨g, 0, none⟩) n ws) (hc : n ≤ c + 3) : Strs w B (if c = 0 then some ⟨g, 0, none⟩ else some ⟨g, 3, none⟩) (n - 3) ((ws.drop 3).map bsj) := by
  refine ⟨by rw [List.length_map, List.length_drop, h.1], fun h0 => ?_⟩
  rw [if_neg (by omega)]
  obtain ⟨b, off, h1, h2, h3⟩ := h.2 (by omega)
  injection h1 with h1
  injection h1 with h1 h4
  subst h1 h4
  refine ⟨_, 3, rfl, h2, fun k hk j u hu => ?_⟩
  have hj : j = 0 := by
    have := (List.getElem?_eq_some_iff.1 hu).1
    simpa [str1] using this
  subst hj
  have hkl : 3 + k < ws.length := by rw [h.1]; omega
  have h5 := h3 (3 + k) (by omega)
  rw [Nat.zero_add] at h5
  rw [Nat.add_zero, Nat.mul_one, h5]
  rw [List.getElem?_map, List.getElem?_drop, List.getElem?_eq_getElem hkl] at hu
  rw [List.getElem?_eq_getElem hkl]
  have : u = .string (bsj ws[3 + k]) := by simpa [str1] using hu.symm
  rw [this]; rfl
set_option maxRecDepth 20000 in
set_option maxHeartbeats 16000000 in
theorem Parse_any (b : List UInt8) (w : World) (htab : TabA w) (hbl : b.length ≤ 65536) (hS : ∀ L, AllJ b L → Sml L) :
    Calls Tryz.prog 7 #[.string ⟨b.toArray⟩] w fun e w' => (∃ v xs, e = .returned (.tuple #[v, .int .i64 ((rpJ b).2.1 : Nat), .int .i64 (rpJ b).2.2]) ∧ xs.map (·.2) = (rpJ b).1 ∧ OPv w' w.heap.size v (rpJ b).1.length xs) ∧ Below w.heap.size w w' := by
  have hsz : (⟨b.toArray⟩ : ByteArray).size = b.length := rfl
  have h1' : decide ((65536 : Int) < b.length) = false := decide_eq_false (by omega)
  have h1'' : ¬ (65536 : Int) < b.length := by omega
  have HALL : Hid (∀ ws' L, words 10 b = ws' ++ [[]] → ReadJ ws' L → Sml L) := Lib.hid (fun ws' L h1 h2 => hS L ⟨ws', h1, h2⟩)
  have HST : Hid (rpJ b = runJ (words 10 b) 0 []) := Lib.hid rfl
  obtain ⟨i0, hi, hz0, hz1, hz2⟩ := info_parts info_task
  have hI0 := Lib.hid hi
  have hI1 := Lib.hid hz0
  have hI2 := Lib.hid hz1
  have hI3 := Lib.hid hz2
  have HT := Lib.hid htab
  clear hi hz0 hz1 hz2 hS htab
  go_enter Tryz.func7, Tryz.ntmps7
  go_wp2
  go_loopw [0, 2, 5] (fun s v i wr => ∃ (R : List UInt8) (k : Nat) (xs : List TkR), k + R.length ≤ b.length ∧ s = .string ⟨R.toArray⟩ ∧ i = .int .i64 (k : Int) ∧ Hid (OPv wr w.heap.size v k xs) ∧ Hid (∃ ws', words 10 b = ws' ++ words 10 R ∧ ReadJ ws' (xs.map (·.2))) ∧ Hid (rpJ b = runJ (words 10 R) k (xs.map (·.2))) ∧ Below w.heap.size w wr) (fun _ _ i _ => b.length + 1 - (intOf i).toNat)
  case atStart => exact ⟨b, 0, [], by omega, rfl, rfl, Lib.hid (OPv.nil _ _), Lib.hid ⟨[], rfl, ReadJ.nil⟩, HST, Below.refl _ _⟩
  case round =>
    obtain ⟨S, k, xs, hk, rfl, rfl, HO, HRd, HR, hB⟩ := hrel
    clear HST hsz h1' h1''
    obtain ⟨A0, cap0, rfl, hnc0, hcm0⟩ := opv_slice HO.out
    have hbs := hB.size
    have HBw : ∀ W, Below wr.heap.size wr W → Below w.heap.size w W := fun W h => below_step hB h
    have hkb : k ≤ 65536 := by omega
    by_cases hfin : k ≠ 0 ∧ S = []
    · obtain ⟨hk0, rfl⟩ := hfin
      have hkp : ((k : Int) == 0) = false := beq_eq_false_iff_ne.2 (by omega)
      have HFI : Hid (rpJ b = finJ (xs.map (·.2))) := Lib.hid (by rw [HR.out]; exact runJ_end hk0)
      have hSm : Sml (xs.map (·.2)) := by
        obtain ⟨ws', h1, h2⟩ := HRd.out
        exact HALL.out ws' _ h1 h2
      have C6 := Lib.hid (fun W (h : Plan W W.heap.size A0 k (xs.map (·.2))) => Check_any A0 k cap0 (xs.map (·.2)) W hSm h)
      have HXL : Hid ((xs.map (·.2)).length = k) := Lib.hid (by rw [List.length_map]; exact opv_len HO.out)
      clear HRd HR HALL hSm hk0
      generalize hLL : xs.map (·.2) = L at *
      by_cases hE : checkE L = 0
      · have HFJ : Hid (rpJ b = (L, 0, 0)) := Lib.hid (by rw [HFI.out]; unfold finJ; rw [if_pos hE])
        rw [hE] at C6
        clear HFI hE
        go_wp2_with fail
        refine (C6.out _ (by rw [← hLL]; exact opv_plan HO.out)).mono ?_
        rintro e w6 ⟨rfl, hb6⟩
        have HO6 : Hid (OPv w6 w.heap.size (.slice A0 k cap0) L.length xs) := Lib.hid (by rw [HXL.out]; exact HO.out.later hb6)
        have HB6 := Lib.hid (HBw _ hb6)
        clear hb6 C6
        go_wp2
        go_ret3
        exact ⟨⟨_, xs, by rw [HFJ.out] <;> rfl, by rw [HFJ.out]; exact hLL, by rw [HFJ.out]; exact HO6.out⟩, HB6.out⟩
      · have HFJ : Hid (rpJ b = ([], 0, checkE L)) := Lib.hid (by rw [HFI.out]; unfold finJ; rw [if_neg hE])
        have hE2 : (checkE L == 0) = false := beq_eq_false_iff_ne.2 hE
        generalize checkE L = EE at *
        clear HFI
        go_wp2_with fail
        refine (C6.out _ (by rw [← hLL]; exact opv_plan HO.out)).mono ?_
        rintro e w6 ⟨rfl, hb6⟩
        have HB6 := Lib.hid (HBw _ hb6)
        clear hb6 C6
        go_wp2
        go_ret3
        exact ⟨⟨.slice none 0 0, [], by rw [HFJ.out] <;> rfl, by rw [HFJ.out]; rfl, by rw [HFJ.out]; exact OPv.nil _ _⟩, HB6.out⟩
    · have c1 := fun W (h : TabA W) => cut_any S 10 W h (by omega)
      have hfl := cutM_flag 10 S
      have hcl := cutM_len 10 S
      by_cases hm : (10 : UInt8) ∈ S
      · obtain ⟨hcl1, hcl2, hcl3⟩ := hcl
        replace hcl3 := hcl3 hm
        have hyi : S.isEmpty = false := by cases S with
          | nil => simp at hm
          | cons c r => rfl
        have HWC := Lib.hid (words_cut hm)
        have hne2 : words 10 (cutM 10 S).2.1 ≠ [] := words_ne _ _
        rw [decide_eq_true hm] at hfl
        clear hm hfin
        generalize cutM 10 S = CM at *
        obtain ⟨Y, R, e⟩ := CM
        dsimp only at *
        subst hfl
        have HNB : Hid (lineOk Y = false → rpJ b = ([], k, 2)) := Lib.hid (fun h => by rw [HR.out, HWC.out]; exact runJ_no h (.inl hne2))
        have HYS : Hid (lineOk Y = true → rpJ b = runJ (words 10 R) (k + 1) (xs.map (·.2) ++ [lineT Y]) ∧ ∃ ws', words 10 b = ws' ++ words 10 R ∧ ReadJ ws' (xs.map (·.2) ++ [lineT Y])) := Lib.hid (fun h => ⟨by rw [HR.out, HWC.out]; exact runJ_yes hne2 h, by
          obtain ⟨ws', h1, h2⟩ := HRd.out
          exact ⟨ws' ++ [Y], by rw [h1, HWC.out]; simp, h2.push h⟩⟩)
        have H1 : Hid ((words 32 Y).length < 3 → lineOk Y = false) := Lib.hid lineOk_short
        have H2 : Hid ((words 32 Y).contains [] = true → lineOk Y = false) := Lib.hid lineOk_hole
        have H3 : Hid (nmOk ((words 32 Y)[1]?.getD []) = false ∨ nmOk ((words 32 Y)[2]?.getD []) = false → lineOk Y = false) := Lib.hid lineOk_num
        have H4 : Hid (3 ≤ (words 32 Y).length → (words 32 Y).contains [] = false → nmOk ((words 32 Y)[1]?.getD []) = true → nmOk ((words 32 Y)[2]?.getD []) = true → lineOk Y = true) := Lib.hid lineOk_yes'
        have H5 : Hid (lineT Y = ⟨bsj ((words 32 Y)[0]?.getD []), atoiV ((words 32 Y)[1]?.getD []), atoiV ((words 32 Y)[2]?.getD []), ((words 32 Y).drop 3).map bsj⟩) := Lib.hid rfl
        have hyw : (words 32 Y).length ≤ 65537 := by have := wordsA_len 32 Y []; show (wordsA 32 [] Y).length ≤ _; omega
        have HYL := Lib.hid (fun j => (show ((words 32 Y)[j]?.getD []).length ≤ 65536 by
          by_cases hj : j < (words 32 Y).length
          · rw [List.getElem?_eq_getElem hj]; have := words_mem_len (List.getElem_mem hj); exact Nat.le_trans this (by omega)
          · rw [List.getElem?_eq_none (by omega)]; exact Nat.zero_le _))
        have c2 := fun W (h : TabA W) => split_any Y 32 W h (by omega)
        clear HR HRd HALL HWC hne2
        generalize words 32 Y = T at *
        have C1 := Lib.hid c1
        have C2 := Lib.hid c2
        have C3 := Lib.hid (fun (A : Option Addr) (cap : Nat) (W : World) (h : Strs W W.heap.size A T.length (T.map bsj)) => sContains_any A T.length cap (T.map bsj) ⟨#[]⟩ W (by omega) h)
        rw [isIn_bsj] at C3
        have C4 := Lib.hid (fun W (h : TabA W) => jnumber_any (T[1]?.getD []) W h (by have := HYL.out 1; omega))
        have C5 := Lib.hid (fun W (h : TabA W) => jnumber_any (T[2]?.getD []) W h (by have := HYL.out 2; omega))
        clear c1 c2
        by_cases hT3 : T.length < 3
        · have hT3' : (T.length : Int) < 3 := by omega
          have HBd := Lib.hid (HNB.out (H1.out hT3))
          clear HNB HYS H1 H2 H3 H4 H5 C3 C4 C5
          go_wp2_with fail
          refine (C1.out _ (HT.out.below hB)).mono ?_
          rintro e w1 ⟨rfl, hb1⟩
          have hs1 := hb1.size
          have HB1 := Lib.hid hb1
          clear hb1 C1
          go_wp2_with fail
          refine (C2.out _ (HT.out.below (HBw _ HB1.out))).mono ?_
          rintro e w2 ⟨⟨v2, rfl, ho2⟩, hb2⟩
          have hs2 := hb2.size
          have HB2 := Lib.hid (below_step HB1.out hb2)
          clear hb2 C2 HB1
          obtain ⟨A2, cap2, rfl, hnc2, hcm2, -, hT2, hg2⟩ := own_txts ho2
          have HBn := Lib.hid HB2.out
          clear ho2 hT2 hg2 HB2
          go_wp2
          go_ret3
          exact ⟨⟨.slice none 0 0, [], by rw [HBd.out] <;> rfl, by rw [HBd.out]; rfl, by rw [HBd.out]; exact OPv.nil _ _⟩, HBw _ HBn.out⟩
        · have hT3' : ¬ (T.length : Int) < 3 := by omega
          cases hcn : T.contains []
          · rw [hcn] at C3
            have HH4 := Lib.hid (fun h h2 => H4.out (by omega) hcn h h2)
            clear hcn H4 H1 H2
            cases hn1 : nmOk (T[1]?.getD [])
            · have HBd := Lib.hid (HNB.out (H3.out (.inl hn1)))
              rw [hn1] at C4
              clear hn1 HNB HYS H3 HH4 H5
              cases hn2 : nmOk (T[2]?.getD [])
              · rw [hn2] at C5
                clear hn2
                go_wp2_with fail
                refine (C1.out _ (HT.out.below hB)).mono ?_
                rintro e w1 ⟨rfl, hb1⟩
                have hs1 := hb1.size
                have HB1 := Lib.hid hb1
                clear hb1 C1
                go_wp2_with fail
                refine (C2.out _ (HT.out.below (HBw _ HB1.out))).mono ?_
                rintro e w2 ⟨⟨v2, rfl, ho2⟩, hb2⟩
                have hs2 := hb2.size
                have HB2 := Lib.hid (below_step HB1.out hb2)
                clear hb2 C2 HB1
                obtain ⟨A2, cap2, rfl, hnc2, hcm2, -, hT2, hg2⟩ := own_txts ho2
                obtain ⟨g2, rfl, hgb2, hgl2⟩ := hg2 (by omega)
                obtain ⟨c2, rfl⟩ : ∃ c2, cap2 = c2 + 3 := ⟨cap2 - 3, by omega⟩
                obtain ⟨_, _, he2, _, hw0⟩ := hT2.at_ 0 (by omega)
                cases he2
                obtain ⟨_, _, he2, _, hw1⟩ := hT2.at_ 1 (by omega)
                cases he2
                obtain ⟨_, _, he2, _, hw2⟩ := hT2.at_ 2 (by omega)
                cases he2
                simp only [Nat.zero_add, Nat.add_zero] at hw0 hw1 hw2
                have HT2 := Lib.hid hT2.strs
                have HTx := Lib.hid hT2
                have ht1 : ¬ T.length ≤ 1 := by omega
                have ht2 : ¬ T.length ≤ 2 := by omega
                have ht0 : ¬ T.length ≤ 0 := by omega
                have htz : ¬ T.length = 0 := by omega
                have ht3 : 3 ≤ T.length := by omega
                clear ho2 hT2 hg2
                generalize hX0 : T[0]?.getD [] = X0 at *
                generalize hX1 : T[1]?.getD [] = X1 at *
                generalize hX2 : T[2]?.getD [] = X2 at *
                have hn1 := atoiV_bd X1
                have hn2 := atoiV_bd X2
                generalize atoiV X1 = n1 at *
                generalize atoiV X2 = n2 at *
                clear hn1 hn2
                go_wp2_with fail
                refine (C3.out _ _ _ HT2.out).mono ?_
                rintro e w3 ⟨rfl, rfl⟩
                go_wp2_with fail
                refine (C4.out _ (HT.out.below (HBw _ HB2.out))).mono ?_
                rintro e w4 ⟨rfl, hb4⟩
                have hs4 := hb4.size
                replace hw0 := (hb4.cell (p := ⟨g2, 0, none⟩) hgl2).trans hw0
                replace hw2 := (hb4.cell (p := ⟨g2, 2, none⟩) hgl2).trans hw2
                have HB4 := Lib.hid (below_step HB2.out hb4)
                have HB24 := Lib.hid hb4
                clear hb4 C3 C4 hw1
                go_wp2_with fail
                refine (C5.out _ (HT.out.below (HBw _ HB4.out))).mono ?_
                rintro e w5 ⟨rfl, hb5⟩
                have hs5 := hb5.size
                replace hw0 := (hb5.cell (p := ⟨g2, 0, none⟩) (by show g2 < _; omega)).trans hw0
                have HBn := Lib.hid (below_step HB4.out hb5)
                have HB25 := Lib.hid (below_step HB24.out hb5)
                clear hb5 C5 hw2 HB2 HB4 HB24
                go_wp2
                go_ret3
                exact ⟨⟨.slice none 0 0, [], by rw [HBd.out] <;> rfl, by rw [HBd.out]; rfl, by rw [HBd.out]; exact OPv.nil _ _⟩, HBw _ HBn.out⟩
              · rw [hn2] at C5
                clear hn2
                go_wp2_with fail
                refine (C1.out _ (HT.out.below hB)).mono ?_
                rintro e w1 ⟨rfl, hb1⟩
                have hs1 := hb1.size
                have HB1 := Lib.hid hb1
                clear hb1 C1
                go_wp2_with fail
                refine (C2.out _ (HT.out.below (HBw _ HB1.out))).mono ?_
                rintro e w2 ⟨⟨v2, rfl, ho2⟩, hb2⟩
                have hs2 := hb2.size
                have HB2 := Lib.hid (below_step HB1.out hb2)
                clear hb2 C2 HB1
                obtain ⟨A2, cap2, rfl, hnc2, hcm2, -, hT2, hg2⟩ := own_txts ho2
                obtain ⟨g2, rfl, hgb2, hgl2⟩ := hg2 (by omega)
                obtain ⟨c2, rfl⟩ : ∃ c2, cap2 = c2 + 3 := ⟨cap2 - 3, by omega⟩
                obtain ⟨_, _, he2, _, hw0⟩ := hT2.at_ 0 (by omega)
                cases he2
                obtain ⟨_, _, he2, _, hw1⟩ := hT2.at_ 1 (by omega)
                cases he2
                obtain ⟨_, _, he2, _, hw2⟩ := hT2.at_ 2 (by omega)
                cases he2
                simp only [Nat.zero_add, Nat.add_zero] at hw0 hw1 hw2
                have HT2 := Lib.hid hT2.strs
                have HTx := Lib.hid hT2
                have ht1 : ¬ T.length ≤ 1 := by omega
                have ht2 : ¬ T.length ≤ 2 := by omega
                have ht0 : ¬ T.length ≤ 0 := by omega
                have htz : ¬ T.length = 0 := by omega
                have ht3 : 3 ≤ T.length := by omega
                clear ho2 hT2 hg2
                generalize hX0 : T[0]?.getD [] = X0 at *
                generalize hX1 : T[1]?.getD [] = X1 at *
                generalize hX2 : T[2]?.getD [] = X2 at *
                have hn1 := atoiV_bd X1
                have hn2 := atoiV_bd X2
                generalize atoiV X1 = n1 at *
                generalize atoiV X2 = n2 at *
                clear hn1 hn2
                go_wp2_with fail
                refine (C3.out _ _ _ HT2.out).mono ?_
                rintro e w3 ⟨rfl, rfl⟩
                go_wp2_with fail
                refine (C4.out _ (HT.out.below (HBw _ HB2.out))).mono ?_
                rintro e w4 ⟨rfl, hb4⟩
                have hs4 := hb4.size
                replace hw0 := (hb4.cell (p := ⟨g2, 0, none⟩) hgl2).trans hw0
                replace hw2 := (hb4.cell (p := ⟨g2, 2, none⟩) hgl2).trans hw2
                have HB4 := Lib.hid (below_step HB2.out hb4)
                have HB24 := Lib.hid hb4
                clear hb4 C3 C4 hw1
                go_wp2_with fail
                refine (C5.out _ (HT.out.below (HBw _ HB4.out))).mono ?_
                rintro e w5 ⟨rfl, hb5⟩
                have hs5 := hb5.size
                replace hw0 := (hb5.cell (p := ⟨g2, 0, none⟩) (by show g2 < _; omega)).trans hw0
                have HBn := Lib.hid (below_step HB4.out hb5)
                have HB25 := Lib.hid (below_step HB24.out hb5)
                clear hb5 C5 hw2 HB2 HB4 HB24
                go_wp2
                go_ret3
                exact ⟨⟨.slice none 0 0, [], by rw [HBd.out] <;> rfl, by rw [HBd.out]; rfl, by rw [HBd.out]; exact OPv.nil _ _⟩, HBw _ HBn.out⟩
            · cases hn2 : nmOk (T[2]?.getD [])
              · have HBd := Lib.hid (HNB.out (H3.out (.inr hn2)))
                rw [hn1] at C4
                rw [hn2] at C5
                clear hn1 hn2 HNB HYS H3 HH4 H5
                go_wp2_with fail
                refine (C1.out _ (HT.out.below hB)).mono ?_
                rintro e w1 ⟨rfl, hb1⟩
                have hs1 := hb1.size
                have HB1 := Lib.hid hb1
                clear hb1 C1
                go_wp2_with fail
                refine (C2.out _ (HT.out.below (HBw _ HB1.out))).mono ?_
                rintro e w2 ⟨⟨v2, rfl, ho2⟩, hb2⟩
                have hs2 := hb2.size
                have HB2 := Lib.hid (below_step HB1.out hb2)
                clear hb2 C2 HB1
                obtain ⟨A2, cap2, rfl, hnc2, hcm2, -, hT2, hg2⟩ := own_txts ho2
                obtain ⟨g2, rfl, hgb2, hgl2⟩ := hg2 (by omega)
                obtain ⟨c2, rfl⟩ : ∃ c2, cap2 = c2 + 3 := ⟨cap2 - 3, by omega⟩
                obtain ⟨_, _, he2, _, hw0⟩ := hT2.at_ 0 (by omega)
                cases he2
                obtain ⟨_, _, he2, _, hw1⟩ := hT2.at_ 1 (by omega)
                cases he2
                obtain ⟨_, _, he2, _, hw2⟩ := hT2.at_ 2 (by omega)
                cases he2
                simp only [Nat.zero_add, Nat.add_zero] at hw0 hw1 hw2
                have HT2 := Lib.hid hT2.strs
                have HTx := Lib.hid hT2
                have ht1 : ¬ T.length ≤ 1 := by omega
                have ht2 : ¬ T.length ≤ 2 := by omega
                have ht0 : ¬ T.length ≤ 0 := by omega
                have htz : ¬ T.length = 0 := by omega
                have ht3 : 3 ≤ T.length := by omega
                clear ho2 hT2 hg2
                generalize hX0 : T[0]?.getD [] = X0 at *
                generalize hX1 : T[1]?.getD [] = X1 at *
                generalize hX2 : T[2]?.getD [] = X2 at *
                have hn1 := atoiV_bd X1
                have hn2 := atoiV_bd X2
                generalize atoiV X1 = n1 at *
                generalize atoiV X2 = n2 at *
                clear hn1 hn2
                go_wp2_with fail
                refine (C3.out _ _ _ HT2.out).mono ?_
                rintro e w3 ⟨rfl, rfl⟩
                go_wp2_with fail
                refine (C4.out _ (HT.out.below (HBw _ HB2.out))).mono ?_
                rintro e w4 ⟨rfl, hb4⟩
                have hs4 := hb4.size
                replace hw0 := (hb4.cell (p := ⟨g2, 0, none⟩) hgl2).trans hw0
                replace hw2 := (hb4.cell (p := ⟨g2, 2, none⟩) hgl2).trans hw2
                have HB4 := Lib.hid (below_step HB2.out hb4)
                have HB24 := Lib.hid hb4
                clear hb4 C3 C4 hw1
                go_wp2_with fail
                refine (C5.out _ (HT.out.below (HBw _ HB4.out))).mono ?_
                rintro e w5 ⟨rfl, hb5⟩
                have hs5 := hb5.size
                replace hw0 := (hb5.cell (p := ⟨g2, 0, none⟩) (by show g2 < _; omega)).trans hw0
                have HBn := Lib.hid (below_step HB4.out hb5)
                have HB25 := Lib.hid (below_step HB24.out hb5)
                clear hb5 C5 hw2 HB2 HB4 HB24
                go_wp2
                go_ret3
                exact ⟨⟨.slice none 0 0, [], by rw [HBd.out] <;> rfl, by rw [HBd.out]; rfl, by rw [HBd.out]; exact OPv.nil _ _⟩, HBw _ HBn.out⟩
              · have HY := Lib.hid (HYS.out (HH4.out hn1 hn2))
                rw [hn1] at C4
                rw [hn2] at C5
                rw [H5.out] at HY
                clear hn1 hn2 HNB HYS H3 HH4 H5
                go_wp2_with fail
                refine (C1.out _ (HT.out.below hB)).mono ?_
                rintro e w1 ⟨rfl, hb1⟩
                have hs1 := hb1.size
                have HB1 := Lib.hid hb1
                clear hb1 C1
                go_wp2_with fail
                refine (C2.out _ (HT.out.below (HBw _ HB1.out))).mono ?_
                rintro e w2 ⟨⟨v2, rfl, ho2⟩, hb2⟩
                have hs2 := hb2.size
                have HB2 := Lib.hid (below_step HB1.out hb2)
                clear hb2 C2 HB1
                obtain ⟨A2, cap2, rfl, hnc2, hcm2, -, hT2, hg2⟩ := own_txts ho2
                obtain ⟨g2, rfl, hgb2, hgl2⟩ := hg2 (by omega)
                obtain ⟨c2, rfl⟩ : ∃ c2, cap2 = c2 + 3 := ⟨cap2 - 3, by omega⟩
                obtain ⟨_, _, he2, _, hw0⟩ := hT2.at_ 0 (by omega)
                cases he2
                obtain ⟨_, _, he2, _, hw1⟩ := hT2.at_ 1 (by omega)
                cases he2
                obtain ⟨_, _, he2, _, hw2⟩ := hT2.at_ 2 (by omega)
                cases he2
                simp only [Nat.zero_add, Nat.add_zero] at hw0 hw1 hw2
                have HT2 := Lib.hid hT2.strs
                have HTx := Lib.hid hT2
                have ht1 : ¬ T.length ≤ 1 := by omega
                have ht2 : ¬ T.length ≤ 2 := by omega
                have ht0 : ¬ T.length ≤ 0 := by omega
                have htz : ¬ T.length = 0 := by omega
                have ht3 : 3 ≤ T.length := by omega
                clear ho2 hT2 hg2
                generalize hX0 : T[0]?.getD [] = X0 at *
                generalize hX1 : T[1]?.getD [] = X1 at *
                generalize hX2 : T[2]?.getD [] = X2 at *
                have hn1 := atoiV_bd X1
                have hn2 := atoiV_bd X2
                generalize atoiV X1 = n1 at *
                generalize atoiV X2 = n2 at *
                clear hn1 hn2
                go_wp2_with fail
                refine (C3.out _ _ _ HT2.out).mono ?_
                rintro e w3 ⟨rfl, rfl⟩
                go_wp2_with fail
                refine (C4.out _ (HT.out.below (HBw _ HB2.out))).mono ?_
                rintro e w4 ⟨rfl, hb4⟩
                have hs4 := hb4.size
                replace hw0 := (hb4.cell (p := ⟨g2, 0, none⟩) hgl2).trans hw0
                replace hw2 := (hb4.cell (p := ⟨g2, 2, none⟩) hgl2).trans hw2
                have HB4 := Lib.hid (below_step HB2.out hb4)
                have HB24 := Lib.hid hb4
                clear hb4 C3 C4 hw1
                go_wp2_with fail
                refine (C5.out _ (HT.out.below (HBw _ HB4.out))).mono ?_
                rintro e w5 ⟨rfl, hb5⟩
                have hs5 := hb5.size
                replace hw0 := (hb5.cell (p := ⟨g2, 0, none⟩) (by show g2 < _; omega)).trans hw0
                have HBn := Lib.hid (below_step HB4.out hb5)
                have HB25 := Lib.hid (below_step HB24.out hb5)
                clear hb5 C5 hw2 HB2 HB4 HB24
                have HO5 := Lib.hid (HO.out.later HBn.out)
                have hro : ∀ x, (Value.slice A0 k cap0).ownBlock = some x → w.heap.size ≤ x ∧ x < wr.heap.size := fun x hx => ⟨(HO.out.own.lt x hx).1, (HO.out.own.lt x hx).2⟩
                have hne2 : some g2 ≠ (Value.slice A0 k cap0).ownBlock := fun e => by have := (hro g2 e.symm).2; omega
                have hg5 : g2 < w5.heap.size := by omega
                have HTd : Hid (∀ W, Below w5.heap.size w5 W → Strs W W.heap.size (if c2 = 0 then some ⟨g2, 0, none⟩ else some ⟨g2, 3, none⟩) (T.length - 3) ((T.drop 3).map bsj)) := Lib.hid (fun W h => ((HTx.out.below (B := w2.heap.size) (HB25.out.trans (h.mono (by have := HB25.out.size; omega)))).strs3 (by omega)).more (by have := h.size; have := HB25.out.size; omega))
                have hT7 : T.length - 3 ≤ 65537 := by omega
                have HDL : Hid ((T.drop 3).length = T.length - 3) := Lib.hid (by rw [List.length_drop])
                clear hX0 hX1 hX2 HO HTx HT2 HB25
                go_wp2_with fail
                refine wp_region_offb (Value.slice A0 k cap0).ownBlock (by kernel_rfl) (by kernel_rfl) ?_
                refine wpC_take (f := 5) (by kernel_rfl) (by kernel_rfl) ⟨⟨_, grown_drew (World.grownBy.refl _ _)⟩, rfl⟩ [0, 1, 2, 3, 4, 5, 6, 7] _ _ (by kernel_rfl) ?_
                simp only [List.map_cons, List.map_nil, List.getElem?_toArray, List.getElem?_cons_succ, List.getElem?_cons_zero, Option.getD_some]
                repeat (go_big_quiet_step (fail))
                refine wpQuiet_nil ?_
                have hB0 : Below w5.heap.size w5 w5.drew := (Below.refl _ _).drew
                generalize w5.drew = WW0 at *
                refine wpC_all (rs := [8]) (by kernel_rfl) (by decide) ?_
                intro i hi
                simp only [List.mem_cons, List.not_mem_nil, or_false] at hi
                subst hi
                refine ⟨_, rfl, ?_⟩
                go_simp
                refine (cloneS_any _ (T.length - 3) _ ((T.drop 3).map bsj) _ (by omega) (HTd.out _ hB0)).mono ?_
                rintro e WW1 ⟨⟨v9, rfl, ho9⟩, hb9⟩
                obtain ⟨A9, cap9, rfl, hq1, hq2, hS9, hge9⟩ := own_strs ho9
                have hsz0 := hB0.size
                replace hB0 := below_step hB0 hb9
                have HS9 := Lib.hid hS9
                have hge : ∀ b off, A9 = some ⟨b, off, none⟩ → wr.heap.size ≤ b := fun b off e => by have := hge9 b off e; omega
                have HGE := Lib.hid hge
                have hsz9 := hB0.size
                clear hb9 ho9 hge9 hS9 hge
                refine ⟨⟨⟨_, grown_of_below hB0 _⟩, rfl⟩, ?_⟩
                go_simp
                refine wpC_take (f := 3) (by kernel_rfl) (by kernel_rfl) ⟨⟨_, grown_of_below hB0 _⟩, rfl⟩ [9] _ _ (by kernel_rfl) ?_
                simp only [List.map_cons, List.map_nil, List.getElem?_toArray, List.getElem?_cons_succ, List.getElem?_cons_zero, Option.getD_some]
                repeat (go_big_quiet_step (fail))
                refine wpQuiet_nil ?_
                refine wpC_all (rs := [10]) (by kernel_rfl) (by decide) ?_
                intro i hi
                simp only [List.mem_cons, List.not_mem_nil, or_false] at hi
                subst hi
                refine ⟨_, rfl, ?_⟩
                go_simp
                have hnw := rnews4 WW1 (((A9, T.length - 3, cap9), ⟨bsj X0, n1, n2, (T.drop 3).map bsj⟩) : TkR) 34
                have hY6 : okR WW1 WW1.heap.size (((A9, T.length - 3, cap9), ⟨bsj X0, n1, n2, (T.drop 3).map bsj⟩) : TkR) := ⟨⟨hq1, hq2⟩, HS9.out⟩
                have hO6 := HO5.out.later hB0
                have hBb : Below WW1.heap.size WW1 (WW1.alloc (.cells #[.string ⟨X0.toArray⟩, .int .i64 n1, .int .i64 n2, .slice A9 (T.length - 3) cap9] 34)) := (Below.refl _ _).alloc (Nat.le_refl _) _
                replace hB0 := below_step hB0 hBb
                have HY7 := Lib.hid (hY6.go hBb)
                have HO7 := Lib.hid (hO6.later hBb)
                have hsz7 := hBb.size
                generalize hH : WW1.heap.size = HH at *
                change ∀ j u, (tk4 (((A9, T.length - 3, cap9), ⟨bsj X0, n1, n2, (T.drop 3).map bsj⟩) : TkR))[j]? = some u → (WW1.alloc (.cells #[.string ⟨X0.toArray⟩, .int .i64 n1, .int .i64 n2, .slice A9 (T.length - 3) cap9] 34)).cell? _ = some u at hnw
                clear hY6 hO6 hBb
                generalize WW1.alloc (.cells #[.string ⟨X0.toArray⟩, .int .i64 n1, .int .i64 n2, .slice A9 (T.length - 3) cap9] 34) = WW2 at *
                refine ⟨⟨⟨_, grown_of_below hB0 _⟩, rfl⟩, ?_⟩
                refine wpC_all (rs := [11]) (by kernel_rfl) (by decide) ?_
                intro i hi
                simp only [List.mem_cons, List.not_mem_nil, or_false] at hi
                subst hi
                refine ⟨_, rfl, ?_⟩
                refine wp_append_own_at (.tmp 67) (.tmp 77) 22 rfl w.heap.size 34 i0 (.agg #[.string ByteArray.empty, .int .i64 0, .int .i64 0, .slice none 0 0]) 4 56 Tryz.underlying22 hI0.out hI1.out hI2.out hI3.out rfl (by decide) _ k (tcel xs) (by simp [Act.eval, Act.put]) HO7.out.own ⟨HH, 0, none⟩ 1 1 (tk4 (((A9, T.length - 3, cap9), ⟨bsj X0, n1, n2, (T.drop 3).map bsj⟩) : TkR)) (by simp [Act.eval, Act.put]) rfl hnw (by intro u hu; exact tcel_one [(((A9, T.length - 3, cap9), ⟨bsj X0, n1, n2, (T.drop 3).map bsj⟩) : TkR)] u (by simpa [tcel] using hu)) (by unfold maxLen; omega) (by omega) (by have := hB0.size; omega) ?_
                intro v8 WW3 hown8 hgr8 hat8
                have HO8 := Lib.hid (HO7.out.push HY7.out (fun _ b off e hh => by
                  have h1 := HGE.out b off e
                  have h2 := (hro b hh.symm).2
                  omega) hown8 hgr8 hat8)
                have hB8 : Below w.heap.size w WW3 := (HBw _ HBn.out).trans ((hB0.mono (by omega)).trans (grown_below hgr8 (by have := hB0.size; omega) (fun q hq => (hro q hq).1)))
                have hC8 := grown_trans (grown_of_below hB0 (Value.slice A0 k cap0).ownBlock) hgr8
                clear hown8 hgr8 hat8 hnw
                refine ⟨⟨⟨_, hC8⟩, rfl⟩, ?_⟩
                go_simp
                refine wpC_take (f := 0) (by kernel_rfl) (by kernel_rfl) ⟨⟨_, hC8⟩, rfl⟩ [12] _ _ (by kernel_rfl) ?_
                simp only [List.map_cons, List.map_nil, List.getElem?_toArray, List.getElem?_cons_succ, List.getElem?_cons_zero, Option.getD_some]
                repeat (go_big_quiet_step (fail))
                refine wpQuiet_nil ?_
                refine wpC_done (by kernel_rfl) ?_
                have HB8 := Lib.hid hB8
                have HM8 : Hid (rpJ b = runJ (words 10 R) (k + 1) ((xs ++ [(((A9, T.length - 3, cap9), ⟨bsj X0, n1, n2, (T.drop 3).map bsj⟩) : TkR)]).map (·.2))) := Lib.hid (by rw [List.map_append]; exact HY.out.1)
                have HR8 : Hid (∃ ws', words 10 b = ws' ++ words 10 R ∧ ReadJ ws' ((xs ++ [(((A9, T.length - 3, cap9), ⟨bsj X0, n1, n2, (T.drop 3).map bsj⟩) : TkR)]).map (·.2))) := Lib.hid (by rw [List.map_append]; exact HY.out.2)
                clear hB8 hC8 hB0 HO5 HO7 HY HY7
                go_wp2
                go_roundw
                case rel => exact ⟨R, k + 1, _, by omega, rfl, by first | rfl | go_num, HO8, HR8, HM8, HB8.out⟩
                case measure => simp [intOf]; omega
          · have HBd := Lib.hid (HNB.out (H2.out hcn))
            rw [hcn] at C3
            clear HNB HYS H1 H2 H3 H4 H5 C4 C5 hcn
            go_wp2_with fail
            refine (C1.out _ (HT.out.below hB)).mono ?_
            rintro e w1 ⟨rfl, hb1⟩
            have hs1 := hb1.size
            have HB1 := Lib.hid hb1
            clear hb1 C1
            go_wp2_with fail
            refine (C2.out _ (HT.out.below (HBw _ HB1.out))).mono ?_
            rintro e w2 ⟨⟨v2, rfl, ho2⟩, hb2⟩
            have hs2 := hb2.size
            have HB2 := Lib.hid (below_step HB1.out hb2)
            clear hb2 C2 HB1
            obtain ⟨A2, cap2, rfl, hnc2, hcm2, -, hT2, hg2⟩ := own_txts ho2
            have HT2 := Lib.hid hT2.strs
            have HBn := Lib.hid HB2.out
            clear ho2 hT2 hg2 HB2
            go_wp2_with fail
            refine (C3.out _ _ _ HT2.out).mono ?_
            rintro e w3 ⟨rfl, rfl⟩
            go_wp2
            go_ret3
            exact ⟨⟨.slice none 0 0, [], by rw [HBd.out] <;> rfl, by rw [HBd.out]; rfl, by rw [HBd.out]; exact OPv.nil _ _⟩, HBw _ HBn.out⟩
      · have HBd : Hid (rpJ b = ([], k, 2)) := Lib.hid (by rw [HR.out, words_no hm]; exact runJ_last hfin)
        rw [decide_eq_false hm] at hfl
        obtain ⟨hcl1, hcl2, -⟩ := hcl
        have hc2 : ∀ Z : List UInt8, Z.length ≤ S.length → (words 32 Z).length ≤ 65537 := fun Z hZ => by have := wordsA_len 32 Z []; show (wordsA 32 [] Z).length ≤ _; omega
        clear HR HRd HALL hm
        generalize cutM 10 S = CM at *
        obtain ⟨Y, R, e⟩ := CM
        dsimp only at *
        subst hfl
        have C1 := Lib.hid c1
        have C2 := Lib.hid (fun W (h : TabA W) => split_any Y 32 W h (by omega))
        clear c1
        by_cases hS : S = []
        · have hk0 : k = 0 := by
            rcases Nat.eq_zero_or_pos k with h | h
            · exact h
            · exact absurd ⟨by omega, hS⟩ hfin
          subst hS hk0
          clear hfin
          go_wp2_with fail
          refine (C1.out _ (HT.out.below hB)).mono ?_
          rintro e w1 ⟨rfl, hb1⟩
          have hs1 := hb1.size
          have HB1 := Lib.hid hb1
          clear hb1 C1
          go_wp2_with fail
          refine (C2.out _ (HT.out.below (HBw _ HB1.out))).mono ?_
          rintro e w2 ⟨⟨v2, rfl, ho2⟩, hb2⟩
          have hs2 := hb2.size
          have HB2 := Lib.hid (below_step HB1.out hb2)
          clear hb2 C2 HB1
          obtain ⟨A2, cap2, rfl, hnc2, hcm2, -, hT2, hg2⟩ := own_txts ho2
          clear ho2 hT2 hg2
          generalize words 32 Y = T at *
          go_wp2
          go_ret3
          exact ⟨⟨.slice none 0 0, [], by rw [HBd.out] <;> rfl, by rw [HBd.out]; rfl, by rw [HBd.out]; exact OPv.nil _ _⟩, HBw _ HB2.out⟩
        · have hyi : S.isEmpty = false := by cases S with
            | nil => exact absurd rfl hS
            | cons c r => rfl
          clear hfin hS
          go_wp2_with fail
          refine (C1.out _ (HT.out.below hB)).mono ?_
          rintro e w1 ⟨rfl, hb1⟩
          have hs1 := hb1.size
          have HB1 := Lib.hid hb1
          clear hb1 C1
          go_wp2_with fail
          refine (C2.out _ (HT.out.below (HBw _ HB1.out))).mono ?_
          rintro e w2 ⟨⟨v2, rfl, ho2⟩, hb2⟩
          have hs2 := hb2.size
          have HB2 := Lib.hid (below_step HB1.out hb2)
          clear hb2 C2 HB1
          obtain ⟨A2, cap2, rfl, hnc2, hcm2, -, hT2, hg2⟩ := own_txts ho2
          clear ho2 hT2 hg2
          generalize words 32 Y = T at *
          go_wp2
          go_ret3
          exact ⟨⟨.slice none 0 0, [], by rw [HBd.out] <;> rfl, by rw [HBd.out]; rfl, by rw [HBd.out]; exact OPv.nil _ _⟩, HBw _ HB2.out⟩
end Go.Proofs.YtmionebfepkolaaGreatDoor
