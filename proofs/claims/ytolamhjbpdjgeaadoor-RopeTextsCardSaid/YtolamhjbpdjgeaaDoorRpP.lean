/- RopeTexts: the program's Parse. -/
import Derived.Test.YtolamhjbpdjgeaaDoorRpR
set_option linter.unusedSimpArgs false
set_option linter.unusedVariables false
namespace Go.Proofs.YtolamhjbpdjgeaaDoor
open Go.RowKit
attribute [local go_sem] Later.cell Same.cell

theorem okP_eq (us : List (Int × Int)) (y : List UInt8) : okP us y = (atoiOk (cutM 32 y).1 && (atoiOk (cutM 32 y).2.1 && (decide (fmtU1 (atoiV (cutM 32 y).1, atoiV (cutM 32 y).2.1) = y) && goodU (us ++ [(atoiV (cutM 32 y).1, atoiV (cutM 32 y).2.1)])))) := rfl
set_option maxRecDepth 20000 in
set_option maxHeartbeats 8000000 in
theorem Parse_any (b : List UInt8) (w : World) (htab : TabA w) (hb47 : b.length ≤ 9223372036854775807) :
    Calls Tryd.prog 5 #[.string ⟨b.toArray⟩] w fun e w' => (∃ v, e = .returned (.tuple #[v, .int .i64 (rpU b).2.1, .int .i64 (rpU b).2.2]) ∧ w'.ownsRow w.heap.size 46 2 v (rpU b).1.length (pcells (rpU b).1)) ∧ Below w.heap.size w w' := by
  have hsz : (⟨b.toArray⟩ : ByteArray).size = b.length := rfl
  by_cases h1 : 65536 < b.length
  · have hE : rpU b = ([], 0, 3) := by unfold rpU; rw [if_pos h1]
    rw [hE]
    have h1' : (65536 : Int) < b.length := by omega
    go_enter Tryd.func5, Tryd.ntmps5
    go_wp2
    go_ret3
    exact ⟨⟨_, rfl, World.ownsRow_nil _ _ _ _⟩, Below.refl _ _⟩
  · have h1' : decide ((65536 : Int) < b.length) = false := decide_eq_false (by omega)
    have hbl : b.length ≤ 65536 := by omega
    have HST : Hid (rpU b = runU (words 10 b) [] 0) := Lib.hid (by unfold rpU; rw [if_neg h1])
    obtain ⟨i0, hi, hz0, hz1, hz2⟩ := info_parts xinfo_use
    have hI0 := Lib.hid hi
    have hI1 := Lib.hid hz0
    have hI2 := Lib.hid hz1
    have hI3 := Lib.hid hz2
    have HT := Lib.hid htab
    clear hi hz0 hz1 hz2 htab h1
    go_enter Tryd.func5, Tryd.ntmps5
    go_wp2
    go_loopw [0, 2, 5] (fun s v i wr => ∃ (S : List UInt8) (us : List (Int × Int)) (k : Nat), S.length ≤ 65536 ∧ us.length = k ∧ s = .string ⟨S.toArray⟩ ∧ i = .int .i64 (k : Int) ∧ Hid (goodU us = true) ∧ Hid (wr.ownsRow w.heap.size 46 2 v k (pcells us)) ∧ Hid (rpU b = runU (words 10 S) us k) ∧ Below w.heap.size w wr) (fun _ _ i _ => 501 - (intOf i).toNat)
    case atStart => exact ⟨b, [], 0, hbl, rfl, rfl, rfl, Lib.hid rfl, Lib.hid (World.ownsRow_nil _ _ _ _), HST, Below.refl _ _⟩
    case round =>
      obtain ⟨S, us, k, hSl, hul, rfl, rfl, HG, HO, HR, hB⟩ := hrel
      clear HST hsz hbl h1' hb47
      obtain ⟨A0, cap0, rfl, hnc0, hcm0, -⟩ := own_pairs1 HO.out
      have hbs := hB.size
      have hus : k ≤ 500 := by rw [← hul]; exact (goodU_spec HG.out).1
      by_cases hS : S = []
      · have HBd : Hid (rpU b = (us, 0, 0)) := Lib.hid (by rw [HR.out, hS]; rfl)
        subst hS
        clear HR
        go_wp2
        go_ret3
        exact ⟨⟨_, by rw [HBd.out] <;> rfl, by rw [HBd.out, hul]; exact HO.out⟩, hB⟩
      · have hyi : S.isEmpty = false := by cases S with
          | nil => exact absurd rfl hS
          | cons c r => rfl
        have HEnd : Hid ((10 : UInt8) ∉ S → rpU b = ([], k, 2)) := Lib.hid (fun h => by rw [HR.out]; exact runU_end us k h hS)
        have HNo : Hid ((10 : UInt8) ∈ S → okP us (cutM 10 S).1 = false → rpU b = ([], k, 2)) := Lib.hid (fun h h2 => by rw [HR.out]; exact runU_no h h2)
        have HYes : Hid ((10 : UInt8) ∈ S → okP us (cutM 10 S).1 = true → rpU b = runU (words 10 (cutM 10 S).2.1) (us ++ [(atoiV (cutM 32 (cutM 10 S).1).1, atoiV (cutM 32 (cutM 10 S).1).2.1)]) (k + 1)) := Lib.hid (fun h h2 => by rw [HR.out]; exact runU_yes h h2)
        have c1 := fun W (h : TabA W) => cut_any S 10 W h (by omega)
        have hfl := cutM_flag 10 S
        have hcl := cutM_len 10 S
        obtain ⟨hcl1, hcl2, -⟩ := hcl
        generalize cutM 10 S = CM at *
        obtain ⟨T, R, e⟩ := CM
        dsimp only at *
        subst hfl
        have HOK : Hid (okP us T = (atoiOk (cutM 32 T).1 && (atoiOk (cutM 32 T).2.1 && (decide (fmtU1 (atoiV (cutM 32 T).1, atoiV (cutM 32 T).2.1) = T) && goodU (us ++ [(atoiV (cutM 32 T).1, atoiV (cutM 32 T).2.1)]))))) := Lib.hid (okP_eq us T)
        have c2 := fun W (h : TabA W) => cut_any T 32 W h (by omega)
        have hcl' := cutM_len 32 T
        obtain ⟨hcl3, hcl4, -⟩ := hcl'
        generalize cutM 32 T = CN at *
        obtain ⟨D, L, e2⟩ := CN
        dsimp only at *
        have c3 := fun W (h : TabA W) => atoi_any D W h (by omega)
        have c4 := fun W (h : TabA W) => atoi_any L W h (by omega)
        have hd := atoiV_bd D
        have hl := atoiV_bd L
        generalize atoiV D = d at *
        generalize atoiV L = l at *
        obtain ⟨hd1, hd2⟩ := hd
        obtain ⟨hl1, hl2⟩ := hl
        have HPok : Hid (decide ((10 : UInt8) ∈ S) = true → (10 : UInt8) ∈ S) := Lib.hid (fun h => of_decide_eq_true h)
        have HPno : Hid (decide ((10 : UInt8) ∈ S) = false → (10 : UInt8) ∉ S) := Lib.hid (fun h => of_decide_eq_false h)
        generalize decide ((10 : UInt8) ∈ S) = en at *
        generalize ho1 : atoiOk D = okD at *
        generalize ho2 : atoiOk L = okL at *
        clear ho1 ho2
        have CW := Lib.hid (fun W (h : Tab W) => written_any d l W h hd1 hd2 hl1 hl2)
        obtain ⟨F, hF⟩ : ∃ F, F = fmtU1 (d, l) := ⟨_, rfl⟩
        rw [← hF] at HOK CW
        obtain ⟨G, hG⟩ : ∃ G, G = goodU (us ++ [(d, l)]) := ⟨_, rfl⟩
        have HG2 := Lib.hid hG
        rw [← hG] at HOK
        have hRR : Hid (R.length ≤ 65536) := Lib.hid (by omega)
        clear hG hF hcl1 hcl2 hcl3 hcl4 HR
        have C1 := Lib.hid c1
        have C2 := Lib.hid c2
        have C3 := Lib.hid c3
        have C4 := Lib.hid c4
        clear c1 c2 c3 c4 hS
        have hR65 : R.length ≤ 65536 := hRR.out
        cases en
        · have HBd : Hid (rpU b = ([], k, 2)) := Lib.hid (HEnd.out (HPno.out rfl))
          clear HEnd HNo HYes HPok HPno HOK HG2 CW
          go_wp2_with fail
          refine (C1.out _ (HT.out.below (by repeat (first | exact Below.refl _ _ | assumption | refine Below.setCell ?_ (by first | (simp; done) | (simp; omega) | omega) _ | refine Below.drew ?_ | refine below_drewN ?_ _ | refine Below.alloc ?_ (by first | (simp; done) | (simp; omega) | omega) _ | refine below_alloc ?_ _ | refine below_step ?_ (by assumption))))).mono ?_
          rintro e w1 ⟨rfl, hb1⟩
          have HB1 := Lib.hid (below_step hB hb1)
          have HO1 := Lib.hid (xown_later HO.out hb1)
          clear hb1 hB HO C1
          go_wp2_with fail
          refine (C2.out _ (HT.out.below HB1.out)).mono ?_
          rintro e w2 ⟨rfl, hb2⟩
          have HB2 := Lib.hid (below_step HB1.out hb2)
          have HO2 := Lib.hid (xown_later HO1.out hb2)
          clear hb2 HB1 HO1 C2
          go_wp2_with fail
          refine (C3.out _ (HT.out.below HB2.out)).mono ?_
          rintro e w3 ⟨⟨u1, rfl, he1⟩, hb3⟩
          have HB3 := Lib.hid (below_step HB2.out hb3)
          have HO3 := Lib.hid (xown_later HO2.out hb3)
          clear hb3 HB2 HO2 C3
          go_wp2_with fail
          refine (C4.out _ (HT.out.below HB3.out)).mono ?_
          rintro e w4 ⟨⟨u2, rfl, he2⟩, hb4⟩
          have HB4 := Lib.hid (below_step HB3.out hb4)
          have HO4 := Lib.hid (xown_later HO3.out hb4)
          have hs4 := HB4.out.size
          clear hb4 HB3 HO3 C4
          go_wp2_with (at_builtin; go_loud (refine wpList_append_own _ rfl (.tmp 45) (.tmp 49) 22 rfl w.heap.size 46 i0 (.agg #[.int .i64 0, .int .i64 0]) 2 16 Tryd.underlying22 hI0.out hI1.out hI2.out hI3.out rfl (by decide) _ _ _ rfl (HO4.out.alloc _) ⟨w4.heap.size, 0, none⟩ 1 1 [.int .i64 d, .int .i64 l] rfl rfl (xnews2 _ _ _ _) (xone2 _ _) (by unfold maxLen; omega) (by omega) (by simp; omega) ?_))
          intro v' w5 hown' hgrow _
          have HB5 : Hid (Below w.heap.size w w5) := Lib.hid ((below_alloc HB4.out _).trans (grown_below hgrow (by simp; omega) (fun q hq => (HO4.out.lt q hq).1)))
          have HO5 : Hid (w5.ownsRow w.heap.size 46 2 v' (k + 1) (pcells (us ++ [(d, l)]))) := by
            rw [pcells_app]; exact Lib.hid hown'
          clear hown' hgrow HO4 HB4
          obtain ⟨A5, cap5, rfl, hnc5, hcm5, hP5⟩ := own_pairs1 HO5.out
          have HP5 := Lib.hid hP5
          clear hP5
          go_wp2
          go_ret3
          exact ⟨⟨.slice none 0 0, by rw [HBd.out] <;> rfl, by rw [HBd.out]; exact World.ownsRow_nil _ _ _ _⟩, HB5.out⟩
        · have hmem := HPok.out rfl
          have HNo2 : Hid (okP us T = false → rpU b = ([], k, 2)) := Lib.hid (HNo.out hmem)
          have HYes2 := Lib.hid (HYes.out hmem)
          clear HEnd HNo HYes HPok HPno hmem
          cases okD
          · have HBd : Hid (rpU b = ([], k, 2)) := Lib.hid (HNo2.out (by rw [HOK.out]; rfl))
            clear HNo2 HYes2 HOK HG2 CW
            go_wp2_with fail
            refine (C1.out _ (HT.out.below (by repeat (first | exact Below.refl _ _ | assumption | refine Below.setCell ?_ (by first | (simp; done) | (simp; omega) | omega) _ | refine Below.drew ?_ | refine below_drewN ?_ _ | refine Below.alloc ?_ (by first | (simp; done) | (simp; omega) | omega) _ | refine below_alloc ?_ _ | refine below_step ?_ (by assumption))))).mono ?_
            rintro e w1 ⟨rfl, hb1⟩
            have HB1 := Lib.hid (below_step hB hb1)
            have HO1 := Lib.hid (xown_later HO.out hb1)
            clear hb1 hB HO C1
            go_wp2_with fail
            refine (C2.out _ (HT.out.below HB1.out)).mono ?_
            rintro e w2 ⟨rfl, hb2⟩
            have HB2 := Lib.hid (below_step HB1.out hb2)
            have HO2 := Lib.hid (xown_later HO1.out hb2)
            clear hb2 HB1 HO1 C2
            go_wp2_with fail
            refine (C3.out _ (HT.out.below HB2.out)).mono ?_
            rintro e w3 ⟨⟨u1, rfl, he1⟩, hb3⟩
            have HB3 := Lib.hid (below_step HB2.out hb3)
            have HO3 := Lib.hid (xown_later HO2.out hb3)
            clear hb3 HB2 HO2 C3
            go_wp2_with fail
            refine (C4.out _ (HT.out.below HB3.out)).mono ?_
            rintro e w4 ⟨⟨u2, rfl, he2⟩, hb4⟩
            have HB4 := Lib.hid (below_step HB3.out hb4)
            have HO4 := Lib.hid (xown_later HO3.out hb4)
            have hs4 := HB4.out.size
            clear hb4 HB3 HO3 C4
            go_wp2_with (at_builtin; go_loud (refine wpList_append_own _ rfl (.tmp 45) (.tmp 49) 22 rfl w.heap.size 46 i0 (.agg #[.int .i64 0, .int .i64 0]) 2 16 Tryd.underlying22 hI0.out hI1.out hI2.out hI3.out rfl (by decide) _ _ _ rfl (HO4.out.alloc _) ⟨w4.heap.size, 0, none⟩ 1 1 [.int .i64 d, .int .i64 l] rfl rfl (xnews2 _ _ _ _) (xone2 _ _) (by unfold maxLen; omega) (by omega) (by simp; omega) ?_))
            intro v' w5 hown' hgrow _
            have HB5 : Hid (Below w.heap.size w w5) := Lib.hid ((below_alloc HB4.out _).trans (grown_below hgrow (by simp; omega) (fun q hq => (HO4.out.lt q hq).1)))
            have HO5 : Hid (w5.ownsRow w.heap.size 46 2 v' (k + 1) (pcells (us ++ [(d, l)]))) := by
              rw [pcells_app]; exact Lib.hid hown'
            clear hown' hgrow HO4 HB4
            obtain ⟨A5, cap5, rfl, hnc5, hcm5, hP5⟩ := own_pairs1 HO5.out
            have HP5 := Lib.hid hP5
            clear hP5
            obtain ⟨N1, rfl⟩ := he1.2 rfl
            go_wp2
            go_ret3
            exact ⟨⟨.slice none 0 0, by rw [HBd.out] <;> rfl, by rw [HBd.out]; exact World.ownsRow_nil _ _ _ _⟩, HB5.out⟩
          · cases okL
            · have HBd : Hid (rpU b = ([], k, 2)) := Lib.hid (HNo2.out (by rw [HOK.out]; rfl))
              clear HNo2 HYes2 HOK HG2 CW
              go_wp2_with fail
              refine (C1.out _ (HT.out.below (by repeat (first | exact Below.refl _ _ | assumption | refine Below.setCell ?_ (by first | (simp; done) | (simp; omega) | omega) _ | refine Below.drew ?_ | refine below_drewN ?_ _ | refine Below.alloc ?_ (by first | (simp; done) | (simp; omega) | omega) _ | refine below_alloc ?_ _ | refine below_step ?_ (by assumption))))).mono ?_
              rintro e w1 ⟨rfl, hb1⟩
              have HB1 := Lib.hid (below_step hB hb1)
              have HO1 := Lib.hid (xown_later HO.out hb1)
              clear hb1 hB HO C1
              go_wp2_with fail
              refine (C2.out _ (HT.out.below HB1.out)).mono ?_
              rintro e w2 ⟨rfl, hb2⟩
              have HB2 := Lib.hid (below_step HB1.out hb2)
              have HO2 := Lib.hid (xown_later HO1.out hb2)
              clear hb2 HB1 HO1 C2
              go_wp2_with fail
              refine (C3.out _ (HT.out.below HB2.out)).mono ?_
              rintro e w3 ⟨⟨u1, rfl, he1⟩, hb3⟩
              have HB3 := Lib.hid (below_step HB2.out hb3)
              have HO3 := Lib.hid (xown_later HO2.out hb3)
              clear hb3 HB2 HO2 C3
              go_wp2_with fail
              refine (C4.out _ (HT.out.below HB3.out)).mono ?_
              rintro e w4 ⟨⟨u2, rfl, he2⟩, hb4⟩
              have HB4 := Lib.hid (below_step HB3.out hb4)
              have HO4 := Lib.hid (xown_later HO3.out hb4)
              have hs4 := HB4.out.size
              clear hb4 HB3 HO3 C4
              go_wp2_with (at_builtin; go_loud (refine wpList_append_own _ rfl (.tmp 45) (.tmp 49) 22 rfl w.heap.size 46 i0 (.agg #[.int .i64 0, .int .i64 0]) 2 16 Tryd.underlying22 hI0.out hI1.out hI2.out hI3.out rfl (by decide) _ _ _ rfl (HO4.out.alloc _) ⟨w4.heap.size, 0, none⟩ 1 1 [.int .i64 d, .int .i64 l] rfl rfl (xnews2 _ _ _ _) (xone2 _ _) (by unfold maxLen; omega) (by omega) (by simp; omega) ?_))
              intro v' w5 hown' hgrow _
              have HB5 : Hid (Below w.heap.size w w5) := Lib.hid ((below_alloc HB4.out _).trans (grown_below hgrow (by simp; omega) (fun q hq => (HO4.out.lt q hq).1)))
              have HO5 : Hid (w5.ownsRow w.heap.size 46 2 v' (k + 1) (pcells (us ++ [(d, l)]))) := by
                rw [pcells_app]; exact Lib.hid hown'
              clear hown' hgrow HO4 HB4
              obtain ⟨A5, cap5, rfl, hnc5, hcm5, hP5⟩ := own_pairs1 HO5.out
              have HP5 := Lib.hid hP5
              clear hP5
              obtain rfl := he1.1 rfl
              obtain ⟨N2, rfl⟩ := he2.2 rfl
              go_wp2
              go_ret3
              exact ⟨⟨.slice none 0 0, by rw [HBd.out] <;> rfl, by rw [HBd.out]; exact World.ownsRow_nil _ _ _ _⟩, HB5.out⟩
            · by_cases hFT : F = T
              · subst hFT
                cases G
                · have HBd : Hid (rpU b = ([], k, 2)) := Lib.hid (HNo2.out (by rw [HOK.out]; simp))
                  clear HNo2 HYes2 HOK
                  go_wp2_with fail
                  refine (C1.out _ (HT.out.below (by repeat (first | exact Below.refl _ _ | assumption | refine Below.setCell ?_ (by first | (simp; done) | (simp; omega) | omega) _ | refine Below.drew ?_ | refine below_drewN ?_ _ | refine Below.alloc ?_ (by first | (simp; done) | (simp; omega) | omega) _ | refine below_alloc ?_ _ | refine below_step ?_ (by assumption))))).mono ?_
                  rintro e w1 ⟨rfl, hb1⟩
                  have HB1 := Lib.hid (below_step hB hb1)
                  have HO1 := Lib.hid (xown_later HO.out hb1)
                  clear hb1 hB HO C1
                  go_wp2_with fail
                  refine (C2.out _ (HT.out.below HB1.out)).mono ?_
                  rintro e w2 ⟨rfl, hb2⟩
                  have HB2 := Lib.hid (below_step HB1.out hb2)
                  have HO2 := Lib.hid (xown_later HO1.out hb2)
                  clear hb2 HB1 HO1 C2
                  go_wp2_with fail
                  refine (C3.out _ (HT.out.below HB2.out)).mono ?_
                  rintro e w3 ⟨⟨u1, rfl, he1⟩, hb3⟩
                  have HB3 := Lib.hid (below_step HB2.out hb3)
                  have HO3 := Lib.hid (xown_later HO2.out hb3)
                  clear hb3 HB2 HO2 C3
                  go_wp2_with fail
                  refine (C4.out _ (HT.out.below HB3.out)).mono ?_
                  rintro e w4 ⟨⟨u2, rfl, he2⟩, hb4⟩
                  have HB4 := Lib.hid (below_step HB3.out hb4)
                  have HO4 := Lib.hid (xown_later HO3.out hb4)
                  have hs4 := HB4.out.size
                  clear hb4 HB3 HO3 C4
                  go_wp2_with (at_builtin; go_loud (refine wpList_append_own _ rfl (.tmp 45) (.tmp 49) 22 rfl w.heap.size 46 i0 (.agg #[.int .i64 0, .int .i64 0]) 2 16 Tryd.underlying22 hI0.out hI1.out hI2.out hI3.out rfl (by decide) _ _ _ rfl (HO4.out.alloc _) ⟨w4.heap.size, 0, none⟩ 1 1 [.int .i64 d, .int .i64 l] rfl rfl (xnews2 _ _ _ _) (xone2 _ _) (by unfold maxLen; omega) (by omega) (by simp; omega) ?_))
                  intro v' w5 hown' hgrow _
                  have HB5 : Hid (Below w.heap.size w w5) := Lib.hid ((below_alloc HB4.out _).trans (grown_below hgrow (by simp; omega) (fun q hq => (HO4.out.lt q hq).1)))
                  have HO5 : Hid (w5.ownsRow w.heap.size 46 2 v' (k + 1) (pcells (us ++ [(d, l)]))) := by
                    rw [pcells_app]; exact Lib.hid hown'
                  clear hown' hgrow HO4 HB4
                  obtain ⟨A5, cap5, rfl, hnc5, hcm5, hP5⟩ := own_pairs1 HO5.out
                  have HP5 := Lib.hid hP5
                  clear hP5
                  obtain rfl := he1.1 rfl
                  obtain rfl := he2.1 rfl
                  obtain ⟨g5, off5, rfl, hg5, hcc1, hcc2⟩ := HP5.out.at_ k (by omega)
                  have hgk : (us ++ [(d, l)])[k]?.getD (0, 0) = (d, l) := by rw [← hul, List.getElem?_append_right (Nat.le_refl _)]; simp
                  rw [hgk] at hcc1 hcc2
                  dsimp only at hcc1 hcc2
                  clear hgk
                  have hs5 := HB5.out.size
                  go_wp2_with fail
                  refine (CW.out _ (HT.out.below HB5.out).tab).mono ?_
                  rintro e w6 ⟨rfl, hb6⟩
                  have HB6 := Lib.hid (below_step HB5.out hb6)
                  have HO6 := Lib.hid (xown_later HO5.out hb6)
                  have HP6 := Lib.hid ((HP5.out.below hb6).more hb6.size)
                  clear hb6 HB5 HO5 HP5 CW hcc1 hcc2
                  have C7 := Lib.hid (ValidUses_any _ (k + 1) cap5 (us ++ [(d, l)]) w6 (by omega) HP6.out)
                  rw [← HG2.out] at C7
                  go_wp2_with fail
                  refine C7.out.mono ?_
                  rintro e w7 ⟨rfl, hb7⟩
                  have HB7 := Lib.hid (below_step HB6.out hb7)
                  have HO7 := Lib.hid (xown_later HO6.out hb7)
                  clear hb7 HB6 HO6 HP6 C7
                  go_wp2
                  go_ret3
                  exact ⟨⟨.slice none 0 0, by rw [HBd.out] <;> rfl, by rw [HBd.out]; exact World.ownsRow_nil _ _ _ _⟩, HB7.out⟩
                · have HBd := Lib.hid (HYes2.out (by rw [HOK.out]; simp))
                  clear HNo2 HYes2 HOK
                  go_wp2_with fail
                  refine (C1.out _ (HT.out.below (by repeat (first | exact Below.refl _ _ | assumption | refine Below.setCell ?_ (by first | (simp; done) | (simp; omega) | omega) _ | refine Below.drew ?_ | refine below_drewN ?_ _ | refine Below.alloc ?_ (by first | (simp; done) | (simp; omega) | omega) _ | refine below_alloc ?_ _ | refine below_step ?_ (by assumption))))).mono ?_
                  rintro e w1 ⟨rfl, hb1⟩
                  have HB1 := Lib.hid (below_step hB hb1)
                  have HO1 := Lib.hid (xown_later HO.out hb1)
                  clear hb1 hB HO C1
                  go_wp2_with fail
                  refine (C2.out _ (HT.out.below HB1.out)).mono ?_
                  rintro e w2 ⟨rfl, hb2⟩
                  have HB2 := Lib.hid (below_step HB1.out hb2)
                  have HO2 := Lib.hid (xown_later HO1.out hb2)
                  clear hb2 HB1 HO1 C2
                  go_wp2_with fail
                  refine (C3.out _ (HT.out.below HB2.out)).mono ?_
                  rintro e w3 ⟨⟨u1, rfl, he1⟩, hb3⟩
                  have HB3 := Lib.hid (below_step HB2.out hb3)
                  have HO3 := Lib.hid (xown_later HO2.out hb3)
                  clear hb3 HB2 HO2 C3
                  go_wp2_with fail
                  refine (C4.out _ (HT.out.below HB3.out)).mono ?_
                  rintro e w4 ⟨⟨u2, rfl, he2⟩, hb4⟩
                  have HB4 := Lib.hid (below_step HB3.out hb4)
                  have HO4 := Lib.hid (xown_later HO3.out hb4)
                  have hs4 := HB4.out.size
                  clear hb4 HB3 HO3 C4
                  go_wp2_with (at_builtin; go_loud (refine wpList_append_own _ rfl (.tmp 45) (.tmp 49) 22 rfl w.heap.size 46 i0 (.agg #[.int .i64 0, .int .i64 0]) 2 16 Tryd.underlying22 hI0.out hI1.out hI2.out hI3.out rfl (by decide) _ _ _ rfl (HO4.out.alloc _) ⟨w4.heap.size, 0, none⟩ 1 1 [.int .i64 d, .int .i64 l] rfl rfl (xnews2 _ _ _ _) (xone2 _ _) (by unfold maxLen; omega) (by omega) (by simp; omega) ?_))
                  intro v' w5 hown' hgrow _
                  have HB5 : Hid (Below w.heap.size w w5) := Lib.hid ((below_alloc HB4.out _).trans (grown_below hgrow (by simp; omega) (fun q hq => (HO4.out.lt q hq).1)))
                  have HO5 : Hid (w5.ownsRow w.heap.size 46 2 v' (k + 1) (pcells (us ++ [(d, l)]))) := by
                    rw [pcells_app]; exact Lib.hid hown'
                  clear hown' hgrow HO4 HB4
                  obtain ⟨A5, cap5, rfl, hnc5, hcm5, hP5⟩ := own_pairs1 HO5.out
                  have HP5 := Lib.hid hP5
                  clear hP5
                  obtain rfl := he1.1 rfl
                  obtain rfl := he2.1 rfl
                  obtain ⟨g5, off5, rfl, hg5, hcc1, hcc2⟩ := HP5.out.at_ k (by omega)
                  have hgk : (us ++ [(d, l)])[k]?.getD (0, 0) = (d, l) := by rw [← hul, List.getElem?_append_right (Nat.le_refl _)]; simp
                  rw [hgk] at hcc1 hcc2
                  dsimp only at hcc1 hcc2
                  clear hgk
                  have hs5 := HB5.out.size
                  go_wp2_with fail
                  refine (CW.out _ (HT.out.below HB5.out).tab).mono ?_
                  rintro e w6 ⟨rfl, hb6⟩
                  have HB6 := Lib.hid (below_step HB5.out hb6)
                  have HO6 := Lib.hid (xown_later HO5.out hb6)
                  have HP6 := Lib.hid ((HP5.out.below hb6).more hb6.size)
                  clear hb6 HB5 HO5 HP5 CW hcc1 hcc2
                  have C7 := Lib.hid (ValidUses_any _ (k + 1) cap5 (us ++ [(d, l)]) w6 (by omega) HP6.out)
                  rw [← HG2.out] at C7
                  go_wp2_with fail
                  refine C7.out.mono ?_
                  rintro e w7 ⟨rfl, hb7⟩
                  have HB7 := Lib.hid (below_step HB6.out hb7)
                  have HO7 := Lib.hid (xown_later HO6.out hb7)
                  clear hb7 HB6 HO6 HP6 C7
                  go_wp2
                  go_roundw
                  case rel => exact ⟨R, us ++ [(d, l)], k + 1, hR65, by simp; omega, rfl, by first | rfl | go_num, Lib.hid HG2.out.symm, HO7, HBd, HB7.out⟩
                  case measure => simp [intOf]; omega
              · have HBd : Hid (rpU b = ([], k, 2)) := Lib.hid (HNo2.out (by rw [HOK.out]; simp [hFT]))
                clear HNo2 HYes2 HOK HG2
                go_wp2_with fail
                refine (C1.out _ (HT.out.below (by repeat (first | exact Below.refl _ _ | assumption | refine Below.setCell ?_ (by first | (simp; done) | (simp; omega) | omega) _ | refine Below.drew ?_ | refine below_drewN ?_ _ | refine Below.alloc ?_ (by first | (simp; done) | (simp; omega) | omega) _ | refine below_alloc ?_ _ | refine below_step ?_ (by assumption))))).mono ?_
                rintro e w1 ⟨rfl, hb1⟩
                have HB1 := Lib.hid (below_step hB hb1)
                have HO1 := Lib.hid (xown_later HO.out hb1)
                clear hb1 hB HO C1
                go_wp2_with fail
                refine (C2.out _ (HT.out.below HB1.out)).mono ?_
                rintro e w2 ⟨rfl, hb2⟩
                have HB2 := Lib.hid (below_step HB1.out hb2)
                have HO2 := Lib.hid (xown_later HO1.out hb2)
                clear hb2 HB1 HO1 C2
                go_wp2_with fail
                refine (C3.out _ (HT.out.below HB2.out)).mono ?_
                rintro e w3 ⟨⟨u1, rfl, he1⟩, hb3⟩
                have HB3 := Lib.hid (below_step HB2.out hb3)
                have HO3 := Lib.hid (xown_later HO2.out hb3)
                clear hb3 HB2 HO2 C3
                go_wp2_with fail
                refine (C4.out _ (HT.out.below HB3.out)).mono ?_
                rintro e w4 ⟨⟨u2, rfl, he2⟩, hb4⟩
                have HB4 := Lib.hid (below_step HB3.out hb4)
                have HO4 := Lib.hid (xown_later HO3.out hb4)
                have hs4 := HB4.out.size
                clear hb4 HB3 HO3 C4
                go_wp2_with (at_builtin; go_loud (refine wpList_append_own _ rfl (.tmp 45) (.tmp 49) 22 rfl w.heap.size 46 i0 (.agg #[.int .i64 0, .int .i64 0]) 2 16 Tryd.underlying22 hI0.out hI1.out hI2.out hI3.out rfl (by decide) _ _ _ rfl (HO4.out.alloc _) ⟨w4.heap.size, 0, none⟩ 1 1 [.int .i64 d, .int .i64 l] rfl rfl (xnews2 _ _ _ _) (xone2 _ _) (by unfold maxLen; omega) (by omega) (by simp; omega) ?_))
                intro v' w5 hown' hgrow _
                have HB5 : Hid (Below w.heap.size w w5) := Lib.hid ((below_alloc HB4.out _).trans (grown_below hgrow (by simp; omega) (fun q hq => (HO4.out.lt q hq).1)))
                have HO5 : Hid (w5.ownsRow w.heap.size 46 2 v' (k + 1) (pcells (us ++ [(d, l)]))) := by
                  rw [pcells_app]; exact Lib.hid hown'
                clear hown' hgrow HO4 HB4
                obtain ⟨A5, cap5, rfl, hnc5, hcm5, hP5⟩ := own_pairs1 HO5.out
                have HP5 := Lib.hid hP5
                clear hP5
                obtain rfl := he1.1 rfl
                obtain rfl := he2.1 rfl
                obtain ⟨g5, off5, rfl, hg5, hcc1, hcc2⟩ := HP5.out.at_ k (by omega)
                have hgk : (us ++ [(d, l)])[k]?.getD (0, 0) = (d, l) := by rw [← hul, List.getElem?_append_right (Nat.le_refl _)]; simp
                rw [hgk] at hcc1 hcc2
                dsimp only at hcc1 hcc2
                clear hgk
                have hs5 := HB5.out.size
                go_wp2_with fail
                refine (CW.out _ (HT.out.below HB5.out).tab).mono ?_
                rintro e w6 ⟨rfl, hb6⟩
                have HB6 := Lib.hid (below_step HB5.out hb6)
                have HO6 := Lib.hid (xown_later HO5.out hb6)
                have HP6 := Lib.hid ((HP5.out.below hb6).more hb6.size)
                clear hb6 HB5 HO5 HP5 CW hcc1 hcc2
                go_wp2
                go_ret3
                exact ⟨⟨.slice none 0 0, by rw [HBd.out] <;> rfl, by rw [HBd.out]; exact World.ownsRow_nil _ _ _ _⟩, HB6.out⟩
end Go.Proofs.YtolamhjbpdjgeaaDoor
