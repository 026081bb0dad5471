/- RopeTexts: the reference's Parse. -/
import Derived.Test.YtolamhjbpdjgeaaDoorRpF
import Derived.Test.YtolamhjbpdjgeaaDoorOffB
set_option linter.unusedSimpArgs false
set_option linter.unusedVariables false
namespace Go.Proofs.YtolamhjbpdjgeaaDoor
open Go.RowKit
attribute [local go_sem] Later.cell Same.cell OffB.cell

theorem xinfo_use : (Tryd.prog.info? 46).map (fun i => (i.zero, i.size, i.bytes)) = some (some (.agg #[.int .i64 0, .int .i64 0]), 2, 16) := by kernel_rfl
theorem xnews2 (W : World) (x y : Value) (t : TypeId) : ∀ j u, ([x, y] : List Value)[j]? = some u → (W.alloc (.cells #[x, y] t)).cell? ((⟨W.heap.size, 0, none⟩ : Addr).add j) = some u := by
  intro j u hj
  rcases j with _ | _ | j
  · simp at hj; subst hj; simp [Addr.add]
  · simp at hj; subst hj; simp [Addr.add]
  · simp at hj
theorem own_pairs1 {w : World} {base : Nat} {e : TypeId} {v : Value} {n : Nat} {xs : List (Int × Int)} (h : w.ownsRow base e 2 v n (pcells xs)) :
    ∃ A cap, v = .slice A n cap ∧ n ≤ cap ∧ cap ≤ maxLen ∧ Pairs w w.heap.size A n xs := by
  obtain ⟨A, cap, h1, h2, h3, h4, -⟩ := own_pairs h
  exact ⟨A, cap, h1, h2, h3, h4⟩
theorem str_empty {y : List UInt8} (h : y = []) : (⟨y.toArray⟩ : ByteArray) = ⟨#[]⟩ := by rw [h]
theorem wordsA_mem_len (m : UInt8) : ∀ (b cur y : List UInt8), y ∈ wordsA m cur b → y.length ≤ cur.length + b.length := by
  intro b
  induction b with
  | nil => intro cur y hy; simp [wordsA] at hy; rw [hy]; simp
  | cons c r ih =>
    intro cur y hy
    unfold wordsA at hy
    split at hy
    · rcases List.mem_cons.1 hy with rfl | hy
      · simp
      · have := ih [] y hy; simp at *; omega
    · have := ih _ y hy; simp at *; omega
set_option maxRecDepth 20000 in
set_option maxHeartbeats 8000000 in
theorem rParse_any (b : List UInt8) (w : World) (hb47 : b.length ≤ 9223372036854775807) :
    Calls Tryd.prog 6 #[.string ⟨b.toArray⟩] w fun e w' => (∃ v, e = .returned (.tuple #[v, .int .i64 (rpU b).2.1, .int .i64 (rpU b).2.2]) ∧ w'.ownsRow w.heap.size 46 2 v (rpU b).1.length (pcells (rpU b).1)) ∧ Below w.heap.size w w' := by
  have hsz : (⟨b.toArray⟩ : ByteArray).size = b.length := rfl
  by_cases h1 : 65536 < b.length
  · have hE : rpU b = ([], 0, 3) := by unfold rpU; rw [if_pos h1]
    rw [hE]
    have h1' : (65536 : Int) < b.length := by omega
    go_enter Tryd.func6, Tryd.ntmps6
    go_wp2
    go_ret3
    exact ⟨⟨_, rfl, World.ownsRow_nil _ _ _ _⟩, Below.refl _ _⟩
  · have h1' : decide ((65536 : Int) < b.length) = false := decide_eq_false (by omega)
    have hbl : b.length ≤ 65536 := by omega
    have HE : Hid (rpU b = runU (words 10 b) [] 0) := Lib.hid (by unfold rpU; rw [if_neg h1])
    have C1 : Hid (Calls Tryd.prog 17 #[.string ⟨b.toArray⟩, .int .u8 10] w fun e w' => (∃ v, e = .returned v ∧ w'.ownsRow w.heap.size 9 1 v (words 10 b).length (bcel (words 10 b))) ∧ Below w.heap.size w w') := Lib.hid (words_any b 10 w (by omega))
    have HWL := Lib.hid (fun y (hy : y ∈ words 10 b) => wordsA_mem_len 10 b [] y hy)
    have HNL : Hid ((words 10 b).length ≤ b.length + 1) := Lib.hid (wordsA_len 10 b [])
    have HNP : Hid (0 < (words 10 b).length) := Lib.hid (List.length_pos_iff.2 (words_ne _ _))
    obtain ⟨i0, hi, hz0, hz1, hz2⟩ := info_parts xinfo_use
    have hI0 := Lib.hid hi
    have hI1 := Lib.hid hz0
    have hI2 := Lib.hid hz1
    have hI3 := Lib.hid hz2
    clear hi hz0 hz1 hz2
    go_enter Tryd.func6, Tryd.ntmps6
    go_wp2_with fail
    refine C1.out.mono ?_
    rintro e w1 ⟨⟨v1, rfl, ho1⟩, hb1⟩
    generalize hWs : words 10 b = ws at *
    obtain ⟨A1, cap1, rfl, hnc1, hcm1, -, hT1, hg1⟩ := own_txts ho1
    have hnl : ws.length ≤ b.length + 1 := HNL.out
    have hnp : 0 < ws.length := HNP.out
    obtain ⟨g, rfl, hgb, hgl⟩ := hg1 hnp
    have HT1 := Lib.hid hT1
    have HB1 := Lib.hid hb1
    have hb1s := hb1.size
    have HST : Hid (rpU b = runU (ws.drop 0) [] 0) := Lib.hid HE.out
    clear ho1 hb1 hWs C1 HE HNL HNP hT1 h1
    go_wp2
    go_loopw [6, 7] (fun v i wr => ∃ (k : Nat) (us : List (Int × Int)), k + 1 ≤ ws.length ∧ us.length = k ∧ i = .int .i64 (k : Int) ∧ Hid (goodU us = true) ∧ Hid (wr.ownsRow w1.heap.size 46 2 v k (pcells us)) ∧ Hid (rpU b = runU (ws.drop k) us k) ∧ Below w1.heap.size w1 wr) (fun _ i _ => ws.length - (intOf i).toNat)
    case atStart => exact ⟨0, [], hnp, rfl, rfl, Lib.hid rfl, Lib.hid (World.ownsRow_nil _ _ _ _), HST, Below.refl _ _⟩
    case round =>
      obtain ⟨k, us, hk, hul, rfl, HG, HO, HR, hB⟩ := hrel
      clear HST
      obtain ⟨A0, cap0, rfl, hnc0, hcm0, -⟩ := own_pairs1 HO.out
      have hsz1 := hB.size
      have hgr : g < wr.heap.size := by omega
      have hus : k ≤ 500 := by rw [← hul]; exact (goodU_spec HG.out).1
      have HBw : ∀ W, Below wr.heap.size wr W → Below w.heap.size w W := fun W h => HB1.out.trans ((hB.trans (h.mono hsz1)).mono hb1s)
      by_cases hlt : k + 1 < ws.length
      · have hlt1 : (k : Int) < (ws.length : Int) - 1 := by omega
        have hk2 : ¬ ws.length ≤ k := by omega
        obtain ⟨_, _, he, _, hc1⟩ := (HT1.out.below hB).at_ k (by omega)
        cases he
        rw [Nat.zero_add] at hc1
        have hyl : (ws[k]?.getD []).length ≤ b.length := by
          have hk' : k < ws.length := by omega
          rw [List.getElem?_eq_getElem hk']
          simpa using HWL.out _ (List.getElem_mem hk')
        have HR2 : Hid (rpU b = match stepU us (ws[k]?.getD []) with | none => ([], k, 2) | some us' => runU (ws.drop (k + 1)) us' (k + 1)) := Lib.hid (HR.out.trans (runU_step hlt))
        clear HR
        generalize ws[k]?.getD [] = Y at *
        have C2 : Hid (∀ W : World, Calls Tryd.prog 17 #[.string ⟨Y.toArray⟩, .int .u8 32] W fun e w' => (∃ v, e = .returned v ∧ w'.ownsRow W.heap.size 9 1 v (words 32 Y).length (bcel (words 32 Y))) ∧ Below W.heap.size W w') := Lib.hid (fun W => words_any Y 32 W (by omega))
        have hyw : (words 32 Y).length ≤ 1000000 := by have := wordsA_len 32 Y []; show (wordsA 32 [] Y).length ≤ _; omega
        have C3 := Lib.hid (fun (A : Option Addr) (cap : Nat) (W : World) (h : Txts W W.heap.size A (words 32 Y).length (words 32 Y)) => Numbers_any A (words 32 Y).length cap (words 32 Y) W hyw h (fun y hy => by have := wordsA_mem_len 32 Y [] y hy; simp at this; omega))
        obtain ⟨M, hM⟩ : ∃ M, numsR (words 32 Y) = M := ⟨_, rfl⟩
        rw [hM] at C3
        have HM := Lib.hid hM
        generalize words 32 Y = WY at C2 C3 hyw
        obtain ⟨xs, ok⟩ := M
        dsimp only at C3
        clear hM hyw
        have HBad : Hid (ok = false ∨ xs.length ≠ 2 → rpU b = ([], k, 2)) := Lib.hid (fun h => by
          rw [HR2.out, stepU_bad (by rw [HM.out]; exact h)])
        cases ok
        · have HBd : Hid (rpU b = ([], k, 2)) := Lib.hid (HBad.out (.inl rfl))
          clear HBad HR2 HM HO HG
          go_wp2_with fail
          refine (C2.out _).mono ?_
          rintro e w2 ⟨⟨v2, rfl, ho2⟩, hb2⟩
          obtain ⟨A2, cap2, rfl, -, -, -, hT2, -⟩ := own_txts ho2
          have HT2 := Lib.hid hT2
          have hs2 := hb2.size
          have HB2 := Lib.hid hb2
          clear ho2 hT2 hb2 C2 hc1
          go_wp2_with fail
          refine (C3.out _ _ _ HT2.out).mono ?_
          rintro e w3 ⟨⟨v3, rfl, ho3⟩, hb3⟩
          have hs3 := hb3.size
          have HB3 : Hid (Below wr.heap.size wr w3) := Lib.hid (below_step HB2.out hb3)
          clear hb3 HB2 HT2 C3
          go_wp2
          go_ret3
          exact ⟨⟨.slice none 0 0, by rw [HBd.out] <;> rfl, by rw [HBd.out]; exact World.ownsRow_nil _ _ _ _⟩, HBw _ HB3.out⟩
        · by_cases hx2 : xs.length = 2
          · obtain ⟨p, q, rfl⟩ : ∃ p q, xs = [p, q] := by
              match xs, hx2 with
              | [p, q], _ => exact ⟨p, q, rfl⟩
            have HST2 : Hid (stepU us Y = if goodU (us ++ [(p, q)]) then some (us ++ [(p, q)]) else none) := Lib.hid (stepU_two HM.out)
            clear HBad HM hx2
            go_wp2_with fail
            refine (C2.out _).mono ?_
            rintro e w2 ⟨⟨v2, rfl, ho2⟩, hb2⟩
            obtain ⟨A2, cap2, rfl, -, -, -, hT2, -⟩ := own_txts ho2
            have HT2 := Lib.hid hT2
            have hs2 := hb2.size
            have HB2 := Lib.hid hb2
            clear ho2 hT2 hb2 C2 hc1
            go_wp2_with fail
            refine (C3.out _ _ _ HT2.out).mono ?_
            rintro e w3 ⟨⟨v3, rfl, ho3⟩, hb3⟩
            have hs3 := hb3.size
            have HB3 : Hid (Below wr.heap.size wr w3) := Lib.hid (below_step HB2.out hb3)
            clear hb3 HB2 HT2 C3
            obtain ⟨A3, cap3, rfl, hnc3, hcm3, hI3x, hg3⟩ := own_ints ho3
            obtain ⟨g3, rfl, hgb3, hgl3, -⟩ := hg3 (by simp)
            obtain ⟨_, _, he3, _, hd3⟩ := hI3x.2 (by simp)
            cases he3
            have hp : w3.cell? ⟨g3, 0, none⟩ = some (.int .i64 p) := by simpa using hd3 0 (by simp)
            have hq : w3.cell? ⟨g3, 1, none⟩ = some (.int .i64 q) := by simpa using hd3 1 (by simp)
            clear ho3 hI3x hg3 hd3
            have HO3 := Lib.hid (xown_later HO.out HB3.out)
            have hro : ∀ x, (Value.slice A0 k cap0).ownBlock = some x → w1.heap.size ≤ x ∧ x < wr.heap.size := fun x hx => ⟨(HO.out.lt x hx).1, (HO.out.lt x hx).2⟩
            have hne3 : some g3 ≠ (Value.slice A0 k cap0).ownBlock := fun e => by have := (hro g3 e.symm).2; omega
            have hul2 : us.length = k := hul
            have hnu : [p, q].length = 2 := rfl
            simp only [hnu] at *
            go_wp2_with fail
            refine wp_region_offb (Value.slice A0 k cap0).ownBlock (by kernel_rfl) (by kernel_rfl) ?_
            refine wpC_take (f := 3) (by kernel_rfl) (by kernel_rfl) ⟨⟨_, grown_drew (World.grownBy.refl _ _)⟩, rfl⟩ [0, 1, 2, 3, 4, 5, 6, 7] _ _ (by kernel_rfl) ?_
            simp only [List.map_cons, List.map_nil, List.getElem?_toArray, List.getElem?_cons_succ, List.getElem?_cons_zero, Option.getD_some]
            repeat (go_big_quiet_step (fail))
            refine wpQuiet_nil ?_
            refine wpC_all (rs := [8]) (by kernel_rfl) (by decide) ?_
            intro i hi
            simp only [List.mem_cons, List.not_mem_nil, or_false] at hi
            subst hi
            refine ⟨_, rfl, ?_⟩
            go_simp
            have hnw := xnews2 w3 (.int .i64 p) (.int .i64 q) 46
            have hBb : Below w3.heap.size w3 (w3.alloc (.cells #[.int .i64 p, .int .i64 q] 46)).drew := ((Below.refl _ w3).alloc (Nat.le_refl _) _).drew
            have hnw' : ∀ j u, ([.int .i64 p, .int .i64 q] : List Value)[j]? = some u → (w3.alloc (.cells #[.int .i64 p, .int .i64 q] 46)).drew.cell? ((⟨w3.heap.size, 0, none⟩ : Addr).add j) = some u := hnw
            have ho := xown_later HO3.out hBb
            have hB4 := grown_of_below hBb (Value.slice A0 k cap0).ownBlock
            have hz4 := hBb.size
            generalize (w3.alloc (.cells #[.int .i64 p, .int .i64 q] 46)).drew = WW0 at *
            refine ⟨⟨⟨_, hB4⟩, rfl⟩, ?_⟩
            refine wpC_all (rs := [9]) (by kernel_rfl) (by decide) ?_
            intro i hi
            simp only [List.mem_cons, List.not_mem_nil, or_false] at hi
            subst hi
            refine ⟨_, rfl, ?_⟩
            refine wp_append_own _ (.tmp 39) (.tmp 47) 22 rfl w1.heap.size 46 i0 (.agg #[.int .i64 0, .int .i64 0]) 2 16 Tryd.underlying22 hI0.out hI1.out hI2.out hI3.out rfl (by decide) _ k _ (by simp [Act.eval, Act.put]) ho ⟨w3.heap.size, 0, none⟩ 1 1 [.int .i64 p, .int .i64 q] (by simp [Act.eval, Act.put]) rfl hnw' (xone2 _ _) (by unfold maxLen; omega) (by omega) (by omega) ?_
            intro v' WW1 hown hgr _
            have hO : Hid (WW1.ownsRow w1.heap.size 46 2 v' (k + 1) (pcells (us ++ [(p, q)]))) := Lib.hid (by rw [pcells_app]; exact hown)
            have hb5 : Below w1.heap.size w1 WW1 := (hB.trans (HB3.out.mono hsz1)).trans ((hBb.mono (by omega)).trans (grown_below hgr (by omega) (fun q hq => (ho.lt q hq).1)))
            have hB5 := grown_trans hB4 hgr
            clear hown hgr ho hnw hnw' hBb hB4
            refine ⟨⟨⟨_, hB5⟩, rfl⟩, ?_⟩
            go_simp
            refine wpC_take (f := 0) (by kernel_rfl) (by kernel_rfl) ⟨⟨_, hB5⟩, rfl⟩ [10] _ _ (by kernel_rfl) ?_
            simp only [List.map_cons, List.map_nil, List.getElem?_toArray, List.getElem?_cons_succ, List.getElem?_cons_zero, Option.getD_some]
            repeat (go_big_quiet_step (fail))
            refine wpQuiet_nil ?_
            refine wpC_done (by kernel_rfl) ?_
            obtain ⟨A5, cap5, rfl, hnc5, hcm5, hP5⟩ := own_pairs1 hO.out
            have C5 := Lib.hid (rValidUses_any A5 (k + 1) cap5 (us ++ [(p, q)]) WW1 (by omega) hP5)
            have HB5 := Lib.hid hb5
            have hs5 := hb5.size
            clear hP5 hb5 hB5 hp hq HO3
            by_cases hgd : goodU (us ++ [(p, q)]) = true
            · have HN : Hid (rpU b = runU (ws.drop (k + 1)) (us ++ [(p, q)]) (k + 1)) := Lib.hid (by rw [HR2.out, HST2.out, if_pos hgd])
              have HG5 := Lib.hid hgd
              rw [hgd] at C5
              clear HR2 HST2 hgd
              go_wp2_with fail
              refine C5.out.mono ?_
              rintro e w6 ⟨rfl, hb6⟩
              have HO6 := Lib.hid (xown_later hO.out hb6)
              have HB6 := Lib.hid (HB5.out.trans (hb6.mono hs5))
              clear hb6 C5 hO HB5
              go_wp2
              go_roundw
              case rel => exact ⟨k + 1, us ++ [(p, q)], by omega, by simp; omega, by first | rfl | go_num, HG5, HO6, HN, HB6.out⟩
              case measure => simp [intOf]; omega
            · have HN : Hid (rpU b = ([], k, 2)) := Lib.hid (by rw [HR2.out, HST2.out, if_neg hgd])
              have hgd : goodU (us ++ [(p, q)]) = false := by simpa using hgd
              rw [hgd] at C5
              clear HR2 HST2 hgd
              go_wp2_with fail
              refine C5.out.mono ?_
              rintro e w6 ⟨rfl, hb6⟩
              have HB6 := Lib.hid (HB5.out.trans (hb6.mono hs5))
              clear hb6 C5 hO HB5
              go_wp2
              go_ret3
              exact ⟨⟨.slice none 0 0, by rw [HN.out] <;> rfl, by rw [HN.out]; exact World.ownsRow_nil _ _ _ _⟩, HB1.out.trans (HB6.out.mono hb1s)⟩
          · have HBd : Hid (rpU b = ([], k, 2)) := Lib.hid (HBad.out (.inr hx2))
            have hx3 : ((xs.length : Int) == 2) = false := beq_eq_false_iff_ne.2 (by omega)
            clear HBad HR2 HM HO HG
            go_wp2_with fail
            refine (C2.out _).mono ?_
            rintro e w2 ⟨⟨v2, rfl, ho2⟩, hb2⟩
            obtain ⟨A2, cap2, rfl, -, -, -, hT2, -⟩ := own_txts ho2
            have HT2 := Lib.hid hT2
            have hs2 := hb2.size
            have HB2 := Lib.hid hb2
            clear ho2 hT2 hb2 C2 hc1
            go_wp2_with fail
            refine (C3.out _ _ _ HT2.out).mono ?_
            rintro e w3 ⟨⟨v3, rfl, ho3⟩, hb3⟩
            have hs3 := hb3.size
            have HB3 : Hid (Below wr.heap.size wr w3) := Lib.hid (below_step HB2.out hb3)
            clear hb3 HB2 HT2 C3
            obtain ⟨A3, cap3, rfl, hnc3, hcm3, -, -⟩ := own_ints ho3
            clear ho3
            go_wp2
            go_ret3
            exact ⟨⟨.slice none 0 0, by rw [HBd.out] <;> rfl, by rw [HBd.out]; exact World.ownsRow_nil _ _ _ _⟩, HBw _ HB3.out⟩
      · have hkl : k + 1 = ws.length := by omega
        have hk9 : ¬ (k : Int) < (ws.length : Int) - 1 := by omega
        obtain ⟨_, _, he, _, hc1⟩ := (HT1.out.below hB).at_ k (by omega)
        cases he
        rw [Nat.zero_add] at hc1
        have HR2 : Hid (rpU b = if ws[k]?.getD [] = [] then (us, 0, 0) else ([], k, 2)) := Lib.hid (HR.out.trans (runU_last hkl))
        clear HR
        generalize ws[k]?.getD [] = Y at *
        have hnk : ((ws.length : Int) - 1) = (k : Int) := by omega
        have hk3 : ¬ ws.length ≤ k := by omega
        by_cases hy : Y = []
        · have HBd : Hid (rpU b = (us, 0, 0)) := Lib.hid (by rw [HR2.out, if_pos hy])
          subst hy
          clear HR2
          go_wp2
          go_ret3
          exact ⟨⟨_, by rw [HBd.out] <;> rfl, by rw [HBd.out]; rw [hul]; exact xown_mono HO.out hb1s⟩, HBw _ (Below.refl _ _)⟩
        · have HBd : Hid (rpU b = ([], k, 2)) := Lib.hid (by rw [HR2.out, if_neg hy])
          have hye : (⟨Y.toArray⟩ : ByteArray) ≠ ⟨#[]⟩ := fun e => hy (by
            have := congrArg (fun x : ByteArray => x.data.toList) e
            simpa using this)
          have hyi : Y.isEmpty = false := by cases Y with
            | nil => exact absurd rfl hy
            | cons c r => rfl
          clear HR2
          go_wp2
          go_ret3
          exact ⟨⟨.slice none 0 0, by rw [HBd.out] <;> rfl, by rw [HBd.out]; exact World.ownsRow_nil _ _ _ _⟩, HBw _ (Below.refl _ _)⟩
end Go.Proofs.YtolamhjbpdjgeaaDoor
