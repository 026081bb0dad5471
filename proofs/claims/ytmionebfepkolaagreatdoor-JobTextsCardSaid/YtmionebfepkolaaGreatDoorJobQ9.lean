/- Plans: the program's named, Slack. -/
import Derived.Test.YtmionebfepkolaaGreatDoorJobQ8
import Derived.Test.YtmionebfepkolaaGreatDoorYJa
set_option linter.unusedSimpArgs false
set_option linter.unusedVariables false
namespace Go.Proofs.YtmionebfepkolaaGreatDoor
open Go.RowKit Go.Maps
attribute [local go_sem] Later.cell Same.cell

def nmE (l : List Tk) (s : ByteArray) : Int := if checkE l = 0 then (if fnd l s < l.length then 0 else 5) else checkE l
def nmV (l : List Tk) (s : ByteArray) : Int := if nmE l s = 0 then (fnd l s : Int) else 0
theorem nm_cases (l : List Tk) (s : ByteArray) : (checkE l = 0 ∧ fnd l s < l.length ∧ nmE l s = 0 ∧ nmV l s = (fnd l s : Int)) ∨ (checkE l = 0 ∧ ¬ fnd l s < l.length ∧ nmE l s = 5 ∧ nmV l s = 0) ∨ (checkE l ≠ 0 ∧ nmE l s = checkE l ∧ nmV l s = 0) := by
  by_cases h0 : checkE l = 0
  · by_cases h1 : fnd l s < l.length
    · have h2 : nmE l s = 0 := by unfold nmE; rw [if_pos h0, if_pos h1]
      exact .inl ⟨h0, h1, h2, by unfold nmV; rw [if_pos h2]⟩
    · have h2 : nmE l s = 5 := by unfold nmE; rw [if_pos h0, if_neg h1]
      exact .inr (.inl ⟨h0, h1, h2, by unfold nmV; rw [if_neg (by rw [h2]; decide)]⟩)
  · have h2 : nmE l s = checkE l := by unfold nmE; rw [if_neg h0]
    exact .inr (.inr ⟨h0, h2, by unfold nmV; rw [if_neg (by rw [h2]; exact h0)]⟩)
set_option maxRecDepth 20000 in
set_option maxHeartbeats 8000000 in
theorem named_any (A : Option Addr) (len cap : Nat) (l : List Tk) (s : ByteArray) (w : World) (hS : Sml l) (hs : s.size ≤ 9223372036854775807) (hx : Plan w w.heap.size A len l) :
    Calls Tryz.prog 39 #[.slice A len cap, .string s] w fun e w' => e = .returned (.tuple #[.int .i64 (nmV l s), .int .i64 (nmE l s)]) ∧ Below w.heap.size w w' := by
  obtain rfl : l.length = len := hx.1
  have c1 := Check_any A l.length cap l w hS hx
  have c2 := fun W (h : Below w.heap.size w W) => byName_any A l.length cap l W hS (hx.go h)
  have HSZ := Lib.hid hs
  have HIS := Lib.hid (fndM_is (l := l) (k := l.length) (s := s))
  have HAT := Lib.hid (fun h => fndM_at (l := l) (k := l.length) (s := s) h)
  rcases nm_cases l s with ⟨h0, h1, h2, h3⟩ | ⟨h0, h1, h2, h3⟩ | ⟨h0, h2, h3⟩
  · rw [h2, h3]
    rw [h0] at c1
    have hm : fndM l l.length s = some (fnd l s : Int) := HAT.out h1
    have HM := Lib.hid hm
    generalize fnd l s = F at *
    have C1 := Lib.hid c1
    have C2 := Lib.hid c2
    clear c1 c2 hx h0 h1 h2 h3 hm HAT HIS
    go_enter Tryz.func39, Tryz.ntmps39
    go_wp2_with fail
    refine C1.out.mono ?_
    rintro e w1 ⟨rfl, hb⟩
    have hB_w1 : Below w.heap.size w w1 := (by repeat (first | exact Below.refl _ _ | assumption | refine Below.setCell ?_ (by first | (simp; done) | (simp; omega) | omega) _ | refine Below.drew ?_ | refine below_drewN ?_ _ | refine Below.alloc ?_ (by first | (simp; done) | (simp; omega) | omega) _ | refine below_alloc ?_ _ | refine below_step ?_ (by assumption))); have hz_w1 := hB_w1.size; clear hb
    go_wp2_with fail
    refine (C2.out _ hB_w1).mono ?_
    rintro e w2 ⟨⟨nb, rfl, -, hM2⟩, hb⟩
    have HM2 := Lib.hid hM2
    clear hM2
    have hB_w2 : Below w.heap.size w w2 := (by repeat (first | exact Below.refl _ _ | assumption | refine Below.setCell ?_ (by first | (simp; done) | (simp; omega) | omega) _ | refine Below.drew ?_ | refine below_drewN ?_ _ | refine Below.alloc ?_ (by first | (simp; done) | (simp; omega) | omega) _ | refine below_alloc ?_ _ | refine below_step ?_ (by assumption))); have hz_w2 := hB_w2.size; clear hb hB_w1
    go_wp2_with (at_lookup; refine wpList_mapv_int_ok rfl (.tmp 16) (.tmp 17) 72 rfl lawS Tryz.underlying72 Tryz.underlying3 (zeroIn _) rfl HM2.out s _ rfl (keyS HSZ.out) ?_; rw [HM.out])
    go_ret2
    exact ⟨rfl, (by repeat (first | exact Below.refl _ _ | assumption | refine Below.setCell ?_ (by first | (simp; done) | (simp; omega) | omega) _ | refine Below.drew ?_ | refine below_drewN ?_ _ | refine Below.alloc ?_ (by first | (simp; done) | (simp; omega) | omega) _ | refine below_alloc ?_ _ | refine below_step ?_ (by assumption)))⟩
  · rw [h2, h3]
    rw [h0] at c1
    have hm : fndM l l.length s = none := by unfold fndM; rw [if_neg h1]
    have HM := Lib.hid hm
    have C1 := Lib.hid c1
    have C2 := Lib.hid c2
    clear c1 c2 hx h0 h1 h2 h3 hm HAT HIS
    go_enter Tryz.func39, Tryz.ntmps39
    go_wp2_with fail
    refine C1.out.mono ?_
    rintro e w1 ⟨rfl, hb⟩
    have hB_w1 : Below w.heap.size w w1 := (by repeat (first | exact Below.refl _ _ | assumption | refine Below.setCell ?_ (by first | (simp; done) | (simp; omega) | omega) _ | refine Below.drew ?_ | refine below_drewN ?_ _ | refine Below.alloc ?_ (by first | (simp; done) | (simp; omega) | omega) _ | refine below_alloc ?_ _ | refine below_step ?_ (by assumption))); have hz_w1 := hB_w1.size; clear hb
    go_wp2_with fail
    refine (C2.out _ hB_w1).mono ?_
    rintro e w2 ⟨⟨nb, rfl, -, hM2⟩, hb⟩
    have HM2 := Lib.hid hM2
    clear hM2
    have hB_w2 : Below w.heap.size w w2 := (by repeat (first | exact Below.refl _ _ | assumption | refine Below.setCell ?_ (by first | (simp; done) | (simp; omega) | omega) _ | refine Below.drew ?_ | refine below_drewN ?_ _ | refine Below.alloc ?_ (by first | (simp; done) | (simp; omega) | omega) _ | refine below_alloc ?_ _ | refine below_step ?_ (by assumption))); have hz_w2 := hB_w2.size; clear hb hB_w1
    go_wp2_with (at_lookup; refine wpList_mapv_int_ok rfl (.tmp 16) (.tmp 17) 72 rfl lawS Tryz.underlying72 Tryz.underlying3 (zeroIn _) rfl HM2.out s _ rfl (keyS HSZ.out) ?_; rw [HM.out])
    go_ret2
    exact ⟨rfl, (by repeat (first | exact Below.refl _ _ | assumption | refine Below.setCell ?_ (by first | (simp; done) | (simp; omega) | omega) _ | refine Below.drew ?_ | refine below_drewN ?_ _ | refine Below.alloc ?_ (by first | (simp; done) | (simp; omega) | omega) _ | refine below_alloc ?_ _ | refine below_step ?_ (by assumption)))⟩
  · rw [h2, h3]
    have hne : (checkE l == 0) = false := by simpa using h0
    generalize checkE l = E at *
    have C1 := Lib.hid c1
    clear c1 c2 hx h0 h2 h3 HAT HIS
    go_enter Tryz.func39, Tryz.ntmps39
    go_wp2_with fail
    refine C1.out.mono ?_
    rintro e w1 ⟨rfl, hb⟩
    have hB_w1 : Below w.heap.size w w1 := (by repeat (first | exact Below.refl _ _ | assumption | refine Below.setCell ?_ (by first | (simp; done) | (simp; omega) | omega) _ | refine Below.drew ?_ | refine below_drewN ?_ _ | refine Below.alloc ?_ (by first | (simp; done) | (simp; omega) | omega) _ | refine below_alloc ?_ _ | refine below_step ?_ (by assumption))); have hz_w1 := hB_w1.size; clear hb
    go_wp2
    go_ret2
    exact ⟨rfl, (by repeat (first | exact Below.refl _ _ | assumption | refine Below.setCell ?_ (by first | (simp; done) | (simp; omega) | omega) _ | refine Below.drew ?_ | refine below_drewN ?_ _ | refine Below.alloc ?_ (by first | (simp; done) | (simp; omega) | omega) _ | refine below_alloc ?_ _ | refine below_step ?_ (by assumption)))⟩
def slkV (l : List Tk) (s : ByteArray) : Int := if nmE l s = 0 then slk l (fnd l s) else 0
set_option maxRecDepth 20000 in
set_option maxHeartbeats 16000000 in
theorem Slack_any (A : Option Addr) (len cap : Nat) (l : List Tk) (s : ByteArray) (w : World) (hS : Sml l) (hs : s.size ≤ 9223372036854775807) (hx : Plan w w.heap.size A len l) :
    Calls Tryz.prog 14 #[.slice A len cap, .string s] w fun e w' => e = .returned (.tuple #[.int .i64 (slkV l s), .int .i64 (nmE l s)]) ∧ Below w.heap.size w w' := by
  obtain rfl : l.length = len := hx.1
  have c1 := named_any A l.length cap l s w hS hs hx
  by_cases h0 : nmE l s = 0
  · have hv : slkV l s = slk l (fnd l s) := if_pos h0
    have hn : nmV l s = (fnd l s : Int) := by unfold nmV; rw [if_pos h0]
    have hc : checkE l = 0 ∧ fnd l s < l.length := by
      rcases nm_cases l s with ⟨a, b, -⟩ | ⟨-, -, a, -⟩ | ⟨a, b, -⟩
      · exact ⟨a, b⟩
      · rw [h0] at a; cases a
      · rw [h0] at b; exact absurd b.symm a
    have hP := check_spec hc.1
    have c3 := fun W (h : Below w.heap.size w W) => earliest_any A l.length cap l W hS hP (hx.go h)
    have c4 := fun W (h : Below w.heap.size w W) => latest_any A l.length cap l W hS hP (hx.go h)
    have hse : slk l (fnd l s) = gI (latP l) (fnd l s) - gI (ear l) (fnd l s) := rfl
    rw [hn, h0] at c1
    rw [hv, h0]
    have hF := hc.2
    have hb1 := ear_bd hP (fnd l s)
    have hb2 := latK_bd hP (ord l).length
    rw [latK_end (Nat.le_refl _)] at hb2
    have hb3 := hb2 (fnd l s)
    have hol := hP.all
    have hl := hP.len
    have hF1 : ((fnd l s : Nat) : Int) < l.length := by omega
    have hF2 : ¬ l.length ≤ fnd l s := by omega
    generalize slk l (fnd l s) = V at *
    generalize fnd l s = F at *
    change ∀ W (h : Below w.heap.size w W), _ at c3
    have hge : gI (ear l) F = (ear l)[F]?.getD 0 := rfl
    have hgl : gI (latP l) F = (latP l)[F]?.getD 0 := rfl
    rw [hge, hgl] at hse
    rw [hge] at hb1
    rw [hgl] at hb3
    have hwr : wrap64 ((latP l)[F]?.getD 0 - (ear l)[F]?.getD 0) = (latP l)[F]?.getD 0 - (ear l)[F]?.getD 0 := IntWalk.wrap64_in _ ⟨by omega, by omega⟩
    have HV := Lib.hid hse
    have HF := Lib.hid hF
    have C1 := Lib.hid c1
    have C3 := Lib.hid c3
    have C4 := Lib.hid c4
    clear c1 c3 c4 hx h0 hv hn hc hse hF hb1 hb2 hb3 hge hgl hS hP hol
    go_enter Tryz.func14, Tryz.ntmps14
    go_wp2_with fail
    refine C1.out.mono ?_
    rintro e W1 ⟨rfl, hb⟩
    have HB1 := Lib.hid hb
    clear hb
    go_wp2_with fail
    refine wp_region_mix (by kernel_rfl) (by kernel_rfl) ?_
    refine wpC_take (f := 9) (by kernel_rfl) (by kernel_rfl) ⟨⟨_, (Below.refl _ _).drew⟩, rfl⟩ [0, 2, 5, 7] _ _ (by kernel_rfl) ?_
    simp only [List.map_cons, List.map_nil, List.getElem?_toArray, List.getElem?_cons_succ, List.getElem?_cons_zero, Option.getD_some]
    repeat (go_big_quiet_step (fail))
    refine wpQuiet_nil ?_
    have hB : Below W1.heap.size W1 W1.drew := (Below.refl _ _).drew
    refine wpC_all (rs := [1]) (by kernel_rfl) (by decide) ?_
    intro i hi
    simp only [List.mem_cons, List.not_mem_nil, or_false] at hi
    subst hi
    refine ⟨_, rfl, ?_⟩
    go_simp
    refine (C4.out _ (HB1.out.trans (hB.mono HB1.out.size))).mono ?_
    rintro e WW0 ⟨⟨v9, rfl, ho9⟩, hb9⟩
    obtain ⟨A1, k1, rfl, _, _, hL, hg9⟩ := own_ints ho9
    obtain ⟨b1, off1, e1, _, d1⟩ := hL.at_ F HF.out
    subst e1
    clear d1
    replace hB := below_step hB hb9
    clear hb9 ho9 hg9
    refine ⟨⟨⟨_, hB⟩, rfl⟩, ?_⟩
    go_simp
    refine wpC_take (f := 7) (by kernel_rfl) (by kernel_rfl) ⟨⟨_, hB⟩, rfl⟩ [3] _ _ (by kernel_rfl) ?_
    simp only [List.map_cons, List.map_nil, List.getElem?_toArray, List.getElem?_cons_succ, List.getElem?_cons_zero, Option.getD_some]
    repeat (go_big_quiet_step (fail))
    refine wpQuiet_nil ?_
    refine wpC_all (rs := [4, 6]) (by kernel_rfl) (by decide) ?_
    intro i hi
    simp only [List.mem_cons, List.not_mem_nil, or_false] at hi
    rcases hi with rfl | rfl
    · obtain ⟨b9, off9, e9, _, d9⟩ := hL.at_ F HF.out
      injection e9 with e9
      injection e9 with q1 q2
      subst q1 q2
      refine ⟨_, rfl, ?_⟩
      go_simp
      obtain ⟨WW1, hWk⟩ : ∃ q, q = WW0 := ⟨_, rfl⟩
      rw [← hWk] at hB hL ⊢
      clear d9 hWk
      refine ⟨⟨⟨_, hB⟩, rfl⟩, ?_⟩
      refine wpC_all (rs := [6]) (by kernel_rfl) (by decide) ?_
      intro i hi
      simp only [List.mem_cons, List.not_mem_nil, or_false] at hi
      subst hi
      refine ⟨_, rfl, ?_⟩
      go_simp
      refine (C3.out _ (HB1.out.trans (hB.mono HB1.out.size))).mono ?_
      rintro e WW2 ⟨⟨v9, rfl, ho9⟩, hb9⟩
      obtain ⟨A2, k2, rfl, _, _, hE, hg9⟩ := own_ints ho9
      obtain ⟨b6, off6, e6, _, d6⟩ := hE.at_ F HF.out
      subst e6
      clear d6
      replace hB := below_step hB hb9
      replace hL := (hL.below hb9).more hb9.size
      clear hb9 ho9 hg9
      refine ⟨⟨⟨_, hB⟩, rfl⟩, ?_⟩
      go_simp
      refine wpC_take (f := 4) (by kernel_rfl) (by kernel_rfl) ⟨⟨_, hB⟩, rfl⟩ [8] _ _ (by kernel_rfl) ?_
      simp only [List.map_cons, List.map_nil, List.getElem?_toArray, List.getElem?_cons_succ, List.getElem?_cons_zero, Option.getD_some]
      repeat (go_big_quiet_step (fail))
      refine wpQuiet_nil ?_
      refine wpC_all (rs := [9]) (by kernel_rfl) (by decide) ?_
      intro i hi
      simp only [List.mem_cons, List.not_mem_nil, or_false] at hi
      subst hi
      obtain ⟨b9, off9, e9, _, d9⟩ := hE.at_ F HF.out
      injection e9 with e9
      injection e9 with q1 q2
      subst q1 q2
      refine ⟨_, rfl, ?_⟩
      go_simp
      obtain ⟨WW3, hWk⟩ : ∃ q, q = WW2 := ⟨_, rfl⟩
      rw [← hWk] at hB hL hE ⊢
      clear d9 hWk
      refine ⟨⟨⟨_, hB⟩, rfl⟩, ?_⟩
      refine wpC_take (f := 0) (by kernel_rfl) (by kernel_rfl) ⟨⟨_, hB⟩, rfl⟩ [10, 11, 12] _ _ (by kernel_rfl) ?_
      simp only [List.map_cons, List.map_nil, List.getElem?_toArray, List.getElem?_cons_succ, List.getElem?_cons_zero, Option.getD_some]
      repeat (go_big_quiet_step (fail))
      refine wpQuiet_nil ?_
      refine wpC_done (by kernel_rfl) ?_
      have HFIN := Lib.hid (HB1.out.trans (hB.mono HB1.out.size))
      clear hB hE hL
      go_wp2
      go_ret2
      first | exact ⟨ret1 (by rw [HV.out]; rfl), HFIN.out⟩ | exact ⟨ret1 (by rw [← HV.out]), HFIN.out⟩
    · refine ⟨_, rfl, ?_⟩
      go_simp
      refine (C3.out _ (HB1.out.trans (hB.mono HB1.out.size))).mono ?_
      rintro e WW1 ⟨⟨v9, rfl, ho9⟩, hb9⟩
      obtain ⟨A2, k2, rfl, _, _, hE, hg9⟩ := own_ints ho9
      obtain ⟨b6, off6, e6, _, d6⟩ := hE.at_ F HF.out
      subst e6
      clear d6
      replace hB := below_step hB hb9
      replace hL := (hL.below hb9).more hb9.size
      clear hb9 ho9 hg9
      refine ⟨⟨⟨_, hB⟩, rfl⟩, ?_⟩
      go_simp
      refine wpC_take (f := 5) (by kernel_rfl) (by kernel_rfl) ⟨⟨_, hB⟩, rfl⟩ [8] _ _ (by kernel_rfl) ?_
      simp only [List.map_cons, List.map_nil, List.getElem?_toArray, List.getElem?_cons_succ, List.getElem?_cons_zero, Option.getD_some]
      repeat (go_big_quiet_step (fail))
      refine wpQuiet_nil ?_
      refine wpC_all (rs := [4, 9]) (by kernel_rfl) (by decide) ?_
      intro i hi
      simp only [List.mem_cons, List.not_mem_nil, or_false] at hi
      rcases hi with rfl | rfl
      · obtain ⟨b9, off9, e9, _, d9⟩ := hL.at_ F HF.out
        injection e9 with e9
        injection e9 with q1 q2
        subst q1 q2
        refine ⟨_, rfl, ?_⟩
        go_simp
        obtain ⟨WW2, hWk⟩ : ∃ q, q = WW1 := ⟨_, rfl⟩
        rw [← hWk] at hB hL hE ⊢
        clear d9 hWk
        refine ⟨⟨⟨_, hB⟩, rfl⟩, ?_⟩
        refine wpC_all (rs := [9]) (by kernel_rfl) (by decide) ?_
        intro i hi
        simp only [List.mem_cons, List.not_mem_nil, or_false] at hi
        subst hi
        obtain ⟨b9, off9, e9, _, d9⟩ := hE.at_ F HF.out
        injection e9 with e9
        injection e9 with q1 q2
        subst q1 q2
        refine ⟨_, rfl, ?_⟩
        go_simp
        obtain ⟨WW3, hWk⟩ : ∃ q, q = WW2 := ⟨_, rfl⟩
        rw [← hWk] at hB hL hE ⊢
        clear d9 hWk
        refine ⟨⟨⟨_, hB⟩, rfl⟩, ?_⟩
        refine wpC_take (f := 0) (by kernel_rfl) (by kernel_rfl) ⟨⟨_, hB⟩, rfl⟩ [10, 11, 12] _ _ (by kernel_rfl) ?_
        simp only [List.map_cons, List.map_nil, List.getElem?_toArray, List.getElem?_cons_succ, List.getElem?_cons_zero, Option.getD_some]
        repeat (go_big_quiet_step (fail))
        refine wpQuiet_nil ?_
        refine wpC_done (by kernel_rfl) ?_
        have HFIN := Lib.hid (HB1.out.trans (hB.mono HB1.out.size))
        clear hB hE hL
        go_wp2
        go_ret2
        first | exact ⟨ret1 (by rw [HV.out]; rfl), HFIN.out⟩ | exact ⟨ret1 (by rw [← HV.out]), HFIN.out⟩
      · obtain ⟨b9, off9, e9, _, d9⟩ := hE.at_ F HF.out
        injection e9 with e9
        injection e9 with q1 q2
        subst q1 q2
        refine ⟨_, rfl, ?_⟩
        go_simp
        obtain ⟨WW2, hWk⟩ : ∃ q, q = WW1 := ⟨_, rfl⟩
        rw [← hWk] at hB hL hE ⊢
        clear d9 hWk
        refine ⟨⟨⟨_, hB⟩, rfl⟩, ?_⟩
        refine wpC_all (rs := [4]) (by kernel_rfl) (by decide) ?_
        intro i hi
        simp only [List.mem_cons, List.not_mem_nil, or_false] at hi
        subst hi
        obtain ⟨b9, off9, e9, _, d9⟩ := hL.at_ F HF.out
        injection e9 with e9
        injection e9 with q1 q2
        subst q1 q2
        refine ⟨_, rfl, ?_⟩
        go_simp
        obtain ⟨WW3, hWk⟩ : ∃ q, q = WW2 := ⟨_, rfl⟩
        rw [← hWk] at hB hL hE ⊢
        clear d9 hWk
        refine ⟨⟨⟨_, hB⟩, rfl⟩, ?_⟩
        refine wpC_take (f := 0) (by kernel_rfl) (by kernel_rfl) ⟨⟨_, hB⟩, rfl⟩ [10, 11, 12] _ _ (by kernel_rfl) ?_
        simp only [List.map_cons, List.map_nil, List.getElem?_toArray, List.getElem?_cons_succ, List.getElem?_cons_zero, Option.getD_some]
        repeat (go_big_quiet_step (fail))
        refine wpQuiet_nil ?_
        refine wpC_done (by kernel_rfl) ?_
        have HFIN := Lib.hid (HB1.out.trans (hB.mono HB1.out.size))
        clear hB hE hL
        go_wp2
        go_ret2
        first | exact ⟨ret1 (by rw [HV.out]; rfl), HFIN.out⟩ | exact ⟨ret1 (by rw [← HV.out]), HFIN.out⟩
  · have hv : slkV l s = 0 := if_neg h0
    rw [hv]
    have hne : (nmE l s == 0) = false := by simpa using h0
    generalize nmE l s = E at *
    have C1 := Lib.hid c1
    clear c1 hx h0 hv
    go_enter Tryz.func14, Tryz.ntmps14
    go_wp2_with fail
    refine C1.out.mono ?_
    rintro e w1 ⟨rfl, hb⟩
    have hB_w1 : Below w.heap.size w w1 := (by repeat (first | exact Below.refl _ _ | assumption | refine Below.setCell ?_ (by first | (simp; done) | (simp; omega) | omega) _ | refine Below.drew ?_ | refine below_drewN ?_ _ | refine Below.alloc ?_ (by first | (simp; done) | (simp; omega) | omega) _ | refine below_alloc ?_ _ | refine below_step ?_ (by assumption))); have hz_w1 := hB_w1.size; clear hb
    go_wp2
    go_ret2
    exact ⟨rfl, (by repeat (first | exact Below.refl _ _ | assumption | refine Below.setCell ?_ (by first | (simp; done) | (simp; omega) | omega) _ | refine Below.drew ?_ | refine below_drewN ?_ _ | refine Below.alloc ?_ (by first | (simp; done) | (simp; omega) | omega) _ | refine below_alloc ?_ _ | refine below_step ?_ (by assumption)))⟩
end Go.Proofs.YtmionebfepkolaaGreatDoor
