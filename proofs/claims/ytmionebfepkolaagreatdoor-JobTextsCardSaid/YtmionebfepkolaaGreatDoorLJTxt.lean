/- JobTexts: the walk of the statement. -/
import Derived.Test.YtmionebfepkolaaGreatDoorJtR
import Derived.Test.YtmionebfepkolaaGreatDoorJtP
import Derived.Test.YtmionebfepkolaaGreatDoorYJh
import Derived.Test.YtmionebfepkolaaGreatDoorJobSm
import Derived.Test.YtmionebfepkolaaGreatDoorYJf
set_option linter.unusedSimpArgs false
set_option linter.unusedVariables false
namespace Go.Proofs.YtmionebfepkolaaGreatDoor
open Go.RowKit
attribute [local go_sem] Later.cell

theorem runJ_err : ∀ (ws : List (List UInt8)) (k : Nat) (L : List Tk), (runJ ws k L).2.2 ≠ 0 → (runJ ws k L).1 = [] := by
  intro ws
  induction ws with
  | nil => intro k L _; rfl
  | cons y r ih =>
    intro k L h
    cases r with
    | nil =>
      by_cases hk : k ≠ 0 ∧ y = []
      · obtain ⟨hk, rfl⟩ := hk
        rw [runJ_end hk] at h ⊢
        unfold finJ at h ⊢
        by_cases hc : checkE L = 0
        · rw [if_pos hc] at h; exact absurd rfl h
        · rw [if_neg hc]
      · rw [runJ_last hk]
    | cons z r =>
      by_cases hl : lineOk y = true
      · rw [runJ_yes (by simp) hl] at h ⊢
        exact ih _ _ h
      · rw [runJ_no (by simpa using hl) (.inl (by simp))]
theorem rpJ_sml (b : List UInt8) : Sml (rpJ b).1 := by
  by_cases h : (rpJ b).2.2 = 0
  · obtain ⟨L, h1, h2, -⟩ := rpJ_back h
    rw [h1]
    exact sml_okP (check_spec h2)
  · rw [show (rpJ b).1 = [] from runJ_err _ _ _ h]
    exact ⟨by simp, fun i hi => absurd hi (by simp), fun i hi => absurd hi (by simp), fun i hi => absurd hi (by simp)⟩
/-- What a Parse hands back, as a plan. -/
def PlanR (P : List Tk × Nat × Int) (w : World) (e : Ending) (w' : World) : Prop := (∃ A cap, e = .returned (.tuple #[.slice A P.1.length cap, .int .i64 (P.2.1 : Nat), .int .i64 P.2.2]) ∧ Plan w' w'.heap.size A P.1.length P.1) ∧ Below w.heap.size w w'
theorem planR_of {P : List Tk × Nat × Int} {w w' : World} {e : Ending} (h : (∃ v xs, e = .returned (.tuple #[v, .int .i64 (P.2.1 : Nat), .int .i64 P.2.2]) ∧ xs.map (·.2) = P.1 ∧ OPv w' w.heap.size v P.1.length xs) ∧ Below w.heap.size w w') : PlanR P w e w' := by
  obtain ⟨⟨v, xs, rfl, hx, hO⟩, hb⟩ := h
  obtain ⟨A, cap, rfl, -, -⟩ := opv_slice hO
  refine ⟨⟨A, cap, rfl, ?_⟩, hb⟩
  have := opv_plan hO
  rwa [hx] at this
theorem bnilj {y : List UInt8} (h : y ≠ []) : y.isEmpty = false := by
  cases y with
  | nil => exact absurd rfl h
  | cons c r => rfl
set_option maxRecDepth 20000 in
set_option maxHeartbeats 16000000 in
theorem texts_walk (A : Option Addr) (len cap : Nat) (xs : List TkR) (b : List UInt8) (w : World) (hlc : len ≤ cap ∧ cap ≤ 9223372036854775807) (hP : Rows 4 tk4 dTR w w.heap.size A len xs) (hg : ∀ x ∈ xs, gTk w x) (htab : TabA w) :
    Calls Tryz.prog 3 #[.slice A len cap, .string ⟨b.toArray⟩] w fun e w' => e = .returned (.bool true) ∧ Below w.heap.size w w' := by
  have hx := plan_in hP hg
  obtain ⟨l, hl⟩ : ∃ l, l = xs.map (·.2) := ⟨_, rfl⟩
  rw [← hl] at hx
  have hSm : l.length ≤ 1000 → (∀ i, i < l.length → (tkA l i).af.length ≤ 1000) → Sml l := fun a b => by rw [hl] at a b ⊢; exact sml_in hg a b
  clear hP hg hl
  obtain rfl : l.length = len := hx.1
  have hbz : (⟨b.toArray⟩ : ByteArray).size = b.length := rfl
  have C0 := Lib.hid (fun W => awake9_any W)
  have CM := Lib.hid (fun W (h : Below w.heap.size w W) => many_any A l.length cap l W (by omega) (hx.go h))
  have HB0 := Lib.hid (Below.refl w.heap.size w)
  have HX := Lib.hid hx
  have HSM := Lib.hid hSm
  have HT := Lib.hid htab
  clear hx hSm htab
  go_enter Tryz.func3, Tryz.ntmps3
  go_wp2_with fail
  refine (C0.out _).mono ?_
  rintro e w1 ⟨rfl, hb1⟩
  have HB1 := Lib.hid (HB0.out.trans (hb1.mono HB0.out.size))
  clear hb1
  go_wp2_with fail
  refine (CM.out _ HB1.out).mono ?_
  rintro e w1001 ⟨⟨bb, rfl, hmb⟩, rfl⟩
  cases bb
  case true =>
    clear hmb
    go_wp2
    go_ret
    exact ⟨rfl, HB1.out⟩
  by_cases h20 : 2000 < b.length
  · have h21 : (2000 : Int) < b.length := by omega
    clear hmb
    go_wp2
    go_ret
    exact ⟨rfl, HB1.out⟩
  have h21 : ¬ (2000 : Int) < b.length := by omega
  have h22 : decide ((2000 : Int) < b.length) = false := decide_eq_false h21
  obtain ⟨m1, m2, m3⟩ := hmb rfl
  have hS := HSM.out (by omega) (fun i hi => by have := m1 i hi; omega)
  have hsb := rpJ_sml b
  have C1 := Lib.hid (fun W (h : Below w.heap.size w W) => Format_any A l.length cap l W (HT.out.below h).tab hS (HX.out.go h))
  have C2 := Lib.hid (fun W (h : Below w.heap.size w W) => (Parse_any b W (HT.out.below h) (by omega) (fun L hL => hL.sml (by omega))).mono fun _ _ h => planR_of h)
  have C3 := Lib.hid (fun W => (rParse_any b W (by omega) (fun L hL => hL.sml (by omega))).mono fun _ _ h => planR_of h)
  have C4 := Lib.hid (fun W (h : Below w.heap.size w W) => rFormat_any A l.length cap l W hS (HX.out.go h))
  have C5 := Lib.hid (fun W (h : Below w.heap.size w W) => rCheck_any A l.length cap l W hS (HX.out.go h))
  have HSL := Lib.hid hS
  have HSB := Lib.hid hsb
  have HQ := Lib.hid (rpJ_back (b := b))
  have HF := Lib.hid (rpJ_fmt (l := l))
  have HFN := Lib.hid (fmtP_no (l := l))
  have HFL := Lib.hid (fmtP_le l)
  have HL1 : Hid (l.length ≤ 1000) := Lib.hid (by omega)
  have HL2 := Lib.hid (fun i (hi : i < l.length) => (show (tkA l i).af.length ≤ 1000 by have := m1 i hi; omega))
  have C7 := Lib.hid (fun (h0 : checkE l = 0) W (h : Below w.heap.size w W) => (Parse_any (fmtP l) W (HT.out.below h) (by have := fmtP_le l; omega) (fun L hL => by rw [fmt_all h0 hL]; exact hS)).mono fun _ _ h => planR_of h)
  clear hmb m1 m2 m3 hS hsb HSM
  generalize rpJ b = P at *
  obtain ⟨V, K, E⟩ := P
  dsimp only [PlanR] at *
  generalize hFl : fmtP l = F at *
  go_wp2_with fail
  refine (C1.out _ HB1.out).mono ?_
  rintro e w2 ⟨rfl, hb⟩
  have HB2 := Lib.hid (below_step HB1.out hb)
  clear hb C1 C0 CM
  go_wp2_with fail
  refine (C2.out _ HB2.out).mono ?_
  rintro e w3 ⟨⟨A3, k3, rfl, hp3⟩, hb⟩
  have HB3 := Lib.hid (below_step HB2.out hb)
  have HP3 := Lib.hid hp3
  clear hb hp3 C2
  go_wp2_with fail
  refine (C3.out _).mono ?_
  rintro e w4 ⟨⟨A4, k4, rfl, hp4⟩, hb⟩
  have HB4 := Lib.hid (below_step HB3.out hb)
  have HP3b := Lib.hid (HP3.out.go hb)
  have HP4 := Lib.hid hp4
  clear hb hp4 C3 HP3
  go_wp2_with fail
  refine (C4.out _ HB4.out).mono ?_
  rintro e w5 ⟨rfl, hb⟩
  have HB5 := Lib.hid (below_step HB4.out hb)
  have HP5 := Lib.hid (HP3b.out.go hb)
  have CS := Lib.hid (Same_any A3 V.length k3 V A4 k4 w5 HSB.out.len HSB.out.af (HP3b.out.go hb) (HP4.out.go hb))
  clear hb C4 HP3b HP4
  go_wp2_with fail
  refine CS.out.mono ?_
  rintro e w6 ⟨rfl, hb⟩
  have HB6 := Lib.hid (below_step HB5.out hb)
  have HP6 := Lib.hid (HP5.out.go hb)
  clear hb CS HP5
  by_cases hE : E = 0
  · obtain ⟨L', hL1, -, hL3⟩ := HQ.out hE
    cases hL1
    have CF := Lib.hid (Format_any A3 V.length k3 V w6 (HT.out.below HB6.out).tab HSB.out HP6.out)
    rw [hL3] at CF
    clear hL3 HQ hE
    go_wp2_with fail
    refine CF.out.mono ?_
    rintro e w7 ⟨rfl, hb⟩
    have HB7 := Lib.hid (below_step HB6.out hb)
    clear hb CF HP6
    go_wp2_with fail
    refine (C5.out _ HB7.out).mono ?_
    rintro e w8 ⟨rfl, hb⟩
    have HB8 := Lib.hid (below_step HB7.out hb)
    clear hb C5
    by_cases hc : checkE l = 0
    · have r1 := HF.out hc
      have c7 := C7.out hc _ HB8.out
      rw [r1] at c7
      rw [hc]
      dsimp only at c7
      have C8 := Lib.hid c7
      clear c7 C7 r1 hc HF HFN
      go_wp2_with fail
      refine C8.out.mono ?_
      rintro e w9 ⟨⟨A9, k9, rfl, hp9⟩, hb⟩
      have HB9 := Lib.hid (below_step HB8.out hb)
      have CS := Lib.hid (Same_any A9 l.length k9 l A cap w9 HL1.out HL2.out hp9 (HX.out.go HB9.out))
      clear hb hp9 C8
      go_wp2_with fail
      refine CS.out.mono ?_
      rintro e w10 ⟨rfl, hb⟩
      have HB10 := Lib.hid (below_step HB9.out hb)
      clear hb CS
      go_wp2
      go_ret
      exact ⟨rfl, HB10.out⟩
    · have hF0 := HFN.out hc
      have hcb : (checkE l == 0) = false := beq_eq_false_iff_ne.2 hc
      subst hF0
      clear C7 HF HFN
      generalize checkE l = CE at *
      go_wp2
      go_ret
      exact ⟨rfl, HB8.out⟩
  · have hEb : (E == 0) = false := by rw [beq_eq_false_iff_ne]; exact hE
    have HB7 := Lib.hid HB6.out
    clear HQ HP6
    go_wp2_with fail
    refine (C5.out _ HB7.out).mono ?_
    rintro e w8 ⟨rfl, hb⟩
    have HB8 := Lib.hid (below_step HB7.out hb)
    clear hb C5
    by_cases hc : checkE l = 0
    · have r1 := HF.out hc
      have c7 := C7.out hc _ HB8.out
      rw [r1] at c7
      rw [hc]
      dsimp only at c7
      have C8 := Lib.hid c7
      clear c7 C7 r1 hc HF HFN
      go_wp2_with fail
      refine C8.out.mono ?_
      rintro e w9 ⟨⟨A9, k9, rfl, hp9⟩, hb⟩
      have HB9 := Lib.hid (below_step HB8.out hb)
      have CS := Lib.hid (Same_any A9 l.length k9 l A cap w9 HL1.out HL2.out hp9 (HX.out.go HB9.out))
      clear hb hp9 C8
      go_wp2_with fail
      refine CS.out.mono ?_
      rintro e w10 ⟨rfl, hb⟩
      have HB10 := Lib.hid (below_step HB9.out hb)
      clear hb CS
      go_wp2
      go_ret
      exact ⟨rfl, HB10.out⟩
    · have hF0 := HFN.out hc
      have hcb : (checkE l == 0) = false := beq_eq_false_iff_ne.2 hc
      subst hF0
      clear C7 HF HFN
      generalize checkE l = CE at *
      go_wp2
      go_ret
      exact ⟨rfl, HB8.out⟩
theorem texts_row (A : Option Addr) (len cap : Nat) (xs : List TkR) (s : ByteArray) (w : World) (hlc : len ≤ cap ∧ cap ≤ 9223372036854775807) (hP : Rows 4 tk4 dTR w w.heap.size A len xs) (hg : ∀ x ∈ xs, gTk w x) (hsz : s.size ≤ 9223372036854775807) (htab : TabA w) :
    Calls Tryz.prog 3 #[.slice A len cap, .string s] w fun e w' => e = .returned (.bool true) ∧ Below w.heap.size w w' := by
  have := texts_walk A len cap xs (lsj s) w hlc hP hg htab
  rwa [show (⟨(lsj s).toArray⟩ : ByteArray) = s from bsj_lsj s] at this
end Go.Proofs.YtmionebfepkolaaGreatDoor
