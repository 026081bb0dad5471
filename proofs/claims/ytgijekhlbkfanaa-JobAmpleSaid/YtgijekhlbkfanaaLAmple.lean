/- JobAmple: the law's walk. -/
import Derived.Test.YtgijekhlbkfanaaJobA4
import Derived.Test.YtgijekhlbkfanaaJobA5
import Derived.Test.YtgijekhlbkfanaaJobZ
import Derived.Test.YtgijekhlbkfanaaJobN
set_option linter.unusedSimpArgs false
set_option linter.unusedVariables false
namespace Go.Proofs.Ytgijekhlbkfanaa
open Go.RowKit
attribute [local go_sem] Later.cell Same.cell

set_option maxRecDepth 20000 in
set_option maxHeartbeats 32000000 in
theorem ample_walk (A : Option Addr) (len cap : Nat) (xs : List TkR) (w : World) (hlc : len ≤ cap ∧ cap ≤ 9223372036854775807) (hP : Rows 4 tk4 dTR w w.heap.size A len xs) (hg : ∀ x ∈ xs, gTk w x) :
    Calls Try.prog 8 #[.slice A len cap] w fun e w' => e = .returned (.bool true) ∧ Below w.heap.size w w' := by
  have hx := plan_in hP hg
  obtain ⟨l, hl⟩ : ∃ l, l = xs.map (·.2) := ⟨_, rfl⟩
  rw [← hl] at hx
  have hSm : l.length ≤ 1000 → (∀ i, i < l.length → (tkA l i).af.length ≤ 1000) → Sml l := fun a b => by rw [hl] at a b ⊢; exact sml_in hg a b
  clear hP hg hl
  obtain rfl : l.length = len := hx.1
  have c0 := fun W => awake9_any W
  have cm := fun W (h : Below w.heap.size w W) => many_any A l.length cap l W (by omega) (hx.go h)
  have C0 := Lib.hid c0
  have CM := Lib.hid cm
  have HB0 := Lib.hid (Below.refl w.heap.size w)
  have HX := Lib.hid hx
  have HSM := Lib.hid hSm
  clear c0 cm hx hSm
  go_enter Try.func8, Try.ntmps8
  go_wp2_with fail
  refine (C0.out _).mono ?_
  rintro e w1 ⟨rfl, hb1⟩
  have HB1 := Lib.hid (HB0.out.trans (hb1.mono HB0.out.size))
  clear hb1
  go_wp2_with fail
  refine (CM.out _ HB1.out).mono ?_
  rintro e w1001 ⟨⟨b, rfl, hmb⟩, rfl⟩
  cases b
  case true =>
    clear hmb
    go_wp2
    go_ret
    exact ⟨rfl, HB1.out⟩
  obtain ⟨m1, m2, m3⟩ := hmb rfl
  have hS := HSM.out (by omega) (fun i hi => by have := m1 i hi; omega)
  have c1 := fun W (h : Below w.heap.size w W) => long_any A l.length cap l W (by omega) (HX.out.go h)
  have c2 := fun W (h : Below w.heap.size w W) => Check_any A l.length cap l W hS (HX.out.go h)
  have C1 := Lib.hid c1
  have C2 := Lib.hid c2
  have HSS := Lib.hid hS
  clear c1 c2 hS m1 hmb HSM
  go_wp2_with fail
  refine (C1.out _ HB1.out).mono ?_
  rintro e w2 ⟨rfl, hb2⟩
  have HB2 := Lib.hid (HB1.out.trans (hb2.mono HB1.out.size))
  clear hb2
  cases hlg : decide (1500 < lngV l l.length)
  case true =>
    go_wp2_with fail
    go_ret
    exact ⟨rfl, HB2.out⟩
  clear hlg
  go_wp2_with fail
  refine (C2.out _ HB2.out).mono ?_
  rintro e w3 ⟨rfl, hb3⟩
  have HB3 := Lib.hid (HB2.out.trans (hb3.mono HB2.out.size))
  clear hb3
  by_cases hc0 : checkE l = 0
  case neg =>
    have hne : (checkE l == 0) = false := by simpa using hc0
    generalize checkE l = E at *
    go_wp2_with fail
    go_ret
    exact ⟨rfl, HB3.out⟩
  have hP := check_spec hc0
  have hn9 : l.length ≤ 9 := by have := hP.len; omega
  have hsm : ∀ k, k ≤ l.length → k ≤ sN (mnA l) k ∧ sN (mnA l) k ≤ 16 * k := fun k => by
    induction k with
    | zero => intro _; show (0 : Int) ≤ 0 ∧ (0 : Int) ≤ _; omega
    | succ k ih => intro hk; have h1 := ih (by omega); have h2 := mnA_bd hP (i := k) (by omega); show _ ≤ sN (mnA l) k + mnA l k ∧ sN (mnA l) k + mnA l k ≤ _; omega
  obtain ⟨M, hM⟩ : ∃ M, M = sN (mnA l) l.length := ⟨_, rfl⟩
  have hMb := hsm l.length (Nat.le_refl _)
  rw [← hM] at hMb
  have hp := hP.pos
  have hml : ∀ i, i < l.length → mnA l i ≤ M := fun i hi => by rw [hM]; exact sN_one (mnA l) hi fun k hk => by have := (mnA_bd hP hk).1; omega
  have hcr : M ≤ 100 → crewE l M = 0 := fun h => by
    unfold crewE
    rw [if_pos hc0, if_pos (wi_iff.2 (by omega)), if_neg (fun hh => by obtain ⟨i, hi, h2⟩ := many1_iff.1 hh; have := hml i hi; omega)]
  have c3 := fun (hM1 : M ≤ 100) W (h : Below w.heap.size w W) => listed_ok A l.length cap l M W HSS.out hn9 (hcr hM1) (HX.out.go h)
  rw [LST_ample hP (by rw [hM]; exact Int.le_refl _)] at c3
  rw [ear_len] at c3
  have hL := LST_is hP hml
  rw [LST_ample hP (by rw [hM]; exact Int.le_refl _)] at hL
  have htb := totD_bd hP
  have hdy : dysB (ear l) = true := dysB_yes fun k hk => by
    rw [ear_len] at hk
    have := hL.pos k hk
    exact wi_iff.2 (by omega)
  have hEE : endE l (ear l) = 0 := by
    unfold endE bgB
    rw [if_pos hc0, hdy, decide_eq_true (ear_len l)]; rfl
  have hEV : endV l (ear l) = lenV l := by unfold endV; rw [if_pos hEE]; rfl
  have c4 := fun A' cap' W (h : Below w.heap.size w W) (hy : Ints W W.heap.size A' l.length (ear l)) => Ends_any A l.length cap l A' l.length cap' (ear l) W HSS.out (by omega) (HX.out.go h) hy
  rw [hEE, hEV] at c4
  have c5 := fun W (h : Below w.heap.size w W) => Length_any A l.length cap l W HSS.out (HX.out.go h)
  rw [show lenE l = lenV l from if_pos hc0, hc0] at c5
  rw [hc0]
  have hlb := lenV_bd hP
  have hsn : ∀ k, sN (mnA l) (k + 1) = sN (mnA l) k + mnA l k := fun k => rfl
  generalize lenV l = L at *
  generalize ear l = E at *
  have C3 := Lib.hid c3
  have C4 := Lib.hid c4
  have C5 := Lib.hid c5
  have HSN := Lib.hid hsn
  have HSB := Lib.hid hsm
  have HM := Lib.hid hM
  have HMB := Lib.hid (fun k (hk : k < l.length) => mnA_bd hP hk)
  clear c3 c4 c5 hsn hsm hM hL htb hdy hEE hEV hcr hml hP hc0
  go_wp2_with fail
  go_loopw [3, 4] (fun v i W => ∃ k : Nat, k ≤ l.length ∧ i = .int .i64 (k : Int) ∧ v = .int .i64 (sN (mnA l) k) ∧ Below w.heap.size w W) (fun _ i _ => l.length - (intOf i).toNat)
  case atStart => exact ⟨0, Nat.zero_le _, rfl, rfl, HB3.out⟩
  case round =>
    obtain ⟨k, hk, rfl, rfl, hB⟩ := hrel
    by_cases hlt : k < l.length
    · obtain ⟨b, off, rfl, hb0, -, -, hc3, -⟩ := (HX.out.below hB).at_ k hlt
      have hk1 : (k : Int) < l.length := by omega
      have hk2 : ¬ l.length ≤ k := by omega
      have h1 := HSN.out k
      have h2 := HSB.out k hk
      have h3 := HMB.out k hlt
      have h0 : mnA l k = (tkA l k).mn := rfl
      rw [h0] at h1 h3
      generalize (tkA l k).mn = Z at *
      have HN := Lib.hid h1
      generalize sN (mnA l) k = S at *
      have hwr : wrap64 (S + Z) = S + Z := IntWalk.wrap64_in _ ⟨by omega, by omega⟩
      clear h1 h0
      go_wp2
      go_roundw
      case rel => exact ⟨k + 1, by omega, by go_num, by rw [HN.out], hB⟩
      case measure => simp [intOf]; omega
    · have hkn : k = l.length := by omega
      subst hkn
      have hk1 : ¬ (l.length : Int) < l.length := by omega
      rw [← HM.out]
      have HBk := Lib.hid (HB3.out.trans (Below.refl _ _))
      have HBw := Lib.hid hB
      clear hB HBk
      by_cases h100 : M ≤ 100
      · have hm1 : ¬ 100 < M := by omega
        go_wp2_with fail
        refine (C3.out h100 _ HBw.out).mono ?_
        rintro e w4 ⟨⟨v, rfl, ho⟩, hb⟩
        obtain ⟨A1, cap1, rfl, -, -, hI, -⟩ := own_ints ho
        have HB4 := Lib.hid (HBw.out.trans (hb.mono HBw.out.size))
        have HI := Lib.hid hI
        clear ho hI hb
        go_wp2_with fail
        refine (C4.out A1 cap1 _ HB4.out HI.out).mono ?_
        rintro e w5 ⟨rfl, hb⟩
        have HB5 := Lib.hid (HB4.out.trans (hb.mono HB4.out.size))
        clear hb
        go_wp2_with fail
        refine (C5.out _ HB5.out).mono ?_
        rintro e w6 ⟨rfl, hb⟩
        have HB6 := Lib.hid (HB5.out.trans (hb.mono HB5.out.size))
        clear hb
        go_wp2_with fail
        go_ret
        exact ⟨rfl, HB6.out⟩
      · have hm1 : 100 < M := by omega
        go_wp2_with fail
        go_ret
        exact ⟨rfl, HBw.out⟩
end Go.Proofs.Ytgijekhlbkfanaa
