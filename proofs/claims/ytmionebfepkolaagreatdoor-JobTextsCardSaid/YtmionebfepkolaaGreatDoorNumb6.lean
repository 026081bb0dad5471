/- Numerals: the reference's Number (layer 6). -/
import Derived.Test.YtmionebfepkolaaGreatDoorDig6
import Derived.Test.YtmionebfepkolaaGreatDoorYJb
import Derived.Test.YtmionebfepkolaaGreatDoorJobP
set_option linter.unusedSimpArgs false
set_option linter.unusedVariables false
namespace Go.Proofs.YtmionebfepkolaaGreatDoor
open Go.RowKit
attribute [local go_sem] Later.cell
theorem within6_any (n lo hi : Int) (w : World) :
    Calls Tryz.prog 70 #[.int .i64 n, .int .i64 lo, .int .i64 hi] w fun e w' => e = .returned (.bool (wi n lo hi)) ∧ w = w' := by
  go_enter Tryz.func70, Tryz.ntmps70
  go_wp2
  · go_ret
    exact ⟨ret_bool (wi_tt ‹_›), rfl⟩
  · go_ret
    exact ⟨ret_bool (wi_ff ‹_›), rfl⟩
/-- Whether a text is a number from -10^15 to 10^15 as Digits writes it. -/
def n6 (l : List UInt8) : Bool := (Lib.itoa (numV l) == l) && wi (numV l) (-1000000000000000) 1000000000000000
theorem numV_itoa {n : Int} (h1 : -1000000000000000000 < n) (h2 : n < 1000000000000000000) : numV (Lib.itoa n) = n := by
  have h := numR_itoa h1 h2
  unfold numR at h
  split at h
  · exact congrArg Prod.fst h
  · injection h with h3 h4; exact absurd h4 (by simp)
theorem n6_yes {l : List UInt8} (h : n6 l = true) : Lib.itoa (numV l) = l ∧ -1000000000000000 ≤ numV l ∧ numV l ≤ 1000000000000000 := by
  unfold n6 at h
  rw [Bool.and_eq_true] at h
  exact ⟨eq_of_beq h.1, wi_iff.1 h.2⟩
theorem n6_itoa {n : Int} (h1 : -1000000000000000 ≤ n) (h2 : n ≤ 1000000000000000) : n6 (Lib.itoa n) = true := by
  unfold n6
  rw [numV_itoa (by omega) (by omega), Bool.and_eq_true]
  exact ⟨beq_self_eq_true _, wi_iff.2 ⟨h1, h2⟩⟩
theorem n6_nil : n6 [] = false := by
  have : Lib.itoa (numV []) ≠ [] := itoa_ne _
  unfold n6
  rw [beq_eq_false_iff_ne.2 this]; rfl
theorem n6_long {l : List UInt8} (h : 17 < l.length) : n6 l = false := by
  cases hh : n6 l
  · rfl
  · obtain ⟨h1, h2, h3⟩ := n6_yes hh
    have := congrArg List.length h1
    by_cases hn : numV l < 0
    · obtain ⟨m, hm⟩ : ∃ m : Nat, numV l = -(m : Int) := ⟨(numV l).natAbs, by omega⟩
      rw [hm, itoa_neg (by omega)] at this
      have := (dec_facts 15 m (by omega)).2.2.1
      simp at *; omega
    · obtain ⟨m, hm⟩ : ∃ m : Nat, numV l = (m : Int) := ⟨(numV l).toNat, by omega⟩
      rw [hm, itoa_nat] at this
      have := (dec_facts 15 m (by omega)).2.2.1
      omega
/-- A byte that is no digit, and no minus ahead. -/
theorem n6_bad {l b : List UInt8} {mi : Bool} {c : UInt8} (hb : bodyS l = (b, mi)) (hm : c ∈ b) (hd : digB c = false) : n6 l = false := by
  cases hh : n6 l
  · rfl
  · obtain ⟨h1, h2, h3⟩ := n6_yes hh
    have hB : (bodyS l).1.all digB = true := by
      rw [← h1]
      by_cases hn : numV l < 0
      · obtain ⟨m, e⟩ : ∃ m : Nat, numV l = -(m : Int) := ⟨(numV l).natAbs, by omega⟩
        rw [e, itoa_neg (by omega)]
        exact (dec_facts 17 m (by omega)).1
      · obtain ⟨m, e⟩ : ∃ m : Nat, numV l = (m : Int) := ⟨(numV l).toNat, by omega⟩
        rw [e, itoa_nat, bodyS_dig (dec_facts 17 m (by omega)).1]
        exact (dec_facts 17 m (by omega)).1
    rw [hb] at hB
    rw [List.all_eq_true.1 hB c hm] at hd
    exact absurd hd (by simp)
set_option maxRecDepth 20000 in
set_option maxHeartbeats 4000000 in
theorem number6_any (l : List UInt8) (w : World) (hl : l.length ≤ 140737488355328) :
    Calls Tryz.prog 53 #[.string ⟨l.toArray⟩] w fun e w' => (∃ v, e = .returned (.tuple #[.int .i64 v, .bool (n6 l)]) ∧ (n6 l = true → v = numV l)) ∧ Below w.heap.size w w' := by
  have hsz : (⟨l.toArray⟩ : ByteArray).size = l.length := rfl
  by_cases h17 : 17 < l.length
  · have h17' : (17 : Int) < l.length := by omega
    have hn := n6_long h17
    have hie : l.isEmpty = false := by cases l; simp at h17; rfl
    rw [hn]
    go_enter Tryz.func53, Tryz.ntmps53
    go_wp2
    go_ret2
    exact ⟨⟨_, rfl, fun h => absurd h (by simp)⟩, Below.refl _ _⟩
  cases hl0 : l with
  | nil =>
    rw [n6_nil]
    go_enter Tryz.func53, Tryz.ntmps53
    go_wp2
    go_ret2
    exact ⟨⟨_, rfl, fun h => absurd h (by simp)⟩, Below.refl _ _⟩
  | cons c0 r =>
    have hie : l.isEmpty = false := by rw [hl0]; rfl
    rw [← hl0]
    have h17' : ¬ (17 : Int) < l.length := by omega
    have h17'' : decide ((17 : Int) < l.length) = false := decide_eq_false h17'
    have hlen1 : 1 ≤ l.length := by rw [hl0]; simp
    have hlp : decide (0 < (l.length : Int)) = true := decide_eq_true (by omega)
    have hg0 : ∀ h2 : 0 < (⟨l.toArray⟩ : ByteArray).size, (⟨l.toArray⟩ : ByteArray)[0]'h2 = c0 := by rw [hl0]; exact fun _ => rfl
    have CW := Lib.hid (fun (n : Int) (W : World) => within6_any n (-1000000000000000) 1000000000000000 W)
    by_cases hc0 : c0 = 45
    · obtain ⟨b, hb⟩ : ∃ b, b = r := ⟨_, rfl⟩
      have hbo : bodyS l = (b, true) := by rw [hl0, hc0, hb]; rfl
      have hlb : l.length = b.length + 1 := by rw [hl0, hb]; rfl
      have HCS := Lib.hid (fun k (hk : 1 ≤ k) (hlt : k < l.length) => (show l[k] ∈ b ∧ b.take (k + 1 - 1) = b.take (k - 1) ++ [l[k]] by
        obtain ⟨j, rfl⟩ : ∃ j, k = j + 1 := ⟨k - 1, by omega⟩
        subst hl0 hb
        have hj : j < b.length := by omega
        simp only [List.getElem_cons_succ, Nat.add_sub_cancel]
        exact ⟨List.getElem_mem hj, List.take_succ_eq_append_getElem hj⟩))
      subst hc0
      clear hl0 hb
      have HBR := Lib.hid hbo
      go_enter Tryz.func53, Tryz.ntmps53
      go_wp2
      go_quiet (fail)
      go_wp2
      go_loopw [4, 6] (fun x i wr => ∃ k : Nat, k ≤ l.length ∧ i = .int .i64 (k : Int) ∧ x = .int .i64 (valD (b.take (k - 1)) : Int) ∧ Hid ((b.take (k - 1)).all digB = true) ∧ Below w.heap.size w wr) (fun _ i _ => l.length - (intOf i).toNat)
      case atStart => exact ⟨0, Nat.zero_le _, rfl, rfl, Lib.hid rfl, below_drewN (Below.refl _ _) _⟩
      case round =>
        obtain ⟨k, hk, rfl, rfl, HA, hB⟩ := hrel
        by_cases hlt : k < l.length
        · have hk1 : (k : Int) < l.length := by omega
          by_cases hkz : k = 0
          · have hk0' : (k : Int) = 0 := by omega
            have hk0'' : ((k : Int) == 0) = true := by simpa using hk0'
            subst hkz
            go_wp2
            go_roundw
            case rel => exact ⟨1, by omega, by go_num, rfl, Lib.hid rfl, hB⟩
            case measure => simp [intOf]; omega
          · have hk0 : ¬ (k : Int) = 0 := by omega
            have hki : ((k : Int) == 0) = false := beq_eq_false_iff_ne.2 (by omega)
            have hcm := HCS.out k (by omega) hlt
            obtain ⟨c, hc⟩ : ∃ c, c = l[k] := ⟨_, rfl⟩
            have hgk : ∀ h2 : k < (⟨l.toArray⟩ : ByteArray).size, (⟨l.toArray⟩ : ByteArray)[k]'h2 = c := by rw [hc]; exact str_get hlt
            rw [← hc] at hcm
            obtain ⟨hmem, htk⟩ := hcm
            clear hc
            have hvs := valD_snoc (b.take (k - 1)) c
            rw [← htk] at hvs
            have hal : (b.take (k + 1 - 1)).all digB = ((b.take (k - 1)).all digB && digB c) := by rw [htk, List.all_append]; simp
            have hcd : digB c = (decide (48 ≤ c.toNat) && decide (c.toNat ≤ 57)) := rfl
            have HNO := Lib.hid (fun h : digB c = false => n6_bad hbo hmem h)
            have HVS := Lib.hid hvs
            have HAL := Lib.hid hal
            have HCD := Lib.hid hcd
            clear hvs hal hcd htk hmem
            have hbt : c.toNat < 256 := UInt8.toNat_lt _
            have hv17 := valD_lt 17 (b.take (k - 1)) (by rw [List.length_take]; omega) HA.out
            have hv18 : (valD (b.take (k - 1)) : Int) ≤ 100000000000000000 := by omega
            generalize valD (b.take (k - 1)) = V at *
            clear hv17
            by_cases h48 : c.toNat < 48
            · have h4 := Lib.hid (HNO.out (by rw [HCD.out, decide_eq_false (by omega)]; rfl))
              have h48' : (c.toNat : Int) < 48 := by omega
              clear HNO HCD HAL HVS
              go_wp2
              go_ret2
              exact ⟨by rw [h4.out]; exact ⟨_, rfl, fun h => absurd h (by simp)⟩, hB⟩
            · by_cases h57 : 57 < c.toNat
              · have h4 := Lib.hid (HNO.out (by rw [HCD.out, decide_eq_false (show ¬ c.toNat ≤ 57 by omega), Bool.and_false]))
                have h57' : (57 : Int) < c.toNat := by omega
                have h48' : decide ((c.toNat : Int) < 48) = false := decide_eq_false (by omega)
                clear HNO HCD HAL HVS
                go_wp2
                go_ret2
                exact ⟨by rw [h4.out]; exact ⟨_, rfl, fun h => absurd h (by simp)⟩, hB⟩
              · have h57' : decide ((57 : Int) < c.toNat) = false := decide_eq_false (by omega)
                have h48' : decide ((c.toNat : Int) < 48) = false := decide_eq_false (by omega)
                have h5 := Lib.hid (HCD.out.trans (by rw [decide_eq_true (show 48 ≤ c.toNat by omega), decide_eq_true (show c.toNat ≤ 57 by omega)] <;> rfl))
                clear HNO HCD
                go_wp2
                go_roundw
                case rel => exact ⟨k + 1, by omega, by go_num, by rw [HVS.out]; congr 1; omega, Lib.hid (by rw [HAL.out, HA.out, h5.out] <;> rfl), hB⟩
                case measure => simp [intOf]; omega
        · have hkl : k = l.length := by omega
          have hk9 : ¬ (k : Int) < l.length := by omega
          have hk8 : decide ((k : Int) < l.length) = false := decide_eq_false hk9
          have hv : numV l = -(valD (b.take (k - 1)) : Int) := by
            unfold numV
            rw [hbo]
            have : b.take (k - 1) = b := List.take_of_length_le (by omega)
            rw [this]; rfl
          have hvb := valD_lt 17 (b.take (k - 1)) (by rw [List.length_take]; omega) HA.out
          have hvb' : (valD (b.take (k - 1)) : Int) ≤ 100000000000000000 := by omega
          generalize valD (b.take (k - 1)) = V at *
          have C1 := Lib.hid (fun W => digits6_any (-(V : Int)) W (by omega) (by omega))
          have hn6 : n6 l = ((Lib.itoa (-(V : Int)) == l) && wi (-(V : Int)) (-1000000000000000) 1000000000000000) := by unfold n6; rw [hv]
          clear hvb
          by_cases hF : Lib.itoa (-(V : Int)) = l
          · have hn6' : n6 l = wi (-(V : Int)) (-1000000000000000) 1000000000000000 := by rw [hn6, hF, beq_self_eq_true, Bool.true_and]
            have HV := Lib.hid hv
            have HN6 := Lib.hid hn6'
            rw [hF] at C1
            have HCW := Lib.hid (CW.out (-(V : Int)))
            clear hn6 hn6' hF hv HA HBR HCS CW hkl
            go_wp2_with fail
            refine (C1.out _).mono ?_
            rintro e w1 ⟨rfl, hb⟩
            go_wp2_with fail
            refine (HCW.out _).mono ?_
            rintro e w2 ⟨rfl, rfl⟩
            go_wp2
            go_ret2
            exact ⟨⟨_, by rw [HN6.out] <;> rfl, fun _ => HV.out.symm⟩, below_step hB hb⟩
          · have hn6' : n6 l = false := by rw [hn6, beq_eq_false_iff_ne.2 hF, Bool.false_and]
            have HN6 := Lib.hid hn6'
            generalize Lib.itoa (-(V : Int)) = F at *
            have hF2 : (F == l) = false := beq_eq_false_iff_ne.2 hF
            clear hn6 hn6' hv HA HBR HCS CW hkl
            go_wp2_with fail
            refine (C1.out _).mono ?_
            rintro e w1 ⟨rfl, hb⟩
            go_wp2
            go_ret2
            exact ⟨by rw [HN6.out]; exact ⟨_, rfl, fun h => absurd h (by simp)⟩, below_step hB hb⟩
    · obtain ⟨b, hb⟩ : ∃ b, b = l := ⟨_, rfl⟩
      have hbo : bodyS l = (b, false) := by rw [hb, hl0]; exact bodyS_no hc0
      have hlb : l.length = b.length := by rw [hb]
      have HCS := Lib.hid (fun k (hk : 0 ≤ k) (hlt : k < l.length) => (show l[k] ∈ b ∧ b.take (k + 1) = b.take k ++ [l[k]] by
        subst hb
        exact ⟨List.getElem_mem hlt, List.take_succ_eq_append_getElem hlt⟩))
      have hc5 : ¬ (c0.toNat : Int) = 45 := fun h => hc0 (UInt8.toNat_inj.1 (by show c0.toNat = 45; omega))
      have hc6 : decide ((c0.toNat : Int) = 45) = false := decide_eq_false hc5
      have hc7 : ((c0.toNat : Int) == 45) = false := by simpa using hc5
      clear hl0 hb
      have HBR := Lib.hid hbo
      go_enter Tryz.func53, Tryz.ntmps53
      go_wp2
      go_quiet (fail)
      clear hg0
      go_wp2
      go_loopw [4, 6] (fun x i wr => ∃ k : Nat, k ≤ l.length ∧ i = .int .i64 (k : Int) ∧ x = .int .i64 (valD (b.take k) : Int) ∧ Hid ((b.take k).all digB = true) ∧ Below w.heap.size w wr) (fun _ i _ => l.length - (intOf i).toNat)
      case atStart => exact ⟨0, Nat.zero_le _, rfl, rfl, Lib.hid rfl, below_drewN (Below.refl _ _) _⟩
      case round =>
        obtain ⟨k, hk, rfl, rfl, HA, hB⟩ := hrel
        by_cases hlt : k < l.length
        · have hk1 : (k : Int) < l.length := by omega
          by_cases hkz : k = 0
          · have hkq : ((k : Int) == 0) = true := beq_iff_eq.2 (by omega)
            clear hkz
            have hcm := HCS.out k (by omega) hlt
            obtain ⟨c, hc⟩ : ∃ c, c = l[k] := ⟨_, rfl⟩
            have hgk : ∀ h2 : k < (⟨l.toArray⟩ : ByteArray).size, (⟨l.toArray⟩ : ByteArray)[k]'h2 = c := by rw [hc]; exact str_get hlt
            rw [← hc] at hcm
            obtain ⟨hmem, htk⟩ := hcm
            clear hc
            have hvs := valD_snoc (b.take (k)) c
            rw [← htk] at hvs
            have hal : (b.take (k + 1)).all digB = ((b.take (k)).all digB && digB c) := by rw [htk, List.all_append]; simp
            have hcd : digB c = (decide (48 ≤ c.toNat) && decide (c.toNat ≤ 57)) := rfl
            have HNO := Lib.hid (fun h : digB c = false => n6_bad hbo hmem h)
            have HVS := Lib.hid hvs
            have HAL := Lib.hid hal
            have HCD := Lib.hid hcd
            clear hvs hal hcd htk hmem
            have hbt : c.toNat < 256 := UInt8.toNat_lt _
            have hv17 := valD_lt 17 (b.take (k)) (by rw [List.length_take]; omega) HA.out
            have hv18 : (valD (b.take (k)) : Int) ≤ 100000000000000000 := by omega
            generalize valD (b.take (k)) = V at *
            clear hv17
            by_cases h48 : c.toNat < 48
            · have h4 := Lib.hid (HNO.out (by rw [HCD.out, decide_eq_false (by omega)]; rfl))
              have h48' : (c.toNat : Int) < 48 := by omega
              clear HNO HCD HAL HVS
              go_wp2
              go_ret2
              exact ⟨by rw [h4.out]; exact ⟨_, rfl, fun h => absurd h (by simp)⟩, hB⟩
            · by_cases h57 : 57 < c.toNat
              · have h4 := Lib.hid (HNO.out (by rw [HCD.out, decide_eq_false (show ¬ c.toNat ≤ 57 by omega), Bool.and_false]))
                have h57' : (57 : Int) < c.toNat := by omega
                have h48' : decide ((c.toNat : Int) < 48) = false := decide_eq_false (by omega)
                clear HNO HCD HAL HVS
                go_wp2
                go_ret2
                exact ⟨by rw [h4.out]; exact ⟨_, rfl, fun h => absurd h (by simp)⟩, hB⟩
              · have h57' : decide ((57 : Int) < c.toNat) = false := decide_eq_false (by omega)
                have h48' : decide ((c.toNat : Int) < 48) = false := decide_eq_false (by omega)
                have h5 := Lib.hid (HCD.out.trans (by rw [decide_eq_true (show 48 ≤ c.toNat by omega), decide_eq_true (show c.toNat ≤ 57 by omega)] <;> rfl))
                clear HNO HCD
                go_wp2
                go_roundw
                case rel => exact ⟨k + 1, by omega, by go_num, by rw [HVS.out]; congr 1; omega, Lib.hid (by rw [HAL.out, HA.out, h5.out] <;> rfl), hB⟩
                case measure => simp [intOf]; omega
          · have hkq : ((k : Int) == 0) = false := beq_eq_false_iff_ne.2 (by omega)
            have hkp : ¬ (k : Int) = 0 := by omega
            have hcm := HCS.out k (by omega) hlt
            obtain ⟨c, hc⟩ : ∃ c, c = l[k] := ⟨_, rfl⟩
            have hgk : ∀ h2 : k < (⟨l.toArray⟩ : ByteArray).size, (⟨l.toArray⟩ : ByteArray)[k]'h2 = c := by rw [hc]; exact str_get hlt
            rw [← hc] at hcm
            obtain ⟨hmem, htk⟩ := hcm
            clear hc
            have hvs := valD_snoc (b.take (k)) c
            rw [← htk] at hvs
            have hal : (b.take (k + 1)).all digB = ((b.take (k)).all digB && digB c) := by rw [htk, List.all_append]; simp
            have hcd : digB c = (decide (48 ≤ c.toNat) && decide (c.toNat ≤ 57)) := rfl
            have HNO := Lib.hid (fun h : digB c = false => n6_bad hbo hmem h)
            have HVS := Lib.hid hvs
            have HAL := Lib.hid hal
            have HCD := Lib.hid hcd
            clear hvs hal hcd htk hmem
            have hbt : c.toNat < 256 := UInt8.toNat_lt _
            have hv17 := valD_lt 17 (b.take (k)) (by rw [List.length_take]; omega) HA.out
            have hv18 : (valD (b.take (k)) : Int) ≤ 100000000000000000 := by omega
            generalize valD (b.take (k)) = V at *
            clear hv17
            by_cases h48 : c.toNat < 48
            · have h4 := Lib.hid (HNO.out (by rw [HCD.out, decide_eq_false (by omega)]; rfl))
              have h48' : (c.toNat : Int) < 48 := by omega
              clear HNO HCD HAL HVS
              go_wp2
              go_ret2
              exact ⟨by rw [h4.out]; exact ⟨_, rfl, fun h => absurd h (by simp)⟩, hB⟩
            · by_cases h57 : 57 < c.toNat
              · have h4 := Lib.hid (HNO.out (by rw [HCD.out, decide_eq_false (show ¬ c.toNat ≤ 57 by omega), Bool.and_false]))
                have h57' : (57 : Int) < c.toNat := by omega
                have h48' : decide ((c.toNat : Int) < 48) = false := decide_eq_false (by omega)
                clear HNO HCD HAL HVS
                go_wp2
                go_ret2
                exact ⟨by rw [h4.out]; exact ⟨_, rfl, fun h => absurd h (by simp)⟩, hB⟩
              · have h57' : decide ((57 : Int) < c.toNat) = false := decide_eq_false (by omega)
                have h48' : decide ((c.toNat : Int) < 48) = false := decide_eq_false (by omega)
                have h5 := Lib.hid (HCD.out.trans (by rw [decide_eq_true (show 48 ≤ c.toNat by omega), decide_eq_true (show c.toNat ≤ 57 by omega)] <;> rfl))
                clear HNO HCD
                go_wp2
                go_roundw
                case rel => exact ⟨k + 1, by omega, by go_num, by rw [HVS.out]; congr 1; omega, Lib.hid (by rw [HAL.out, HA.out, h5.out] <;> rfl), hB⟩
                case measure => simp [intOf]; omega
        · have hkl : k = l.length := by omega
          have hk9 : ¬ (k : Int) < l.length := by omega
          have hk8 : decide ((k : Int) < l.length) = false := decide_eq_false hk9
          have hv : numV l = (valD (b.take (k)) : Int) := by
            unfold numV
            rw [hbo]
            have : b.take (k) = b := List.take_of_length_le (by omega)
            rw [this]; rfl
          have hvb := valD_lt 17 (b.take (k)) (by rw [List.length_take]; omega) HA.out
          have hvb' : (valD (b.take (k)) : Int) ≤ 100000000000000000 := by omega
          generalize valD (b.take (k)) = V at *
          have C1 := Lib.hid (fun W => digits6_any ((V : Int)) W (by omega) (by omega))
          have hn6 : n6 l = ((Lib.itoa ((V : Int)) == l) && wi ((V : Int)) (-1000000000000000) 1000000000000000) := by unfold n6; rw [hv]
          clear hvb
          by_cases hF : Lib.itoa ((V : Int)) = l
          · have hn6' : n6 l = wi ((V : Int)) (-1000000000000000) 1000000000000000 := by rw [hn6, hF, beq_self_eq_true, Bool.true_and]
            have HV := Lib.hid hv
            have HN6 := Lib.hid hn6'
            rw [hF] at C1
            have HCW := Lib.hid (CW.out ((V : Int)))
            clear hn6 hn6' hF hv HA HBR HCS CW hkl
            go_wp2_with fail
            refine (C1.out _).mono ?_
            rintro e w1 ⟨rfl, hb⟩
            go_wp2_with fail
            refine (HCW.out _).mono ?_
            rintro e w2 ⟨rfl, rfl⟩
            go_wp2
            go_ret2
            exact ⟨⟨_, by rw [HN6.out] <;> rfl, fun _ => HV.out.symm⟩, below_step hB hb⟩
          · have hn6' : n6 l = false := by rw [hn6, beq_eq_false_iff_ne.2 hF, Bool.false_and]
            have HN6 := Lib.hid hn6'
            generalize Lib.itoa ((V : Int)) = F at *
            have hF2 : (F == l) = false := beq_eq_false_iff_ne.2 hF
            clear hn6 hn6' hv HA HBR HCS CW hkl
            go_wp2_with fail
            refine (C1.out _).mono ?_
            rintro e w1 ⟨rfl, hb⟩
            go_wp2
            go_ret2
            exact ⟨by rw [HN6.out]; exact ⟨_, rfl, fun h => absurd h (by simp)⟩, below_step hB hb⟩
end Go.Proofs.YtmionebfepkolaaGreatDoor
