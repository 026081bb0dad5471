/- Numerals: the reference's Number. -/
import Derived.Test.YthpbkbbmedpecaaDoorDigs
set_option linter.unusedSimpArgs false
set_option linter.unusedVariables false
namespace Go.Proofs.YthpbkbbmedpecaaDoor
open Go.RowKit
attribute [local go_sem] Later.cell

def digB (c : UInt8) : Bool := decide (48 ≤ c.toNat) && decide (c.toNat ≤ 57)
def valD (b : List UInt8) : Nat := b.foldl (fun a c => 10 * a + (c.toNat - 48)) 0
theorem valD_snoc (b : List UInt8) (c : UInt8) : valD (b ++ [c]) = 10 * valD b + (c.toNat - 48) := by unfold valD; rw [List.foldl_append]; rfl
theorem valD_lt : ∀ (k : Nat) (b : List UInt8), b.length ≤ k → b.all digB = true → valD b < 10 ^ k := by
  intro k
  induction k with
  | zero => intro b hb _; have : b = [] := List.eq_nil_of_length_eq_zero (by omega); subst this; simp [valD]
  | succ k ih =>
    intro b hb ha
    rcases List.eq_nil_or_concat b with rfl | ⟨r, c, rfl⟩
    · simp [valD]; exact Nat.pow_pos (by omega)
    · rw [List.concat_eq_append] at *
      rw [valD_snoc]
      rw [List.all_append, Bool.and_eq_true] at ha
      have h1 := ih r (by rw [List.length_append] at hb; simp at hb; omega) ha.1
      have h2 : digB c = true := by simpa using ha.2
      unfold digB at h2
      rw [Bool.and_eq_true, decide_eq_true_eq, decide_eq_true_eq] at h2
      rw [Nat.pow_succ]
      omega
/-- What stands behind a minus, and whether there is one. -/
def bodyS (l : List UInt8) : List UInt8 × Bool := match l with | 45 :: r => (r, true) | _ => (l, false)
def numOk (b : List UInt8) : Bool := decide (1 ≤ b.length) && (decide (b.length ≤ 18) && b.all digB)
def numV (l : List UInt8) : Int := if (bodyS l).2 then -(valD (bodyS l).1 : Int) else (valD (bodyS l).1 : Int)
def numR (l : List UInt8) : Int × Bool := if numOk (bodyS l).1 then (numV l, Lib.itoa (numV l) == l) else (0, false)
theorem numR_bad {l : List UInt8} (h : numOk (bodyS l).1 = false) : numR l = (0, false) := by unfold numR; rw [h]; rfl
theorem bodyS_no {c : UInt8} {r : List UInt8} (h : c ≠ 45) : bodyS (c :: r) = (c :: r, false) := by
  unfold bodyS
  split
  · rename_i h2; injection h2 with h3 _; exact absurd h3 h
  · rfl
theorem str_get {l : List UInt8} {k : Nat} (h : k < l.length) : ∀ h2 : k < (⟨l.toArray⟩ : ByteArray).size, (⟨l.toArray⟩ : ByteArray)[k]'h2 = l[k] := fun h2 => by
  show (l.toArray)[k]'_ = _
  simp
set_option maxRecDepth 20000 in
set_option maxHeartbeats 4000000 in
theorem number_any (l : List UInt8) (w : World) (hl : l.length ≤ 140737488355328) :
    Calls Tryd.prog 39 #[.string ⟨l.toArray⟩] w fun e w' => e = .returned (.tuple #[.int .i64 (numR l).1, .bool (numR l).2]) ∧ Below w.heap.size w w' := by
  have hsz : (⟨l.toArray⟩ : ByteArray).size = l.length := rfl
  cases hl0 : l with
  | nil =>
    have hn : numR [] = (0, false) := rfl
    rw [hn]
    go_enter Tryd.func39, Tryd.ntmps39
    go_wp2
    go_ret2
    exact ⟨rfl, Below.refl _ _⟩
  | cons c r =>
    rw [← hl0]
    by_cases hc : c = 45
    · obtain ⟨b, hb⟩ : ∃ b, b = r := ⟨_, rfl⟩
      have hex : (⟨l.toArray⟩ : ByteArray).extract 1 (b.length + 1) = ⟨b.toArray⟩ := by
        rw [hl0, hb]
        apply ByteArray.ext
        simp
      have hbo : bodyS l = (b, true) := by rw [hl0, hc, hb]; rfl
      have hg0 : ∀ h2 : 0 < (⟨l.toArray⟩ : ByteArray).size, (⟨l.toArray⟩ : ByteArray)[0]'h2 = 45 := by rw [hl0, hc]; exact fun _ => rfl
      have hsz2 : (⟨b.toArray⟩ : ByteArray).size = b.length := rfl
      have hll : l.length = b.length + 1 := by rw [hl0, hb]; rfl
      have hlp : decide (0 < (l.length : Int)) = true := decide_eq_true (by omega)
      clear hl0 hb hc
      by_cases hb1 : b.length < 1
      · have hn := numR_bad (l := l) (by rw [hbo]; unfold numOk; rw [decide_eq_false (show ¬ 1 ≤ b.length by omega)]; rfl)
        have hb1' : (b.length : Int) < 1 := by omega
        rw [hn]
        go_enter Tryd.func39, Tryd.ntmps39
        go_wp2
        go_ret2
        exact ⟨rfl, Below.refl _ _⟩
      · have hb1' : decide ((b.length : Int) < 1) = false := decide_eq_false (by omega)
        by_cases hb2 : 18 < b.length
        · have hn := numR_bad (l := l) (by rw [hbo]; unfold numOk; rw [decide_eq_false (show ¬ b.length ≤ 18 by omega)]; simp)
          have hb2' : (18 : Int) < b.length := by omega
          rw [hn]
          go_enter Tryd.func39, Tryd.ntmps39
          go_wp2
          go_ret2
          exact ⟨rfl, Below.refl _ _⟩
        · have hb2' : decide ((18 : Int) < b.length) = false := decide_eq_false (by omega)
          go_enter Tryd.func39, Tryd.ntmps39
          go_wp2
          go_loopw [6, 5] (fun i x wr => ∃ k : Nat, k ≤ b.length ∧ i = .int .i64 (k : Int) ∧ x = .int .i64 (valD (b.take k) : Int) ∧ Hid ((b.take k).all digB = true) ∧ wr = w) (fun i _ _ => b.length - (intOf i).toNat)
          case atStart => exact ⟨0, Nat.zero_le _, rfl, rfl, Lib.hid rfl, rfl⟩
          case round =>
            obtain ⟨k, hk, rfl, rfl, HA, rfl⟩ := hrel
            have hvl := valD_lt 18 (b.take k) (by rw [List.length_take]; omega) HA.out
            have hvb : (valD (b.take k) : Int) ≤ 1000000000000000000 := by omega
            by_cases hlt : k < b.length
            · have hk1 : (k : Int) < b.length := by omega
              obtain ⟨c, hc⟩ : ∃ c, c = b[k] := ⟨_, rfl⟩
              have hgk : ∀ h2 : k < (⟨b.toArray⟩ : ByteArray).size, (⟨b.toArray⟩ : ByteArray)[k]'h2 = c := by rw [hc]; exact str_get hlt
              have htk : b.take (k + 1) = b.take k ++ [c] := by rw [hc]; exact List.take_succ_eq_append_getElem hlt
              have hmem : c ∈ b := by rw [hc]; exact List.getElem_mem hlt
              clear hc
              have hvs := valD_snoc (b.take k) c
              rw [← htk] at hvs
              have hal : (b.take (k + 1)).all digB = ((b.take k).all digB && digB c) := by rw [htk, List.all_append]; simp
              have hcd : digB c = (decide (48 ≤ c.toNat) && decide (c.toNat ≤ 57)) := rfl
              have hno : digB c = false → numR l = (0, false) := fun h => by
                unfold numR
                rw [hbo]
                have : numOk b = false := by
                  unfold numOk
                  have : b.all digB = false := List.all_eq_false.2 ⟨c, hmem, by simp [h]⟩
                  rw [this]; simp
                rw [this]; rfl
              have HVS := Lib.hid hvs
              have HAL := Lib.hid hal
              have HNO := Lib.hid hno
              have HCD := Lib.hid hcd
              clear hvs hal hno hcd htk hmem
              have hbt : c.toNat < 256 := UInt8.toNat_lt _
              have hv17 := valD_lt 17 (b.take k) (by rw [List.length_take]; omega) HA.out
              have hv18 : (valD (b.take k) : Int) ≤ 100000000000000000 := by omega
              generalize valD (b.take k) = V at *
              clear hv17 hvb hvl
              by_cases h48 : c.toNat < 48
              · have h4 := Lib.hid (HNO.out (by rw [HCD.out, decide_eq_false (by omega)]; rfl))
                have h48' : (c.toNat : Int) < 48 := by omega
                clear HNO HCD HAL HVS
                go_wp2
                go_ret2
                exact ⟨by rw [h4.out] <;> rfl, Below.refl _ _⟩
              · by_cases h57 : 57 < c.toNat
                · have h4 := Lib.hid (HNO.out (by rw [HCD.out, decide_eq_false (show ¬ c.toNat ≤ 57 by omega), Bool.and_false]))
                  have h57' : (57 : Int) < c.toNat := by omega
                  have h48' : decide ((c.toNat : Int) < 48) = false := decide_eq_false (by omega)
                  clear HNO HCD HAL HVS
                  go_wp2
                  go_ret2
                  exact ⟨by rw [h4.out] <;> rfl, Below.refl _ _⟩
                · have h57' : decide ((57 : Int) < c.toNat) = false := decide_eq_false (by omega)
                  have h48' : decide ((c.toNat : Int) < 48) = false := decide_eq_false (by omega)
                  have h5 := Lib.hid (HCD.out.trans (by rw [decide_eq_true (show 48 ≤ c.toNat by omega), decide_eq_true (show c.toNat ≤ 57 by omega)] <;> rfl))
                  clear HNO HCD
                  go_wp2
                  go_roundw
                  case rel => exact ⟨k + 1, by omega, by go_num, by rw [HVS.out]; congr 1; omega, Lib.hid (by rw [HAL.out, HA.out, h5.out] <;> rfl), by first | rfl | trivial⟩
                  case measure => simp [intOf]; omega
            · have hkl : k = b.length := by omega
              have hk9 : ¬ (k : Int) < b.length := by omega
              rw [hkl, List.take_length] at HA hvb ⊢
              have hno : numOk b = true := by unfold numOk; rw [HA.out, decide_eq_true (show 1 ≤ b.length by omega), decide_eq_true (show b.length ≤ 18 by omega)]; rfl
              have hnr : numR l = ((-(valD b : Int)), Lib.itoa (-(valD b : Int)) == l) := by unfold numR numV; rw [hbo]; simp only [hno, if_true] <;> rfl
              have C1 := Lib.hid (fun W => digits_any (-(valD b : Int)) W (by omega) (by omega))
              have HNR := Lib.hid hnr
              have hnb : (-(valD b : Int)) ≥ -1000000000000000000 := by omega
              clear hnr hno
              go_wp2_with fail
              refine (C1.out _).mono ?_
              rintro e w1 ⟨rfl, hb⟩
              go_wp2
              go_ret2
              exact ⟨by rw [HNR.out]; rfl, hb⟩
    · have hbo : bodyS l = (l, false) := by rw [hl0]; exact bodyS_no hc
      have hg0 : ∀ h2 : 0 < (⟨l.toArray⟩ : ByteArray).size, (⟨l.toArray⟩ : ByteArray)[0]'h2 = c := by rw [hl0]; exact fun _ => rfl
      have hll : 1 ≤ l.length := by rw [hl0]; simp
      have hlp : decide (0 < (l.length : Int)) = true := decide_eq_true (by omega)
      have hc5 : ¬ (c.toNat : Int) = 45 := fun h => hc (UInt8.toNat_inj.1 (by show c.toNat = 45; omega))
      have hc6 : decide ((c.toNat : Int) = 45) = false := decide_eq_false hc5
      have hc7 : ((c.toNat : Int) == 45) = false := by simpa using hc5
      clear hl0
      by_cases hb2 : 18 < l.length
      · have hn := numR_bad (l := l) (by rw [hbo]; unfold numOk; rw [decide_eq_false (show ¬ l.length ≤ 18 by omega)]; simp)
        have hb2' : (18 : Int) < l.length := by omega
        have hb1' : decide ((l.length : Int) < 1) = false := decide_eq_false (by omega)
        rw [hn]
        go_enter Tryd.func39, Tryd.ntmps39
        go_wp2
        go_ret2
        exact ⟨rfl, Below.refl _ _⟩
      · have hb2' : decide ((18 : Int) < l.length) = false := decide_eq_false (by omega)
        have hb1' : decide ((l.length : Int) < 1) = false := decide_eq_false (by omega)
        generalize hbl : l = b at *
        go_enter Tryd.func39, Tryd.ntmps39
        go_wp2
        go_loopw [6, 5] (fun i x wr => ∃ k : Nat, k ≤ b.length ∧ i = .int .i64 (k : Int) ∧ x = .int .i64 (valD (b.take k) : Int) ∧ Hid ((b.take k).all digB = true) ∧ wr = w) (fun i _ _ => b.length - (intOf i).toNat)
        case atStart => exact ⟨0, Nat.zero_le _, rfl, rfl, Lib.hid rfl, rfl⟩
        case round =>
          obtain ⟨k, hk, rfl, rfl, HA, rfl⟩ := hrel
          have hvl := valD_lt 18 (b.take k) (by rw [List.length_take]; omega) HA.out
          have hvb : (valD (b.take k) : Int) ≤ 1000000000000000000 := by omega
          by_cases hlt : k < b.length
          · have hk1 : (k : Int) < b.length := by omega
            obtain ⟨c, hc⟩ : ∃ c, c = b[k] := ⟨_, rfl⟩
            have hgk : ∀ h2 : k < (⟨b.toArray⟩ : ByteArray).size, (⟨b.toArray⟩ : ByteArray)[k]'h2 = c := by rw [hc]; exact str_get hlt
            have htk : b.take (k + 1) = b.take k ++ [c] := by rw [hc]; exact List.take_succ_eq_append_getElem hlt
            have hmem : c ∈ b := by rw [hc]; exact List.getElem_mem hlt
            clear hc
            have hvs := valD_snoc (b.take k) c
            rw [← htk] at hvs
            have hal : (b.take (k + 1)).all digB = ((b.take k).all digB && digB c) := by rw [htk, List.all_append]; simp
            have hcd : digB c = (decide (48 ≤ c.toNat) && decide (c.toNat ≤ 57)) := rfl
            have hno : digB c = false → numR b = (0, false) := fun h => by
              unfold numR
              rw [hbo]
              have : numOk b = false := by
                unfold numOk
                have : b.all digB = false := List.all_eq_false.2 ⟨c, hmem, by simp [h]⟩
                rw [this]; simp
              rw [this]; rfl
            have HVS := Lib.hid hvs
            have HAL := Lib.hid hal
            have HNO := Lib.hid hno
            have HCD := Lib.hid hcd
            clear hvs hal hno hcd htk hmem
            have hbt : c.toNat < 256 := UInt8.toNat_lt _
            have hv17 := valD_lt 17 (b.take k) (by rw [List.length_take]; omega) HA.out
            have hv18 : (valD (b.take k) : Int) ≤ 100000000000000000 := by omega
            generalize valD (b.take k) = V at *
            clear hv17 hvb hvl
            by_cases h48 : c.toNat < 48
            · have h4 := Lib.hid (HNO.out (by rw [HCD.out, decide_eq_false (by omega)]; rfl))
              have h48' : (c.toNat : Int) < 48 := by omega
              clear HNO HCD HAL HVS
              go_wp2
              go_ret2
              exact ⟨by rw [h4.out] <;> rfl, Below.refl _ _⟩
            · by_cases h57 : 57 < c.toNat
              · have h4 := Lib.hid (HNO.out (by rw [HCD.out, decide_eq_false (show ¬ c.toNat ≤ 57 by omega), Bool.and_false]))
                have h57' : (57 : Int) < c.toNat := by omega
                have h48' : decide ((c.toNat : Int) < 48) = false := decide_eq_false (by omega)
                clear HNO HCD HAL HVS
                go_wp2
                go_ret2
                exact ⟨by rw [h4.out] <;> rfl, Below.refl _ _⟩
              · have h57' : decide ((57 : Int) < c.toNat) = false := decide_eq_false (by omega)
                have h48' : decide ((c.toNat : Int) < 48) = false := decide_eq_false (by omega)
                have h5 := Lib.hid (HCD.out.trans (by rw [decide_eq_true (show 48 ≤ c.toNat by omega), decide_eq_true (show c.toNat ≤ 57 by omega)] <;> rfl))
                clear HNO HCD
                go_wp2
                go_roundw
                case rel => exact ⟨k + 1, by omega, by go_num, by rw [HVS.out]; congr 1; omega, Lib.hid (by rw [HAL.out, HA.out, h5.out] <;> rfl), by first | rfl | trivial⟩
                case measure => simp [intOf]; omega
          · have hkl : k = b.length := by omega
            have hk9 : ¬ (k : Int) < b.length := by omega
            rw [hkl, List.take_length] at HA hvb ⊢
            have hno : numOk b = true := by unfold numOk; rw [HA.out, decide_eq_true (show 1 ≤ b.length by omega), decide_eq_true (show b.length ≤ 18 by omega)]; rfl
            have hnr : numR b = ((valD b : Int), Lib.itoa (valD b : Int) == b) := by unfold numR numV; rw [hbo]; simp only [hno, if_true] <;> rfl
            have C1 := Lib.hid (fun W => digits_any (valD b : Int) W (by omega) (by omega))
            have HNR := Lib.hid hnr
            clear hnr hno
            go_wp2_with fail
            refine (C1.out _).mono ?_
            rintro e w1 ⟨rfl, hb⟩
            go_wp2
            go_ret2
            exact ⟨by rw [HNR.out]; rfl, hb⟩
end Go.Proofs.YthpbkbbmedpecaaDoor
