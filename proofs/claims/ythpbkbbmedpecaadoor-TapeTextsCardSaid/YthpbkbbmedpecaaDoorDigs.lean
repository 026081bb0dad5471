/- Numerals: the reference's Digits. -/
import Derived.Test.YthpbkbbmedpecaaDoorLater
import Derived.Test.YthpbkbbmedpecaaDoorProg
import Derived.Test.YthpbkbbmedpecaaDoorBase
import Derived.Lib.ItoaNum
set_option linter.unusedSimpArgs false
set_option linter.unusedVariables false
namespace Go.Proofs.YthpbkbbmedpecaaDoor
open Go.RowKit
attribute [local go_sem] Later.cell
theorem tens_at {d : Nat} (h : d < 10) : (⟨#[48, 49, 50, 51, 52, 53, 54, 55, 56, 57]⟩ : ByteArray).extract d (d + 1) = ⟨#[UInt8.ofNat (48 + d)]⟩ := by
  rcases (by omega : d = 0 ∨ d = 1 ∨ d = 2 ∨ d = 3 ∨ d = 4 ∨ d = 5 ∨ d = 6 ∨ d = 7 ∨ d = 8 ∨ d = 9) with rfl | rfl | rfl | rfl | rfl | rfl | rfl | rfl | rfl | rfl <;> rfl
theorem str_app (s t : List UInt8) : (⟨s.toArray⟩ : ByteArray) ++ ⟨t.toArray⟩ = ⟨(s ++ t).toArray⟩ := by
  apply ByteArray.ext
  simp
theorem ofNat_48 (d : Nat) : UInt8.ofNat (48 + d) = 48 + UInt8.ofNat d := by simp
theorem decDigits_big {m : Nat} (h : 9 < m) : Lib.decDigits m = Lib.decDigits (m / 10) ++ [UInt8.ofNat (48 + m % 10)] := by
  rw [Lib.decDigits, dif_neg (by omega)]
theorem decDigits_len_le (m : Nat) (h : m ≤ 9223372036854775807) : (Lib.decDigits m).length ≤ 19 := by
  have key : ∀ (k m : Nat), m < 10 ^ (k + 1) → (Lib.decDigits m).length ≤ k + 1 := by
    intro k
    induction k with
    | zero => intro m hm; rw [Lib.decDigits_one (by simpa using hm)]; simp
    | succ k ih =>
      intro m hm
      by_cases h9 : 9 < m
      · rw [decDigits_big h9, List.length_append]
        have := ih (m / 10) (by rw [Nat.pow_succ] at hm; omega)
        simp; omega
      · rw [Lib.decDigits_one (by omega)]; simp
  exact key 18 m (by omega)
set_option maxRecDepth 20000 in
set_option maxHeartbeats 2000000 in
theorem digits_nat (n : Nat) (w : World) (hn : n ≤ 9223372036854775807) :
    Calls Tryd.prog 23 #[.int .i64 (n : Int)] w fun e w' => e = .returned (.string ⟨(Lib.decDigits n).toArray⟩) ∧ Below w.heap.size w w' := by
  have hlen := decDigits_len_le n hn
  have HD0 : Hid (Lib.decDigits n = Lib.decDigits n ++ []) := Lib.hid (by simp)
  have hn0 : decide ((n : Int) < 0) = false := decide_eq_false (by omega)
  go_enter Tryd.func23, Tryd.ntmps23
  go_wp2
  go_loopw [0, 3] (fun x s wr => ∃ (m : Nat) (t : List UInt8), m ≤ n ∧ x = .int .i64 (m : Int) ∧ s = .string ⟨t.toArray⟩ ∧ Hid (Lib.decDigits n = Lib.decDigits m ++ t) ∧ Below w.heap.size w wr) (fun x _ _ => (intOf x).toNat)
  case atStart => exact ⟨n, [], Nat.le_refl _, rfl, rfl, HD0, Below.refl _ _⟩
  case round =>
    obtain ⟨m, t, hm, rfl, rfl, HD, hB⟩ := hrel
    have htl : t.length ≤ 19 := by
      have h1 := congrArg List.length HD.out
      rw [List.length_append] at h1; omega
    have hsz : (⟨t.toArray⟩ : ByteArray).size = t.length := rfl
    by_cases h9 : 9 < m
    · have h9' : (9 : Int) < m := by omega
      have hd := tens_at (d := m % 10) (Nat.mod_lt _ (by omega))
      have hap := str_app [UInt8.ofNat (48 + m % 10)] t
      have HN : Hid (Lib.decDigits n = Lib.decDigits (m / 10) ++ (UInt8.ofNat (48 + m % 10) :: t)) := Lib.hid (by rw [HD.out, decDigits_big h9]; simp)
      have h1 : (⟨#[UInt8.ofNat (48 + m % 10)]⟩ : ByteArray).size = 1 := rfl
      have HAP := Lib.hid hap
      clear hap
      go_wp2
      go_roundw
      case rel => exact ⟨m / 10, UInt8.ofNat (48 + m % 10) :: t, by omega, by first | rfl | go_num, by rw [← ofNat_48]; exact congrArg Value.string HAP.out, HN, hB⟩
      case measure => simp [intOf]; omega
    · have h9' : ¬ (9 : Int) < m := by omega
      have hd := tens_at (d := m) (by omega)
      have hap := str_app [UInt8.ofNat (48 + m)] t
      have h1 : (⟨#[UInt8.ofNat (48 + m)]⟩ : ByteArray).size = 1 := rfl
      have HAP := Lib.hid hap
      clear hap
      go_wp2
      go_ret
      refine ⟨?_, hB⟩
      have e1 : Lib.decDigits n = [UInt8.ofNat (48 + m)] ++ t := by rw [HD.out, Lib.decDigits_one (by omega)]
      rw [e1, ← HAP.out, ofNat_48]
      rfl
set_option maxRecDepth 20000 in
set_option maxHeartbeats 2000000 in
theorem digits_any (n : Int) (w : World) (h1 : -1000000000000000000 ≤ n) (h2 : n ≤ 1000000000000000000) :
    Calls Tryd.prog 23 #[.int .i64 n] w fun e w' => e = .returned (.string ⟨(Lib.itoa n).toArray⟩) ∧ Below w.heap.size w w' := by
  by_cases hn : n < 0
  · obtain ⟨m, rfl⟩ : ∃ m : Nat, n = -(m : Int) := ⟨n.natAbs, by omega⟩
    have hi : Lib.itoa (-(m : Int)) = 45 :: Lib.decDigits m := by
      unfold Lib.itoa
      rw [if_pos hn]
      congr 2
      omega
    rw [hi]
    have C1 := Lib.hid (fun W => digits_nat m W (by omega))
    have hlen := decDigits_len_le m (by omega)
    have hap := str_app [45] (Lib.decDigits m)
    have HAP := Lib.hid hap
    have hsz : (⟨(Lib.decDigits m).toArray⟩ : ByteArray).size = (Lib.decDigits m).length := rfl
    have hz1 : (⟨#[45]⟩ : ByteArray).size = 1 := rfl
    have hne : ((-(m : Int)) == (m : Int)) = false := beq_eq_false_iff_ne.2 (by omega)
    have hnn : - -(m : Int) = m := Int.neg_neg _
    clear hap hi
    go_enter Tryd.func23, Tryd.ntmps23
    go_wp2_with fail
    refine (C1.out _).mono ?_
    rintro e w1 ⟨rfl, hb⟩
    go_wp2
    go_ret
    exact ⟨by rw [show (45 :: Lib.decDigits m) = [45] ++ Lib.decDigits m from rfl, ← HAP.out]; rfl, hb⟩
  · obtain ⟨m, rfl⟩ : ∃ m : Nat, n = (m : Int) := ⟨n.toNat, by omega⟩
    have hi : Lib.itoa (m : Int) = Lib.decDigits m := by
      unfold Lib.itoa
      rw [if_neg hn]; rfl
    rw [hi]
    exact digits_nat m w (by omega)
end Go.Proofs.YthpbkbbmedpecaaDoor
