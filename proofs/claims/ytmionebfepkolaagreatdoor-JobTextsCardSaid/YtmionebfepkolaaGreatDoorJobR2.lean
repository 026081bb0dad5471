/- Plans: whether a text is a name, the program's and the reference's; SameInts of the sixth reference. -/
import Derived.Test.YtmionebfepkolaaGreatDoorJobR1
set_option linter.unusedSimpArgs false
set_option linter.unusedVariables false
namespace Go.Proofs.YtmionebfepkolaaGreatDoor
open Go.RowKit
attribute [local go_sem] Later.cell

set_option maxHeartbeats 400000 in
theorem swithin_any (n lo hi : Int) (w : World) :
    Calls Tryz.prog 54 #[.int .i64 n, .int .i64 lo, .int .i64 hi] w fun e w' => e = .returned (.bool (wi n lo hi)) ∧ w = w' := by
  go_enter Tryz.func54, Tryz.ntmps54
  go_wp2
  · go_ret
    exact ⟨ret_bool (wi_tt ‹_›), rfl⟩
  · go_ret
    exact ⟨ret_bool (wi_ff ‹_›), rfl⟩
theorem byte_at {s : ByteArray} {k : Nat} (h : k < s.size) : (((s[k]'h).toNat : Nat) : Int) = byA s k := by
  unfold byA
  have h2 : k < s.data.toList.length := by simpa using h
  rw [List.getElem?_eq_getElem h2]
  rfl
theorem name_cases (B : Int) (k : Nat) : (97 ≤ B ∧ B ≤ 122) ∨ (B < 97 ∧ k = 0) ∨ (B < 97 ∧ k ≠ 0 ∧ B = 95) ∨ (B < 97 ∧ k ≠ 0 ∧ B < 48) ∨ (B < 97 ∧ k ≠ 0 ∧ B ≠ 95 ∧ 57 < B) ∨ (B < 97 ∧ k ≠ 0 ∧ 48 ≤ B ∧ B ≤ 57) ∨ (122 < B ∧ k = 0) ∨ (122 < B ∧ k ≠ 0) := by omega
set_option maxRecDepth 20000 in
set_option maxHeartbeats 8000000 in
theorem isName_any (s : ByteArray) (w : World) (hs : s.size ≤ 9223372036854775807) :
    Calls Tryz.prog 59 #[.string s] w fun e w' => e = .returned (.bool (isNm s)) ∧ w = w' := by
  have c1 := fun W => jwithin_any (s.size : Int) 1 16 W
  have C1 := Lib.hid c1
  clear c1
  obtain ⟨R, hR⟩ : ∃ R, R = isNm s := ⟨_, rfl⟩
  rw [← hR]
  have HR := Lib.hid hR
  clear hR
  go_enter Tryz.func59, Tryz.ntmps59
  go_wp2
  go_loopw [7] (fun i wr => ∃ k : Nat, k ≤ s.size ∧ i = .int .i64 k ∧ Hid (∀ j, j < k → chV j (byA s j) = true) ∧ w = wr) (fun i _ => s.size - (intOf i).toNat)
  case atStart => exact ⟨0, Nat.zero_le _, rfl, Lib.hid (fun j h => absurd h (by omega)), rfl⟩
  case round =>
    obtain ⟨k, hk, rfl, HT, rfl⟩ := hrel
    by_cases hlt : k < s.size
    · have hby := byte_at hlt
      generalize hB : byA s k = B at *
      have HB := Lib.hid hB
      clear hB
      have hk1 : (k : Int) < s.size := by omega
      have hk2 : ¬ s.size ≤ k := by omega
      have hyes : Hid (chV k B = true → ∀ j, j < k + 1 → chV j (byA s j) = true) := Lib.hid (fun h j hj => by
        by_cases e : j = k
        · rw [e, HB.out]; exact h
        · exact HT.out j (by omega))
      have hno : Hid (chV k B = false → false = R) := Lib.hid (fun h => by
        rw [HR.out]
        symm
        unfold isNm
        rw [Bool.and_eq_false_iff]
        left
        rw [List.all_eq_false]
        exact ⟨k, List.mem_range.2 hlt, by rw [HB.out, h]; decide⟩)
      clear HT HB
      rcases name_cases B k with hc | hc | hc | hc | hc | hc | hc | hc
      · obtain ⟨a0, a1⟩ := hc
        have HY := Lib.hid (hyes.out (by simp [chV]; omega))
        have p0 : ¬ B < 97 := by omega
        have p1 : ¬ 122 < B := by omega
        clear hyes hno
        go_wp2
        go_roundw
        case rel => exact ⟨k + 1, by omega, by go_num, HY, by first | rfl | trivial⟩
        case measure => simp [intOf]; omega
      · obtain ⟨a0, a1⟩ := hc
        have HY := Lib.hid (hno.out (by simp [chV]; omega))
        subst a1
        have kk : ((0 : Int) == 0) = true := rfl
        have p0 : B < 97 := by omega
        have p1 : ¬ 97 ≤ B := by omega
        clear hyes hno
        go_wp2
        all_goals (go_ret; exact ⟨ret_bool HY.out, rfl⟩)
      · obtain ⟨a0, a1, a2⟩ := hc
        have HY := Lib.hid (hyes.out (by simp [chV]; omega))
        have kk : ((k : Int) == 0) = false := by simpa using a1
        subst a2
        clear hyes hno
        go_wp2
        go_roundw
        case rel => exact ⟨k + 1, by omega, by go_num, HY, by first | rfl | trivial⟩
        case measure => simp [intOf]; omega
      · obtain ⟨a0, a1, a2⟩ := hc
        have HY := Lib.hid (hno.out (by simp [chV]; omega))
        have kk : ((k : Int) == 0) = false := by simpa using a1
        have e1 : (B == 95) = false := by simp; omega
        have e2 : (B != 95) = true := by simp; omega
        have p0 : B < 97 := by omega
        have p1 : ¬ 97 ≤ B := by omega
        have p7 : ¬ 48 ≤ B := by omega
        clear hyes hno
        go_wp2
        all_goals (go_ret; exact ⟨ret_bool HY.out, rfl⟩)
      · obtain ⟨a0, a1, a2, a3⟩ := hc
        have HY := Lib.hid (hno.out (by simp [chV]; omega))
        have kk : ((k : Int) == 0) = false := by simpa using a1
        have e1 : (B == 95) = false := by simp; omega
        have e2 : (B != 95) = true := by simp; omega
        have p0 : B < 97 := by omega
        have p1 : ¬ 97 ≤ B := by omega
        have p8 : ¬ B < 48 := by omega
        have p9 : 48 ≤ B := by omega
        have p10 : ¬ B ≤ 57 := by omega
        clear hyes hno
        go_wp2
        all_goals (go_ret; exact ⟨ret_bool HY.out, rfl⟩)
      · obtain ⟨a0, a1, a2, a3⟩ := hc
        have HY := Lib.hid (hyes.out (by simp [chV]; omega))
        have kk : ((k : Int) == 0) = false := by simpa using a1
        have e1 : (B == 95) = false := by simp; omega
        have e2 : (B != 95) = true := by simp; omega
        have p0 : B < 97 := by omega
        have p1 : ¬ 97 ≤ B := by omega
        have p8 : ¬ B < 48 := by omega
        have p9 : ¬ 57 < B := by omega
        clear hyes hno
        go_wp2
        go_roundw
        case rel => exact ⟨k + 1, by omega, by go_num, HY, by first | rfl | trivial⟩
        case measure => simp [intOf]; omega
      · obtain ⟨a0, a1⟩ := hc
        have HY := Lib.hid (hno.out (by simp [chV]; omega))
        subst a1
        have kk : ((0 : Int) == 0) = true := rfl
        have e1 : (B == 95) = false := by simp; omega
        have e2 : (B != 95) = true := by simp; omega
        have p0 : ¬ B < 97 := by omega
        have p1 : 97 ≤ B := by omega
        have p2 : 122 < B := by omega
        have p3 : ¬ B ≤ 122 := by omega
        have p4 : ¬ B < 48 := by omega
        have p5 : 57 < B := by omega
        have p6 : 48 ≤ B := by omega
        have p7 : ¬ B ≤ 57 := by omega
        clear hyes hno
        go_wp2
        all_goals (go_ret; exact ⟨ret_bool HY.out, rfl⟩)
      · obtain ⟨a0, a1⟩ := hc
        have HY := Lib.hid (hno.out (by simp [chV]; omega))
        have kk : ((k : Int) == 0) = false := by simpa using a1
        have e1 : (B == 95) = false := by simp; omega
        have e2 : (B != 95) = true := by simp; omega
        have p0 : ¬ B < 97 := by omega
        have p1 : 97 ≤ B := by omega
        have p2 : 122 < B := by omega
        have p3 : ¬ B ≤ 122 := by omega
        have p4 : ¬ B < 48 := by omega
        have p5 : 57 < B := by omega
        have p6 : 48 ≤ B := by omega
        have p7 : ¬ B ≤ 57 := by omega
        clear hyes hno
        go_wp2
        all_goals (go_ret; exact ⟨ret_bool HY.out, rfl⟩)
    · have hkl : k = s.size := by omega
      have hfin : Hid (wi (s.size : Int) 1 16 = R) := Lib.hid (by
        rw [HR.out]
        unfold isNm
        have : ((List.range s.size).all fun i => chV i (byA s i)) = true := by
          rw [List.all_eq_true]
          intro j hj
          exact HT.out j (by have := List.mem_range.1 hj; omega)
        rw [this]; rfl)
      have hk1 : ¬ (k : Int) < s.size := by omega
      rw [hfin.out] at C1
      clear HT hfin
      go_wp2_with fail
      refine (C1.out _).mono ?_
      rintro e w2 ⟨rfl, rfl⟩
      go_wp2
      go_ret
      exact ⟨rfl, rfl⟩
set_option maxRecDepth 20000 in
set_option maxHeartbeats 8000000 in
theorem IsName_any (s : ByteArray) (w : World) (hs : s.size ≤ 9223372036854775807) :
    Calls Tryz.prog 31 #[.string s] w fun e w' => e = .returned (.bool (isNm s)) ∧ w = w' := by
  have c1 := fun W => swithin_any (s.size : Int) 1 16 W
  have C1 := Lib.hid c1
  clear c1
  obtain ⟨R, hR⟩ : ∃ R, R = isNm s := ⟨_, rfl⟩
  rw [← hR]
  have HR := Lib.hid hR
  clear hR
  go_enter Tryz.func31, Tryz.ntmps31
  go_wp2
  go_loopw [3] (fun i wr => ∃ k : Nat, k ≤ s.size ∧ i = .int .i64 k ∧ Hid (∀ j, j < k → chV j (byA s j) = true) ∧ w = wr) (fun i _ => s.size - (intOf i).toNat)
  case atStart => exact ⟨0, Nat.zero_le _, rfl, Lib.hid (fun j h => absurd h (by omega)), rfl⟩
  case round =>
    obtain ⟨k, hk, rfl, HT, rfl⟩ := hrel
    by_cases hlt : k < s.size
    · have hby := byte_at hlt
      generalize hB : byA s k = B at *
      have HB := Lib.hid hB
      clear hB
      have hk1 : (k : Int) < s.size := by omega
      have hk2 : ¬ s.size ≤ k := by omega
      have hyes : Hid (chV k B = true → ∀ j, j < k + 1 → chV j (byA s j) = true) := Lib.hid (fun h j hj => by
        by_cases e : j = k
        · rw [e, HB.out]; exact h
        · exact HT.out j (by omega))
      have hno : Hid (chV k B = false → false = R) := Lib.hid (fun h => by
        rw [HR.out]
        symm
        unfold isNm
        rw [Bool.and_eq_false_iff]
        left
        rw [List.all_eq_false]
        exact ⟨k, List.mem_range.2 hlt, by rw [HB.out, h]; decide⟩)
      clear HT HB
      rcases name_cases B k with hc | hc | hc | hc | hc | hc | hc | hc
      · obtain ⟨a0, a1⟩ := hc
        have HY := Lib.hid (hyes.out (by simp [chV]; omega))
        have p0 : ¬ B < 97 := by omega
        have p1 : ¬ 122 < B := by omega
        clear hyes hno
        go_wp2
        go_roundw
        case rel => exact ⟨k + 1, by omega, by go_num, HY, by first | rfl | trivial⟩
        case measure => simp [intOf]; omega
      · obtain ⟨a0, a1⟩ := hc
        have HY := Lib.hid (hno.out (by simp [chV]; omega))
        subst a1
        have kk : ((0 : Int) == 0) = true := rfl
        have p0 : B < 97 := by omega
        have p1 : ¬ 97 ≤ B := by omega
        clear hyes hno
        go_wp2
        all_goals (go_ret; exact ⟨ret_bool HY.out, rfl⟩)
      · obtain ⟨a0, a1, a2⟩ := hc
        have HY := Lib.hid (hyes.out (by simp [chV]; omega))
        have kk : ((k : Int) == 0) = false := by simpa using a1
        subst a2
        clear hyes hno
        go_wp2
        go_roundw
        case rel => exact ⟨k + 1, by omega, by go_num, HY, by first | rfl | trivial⟩
        case measure => simp [intOf]; omega
      · obtain ⟨a0, a1, a2⟩ := hc
        have HY := Lib.hid (hno.out (by simp [chV]; omega))
        have kk : ((k : Int) == 0) = false := by simpa using a1
        have e1 : (B == 95) = false := by simp; omega
        have e2 : (B != 95) = true := by simp; omega
        have p0 : B < 97 := by omega
        have p1 : ¬ 97 ≤ B := by omega
        have p7 : ¬ 48 ≤ B := by omega
        clear hyes hno
        go_wp2
        all_goals (go_ret; exact ⟨ret_bool HY.out, rfl⟩)
      · obtain ⟨a0, a1, a2, a3⟩ := hc
        have HY := Lib.hid (hno.out (by simp [chV]; omega))
        have kk : ((k : Int) == 0) = false := by simpa using a1
        have e1 : (B == 95) = false := by simp; omega
        have e2 : (B != 95) = true := by simp; omega
        have p0 : B < 97 := by omega
        have p1 : ¬ 97 ≤ B := by omega
        have p8 : ¬ B < 48 := by omega
        have p9 : 48 ≤ B := by omega
        have p10 : ¬ B ≤ 57 := by omega
        clear hyes hno
        go_wp2
        all_goals (go_ret; exact ⟨ret_bool HY.out, rfl⟩)
      · obtain ⟨a0, a1, a2, a3⟩ := hc
        have HY := Lib.hid (hyes.out (by simp [chV]; omega))
        have kk : ((k : Int) == 0) = false := by simpa using a1
        have e1 : (B == 95) = false := by simp; omega
        have e2 : (B != 95) = true := by simp; omega
        have p0 : B < 97 := by omega
        have p1 : ¬ 97 ≤ B := by omega
        have p8 : ¬ B < 48 := by omega
        have p9 : ¬ 57 < B := by omega
        clear hyes hno
        go_wp2
        go_roundw
        case rel => exact ⟨k + 1, by omega, by go_num, HY, by first | rfl | trivial⟩
        case measure => simp [intOf]; omega
      · obtain ⟨a0, a1⟩ := hc
        have HY := Lib.hid (hno.out (by simp [chV]; omega))
        subst a1
        have kk : ((0 : Int) == 0) = true := rfl
        have e1 : (B == 95) = false := by simp; omega
        have e2 : (B != 95) = true := by simp; omega
        have p0 : ¬ B < 97 := by omega
        have p1 : 97 ≤ B := by omega
        have p2 : 122 < B := by omega
        have p3 : ¬ B ≤ 122 := by omega
        have p4 : ¬ B < 48 := by omega
        have p5 : 57 < B := by omega
        have p6 : 48 ≤ B := by omega
        have p7 : ¬ B ≤ 57 := by omega
        clear hyes hno
        go_wp2
        all_goals (go_ret; exact ⟨ret_bool HY.out, rfl⟩)
      · obtain ⟨a0, a1⟩ := hc
        have HY := Lib.hid (hno.out (by simp [chV]; omega))
        have kk : ((k : Int) == 0) = false := by simpa using a1
        have e1 : (B == 95) = false := by simp; omega
        have e2 : (B != 95) = true := by simp; omega
        have p0 : ¬ B < 97 := by omega
        have p1 : 97 ≤ B := by omega
        have p2 : 122 < B := by omega
        have p3 : ¬ B ≤ 122 := by omega
        have p4 : ¬ B < 48 := by omega
        have p5 : 57 < B := by omega
        have p6 : 48 ≤ B := by omega
        have p7 : ¬ B ≤ 57 := by omega
        clear hyes hno
        go_wp2
        all_goals (go_ret; exact ⟨ret_bool HY.out, rfl⟩)
    · have hkl : k = s.size := by omega
      have hfin : Hid (wi (s.size : Int) 1 16 = R) := Lib.hid (by
        rw [HR.out]
        unfold isNm
        have : ((List.range s.size).all fun i => chV i (byA s i)) = true := by
          rw [List.all_eq_true]
          intro j hj
          exact HT.out j (by have := List.mem_range.1 hj; omega)
        rw [this]; rfl)
      have hk1 : ¬ (k : Int) < s.size := by omega
      rw [hfin.out] at C1
      clear HT hfin
      go_wp2_with fail
      refine (C1.out _).mono ?_
      rintro e w2 ⟨rfl, rfl⟩
      go_wp2
      go_ret
      exact ⟨rfl, rfl⟩
end Go.Proofs.YtmionebfepkolaaGreatDoor
