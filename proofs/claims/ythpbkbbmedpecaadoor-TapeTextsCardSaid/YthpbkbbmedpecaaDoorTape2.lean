/- Tapes: whole, weight, the ones of a set. -/
import Derived.Test.YthpbkbbmedpecaaDoorTape1
import Derived.Lib.RabinKarpLaws
set_option linter.unusedSimpArgs false
set_option linter.unusedVariables false
namespace Go.Proofs.YthpbkbbmedpecaaDoor
open Go.RowKit
attribute [local go_sem] Later.cell

theorem pow60_le {n : Nat} (h : n ≤ 9) : (60 : Int) ^ n ≤ 60 ^ 9 := by
  have : n = 0 ∨ n = 1 ∨ n = 2 ∨ n = 3 ∨ n = 4 ∨ n = 5 ∨ n = 6 ∨ n = 7 ∨ n = 8 ∨ n = 9 := by omega
  rcases this with rfl | rfl | rfl | rfl | rfl | rfl | rfl | rfl | rfl | rfl <;> decide
set_option maxHeartbeats 1000000 in
theorem whole_any (A : Option Addr) (len cap : Nat) (w : World) (hm : len ≤ 10) :
    Calls Tryd.prog 43 #[.slice A len cap] w fun e w' => e = .returned (.int .i64 ((2 ^ len - 1 : Nat) : Int)) ∧ w = w' := by
  go_enter Tryd.func43, Tryd.ntmps43
  have hp : (2 : Int) ^ len = ((2 ^ len : Nat) : Int) := by simp
  have hb : 1 ≤ 2 ^ len ∧ 2 ^ len ≤ 1024 := ⟨Nat.pow_pos (by decide), Nat.pow_le_pow_right (by decide) hm⟩
  have HP := Lib.hid hp
  clear hp
  go_wp2
  go_ret
  refine ⟨ret_int ?_, rfl⟩
  have h3 := HP.out
  rw [h3]
  generalize 2 ^ len = N at *
  have h1 : wrap64 (N : Int) = N := IntWalk.wrap64_in _ ⟨by omega, by omega⟩
  rw [h1]
  have h2 : wrap64 ((N : Int) - 1) = (N : Int) - 1 := IntWalk.wrap64_in _ ⟨by omega, by omega⟩
  rw [h2]
  clear h1 h2 h3 HP
  omega
set_option maxHeartbeats 1000000 in
theorem weight_any (A : Option Addr) (len cap : Nat) (l : List Tp) (s : Nat) (w : World) (hm : len ≤ 10) (hs : s < 1024) (hx : Rows 3 int3 (0,0,0) w w.heap.size A len l) (hl : okL l) :
    Calls Tryd.prog 61 #[.slice A len cap, .int .i64 s] w fun e w' => e = .returned (.int .i64 (wgt l s)) ∧ Below w.heap.size w w' := by
  have HX := Lib.hid hx
  clear hx
  go_enter Tryd.func61, Tryd.ntmps61
  go_wp2
  go_loopw [10, 5] (fun i x W => ∃ k : Nat, k ≤ len ∧ i = .int .i64 k ∧ x = .int .i64 (wgt (l.take k) s) ∧ Below w.heap.size w W) (fun i _ _ => len - (intOf i).toNat)
  case atStart => exact ⟨0, Nat.zero_le _, rfl, rfl, Below.refl _ _⟩
  case round =>
    obtain ⟨k, hk, rfl, rfl, hb⟩ := hrel
    by_cases hlt : k < len
    · obtain ⟨b, off, rfl, hb0, hc1, hc2, hc3⟩ := rows_tp (HX.out.below hb) k hlt
      have hsz := hb.size
      have hkl : k < l.length := by rw [HX.out.1]; exact hlt
      have hsn := wgt_snoc (l.take k) (tpA l k) s
      rw [← take_snoc hkl, List.length_take, Nat.min_eq_left (by omega)] at hsn
      have hbx := wgt_bd (l := l.take k) (fun t ht => hl t (List.mem_of_mem_take ht)) s
      have hpw : (60 : Int) ^ (l.take k).length ≤ 60 ^ 9 := pow60_le (by rw [List.length_take]; omega)
      have hT := hl (tpA l k) (by unfold tpA; rw [List.getElem?_eq_getElem hkl]; exact List.getElem_mem hkl)
      have hX1 : 1 ≤ wgt (l.take k) s ∧ wgt (l.take k) s ≤ 10077696000000000 := by
        have : (60 : Int) ^ 9 = 10077696000000000 := by decide
        omega
      have hand := and_one (s / 2 ^ k) (Nat.lt_of_le_of_lt (Nat.div_le_self _ _) (by omega))
      rw [Int.natCast_ediv, Int.natCast_pow] at hand
      have hand2 : bits BinOp.and IntKind.i64 ((s : Int) / 2 ^ k) 1 = ((s / 2 ^ k % 2 : Nat) : Int) := hand
      clear hbx hpw hand
      generalize wgt (l.take k) s = X at *
      generalize tpA l k = T at *
      have hk1 : (k : Int) < len := by omega
      have hT1 := hT.2.2.2.1
      have hT2 := hT.2.2.2.2
      have hXT0 : 1 ≤ X * T.2.2 := by have : 1 * 1 ≤ X * T.2.2 := Int.mul_le_mul hX1.1 hT1 (by omega) (by omega); omega
      have hXT1 : X * T.2.2 ≤ 10077696000000000 * 60 := Int.mul_le_mul hX1.2 hT2 (by omega) (by omega)
      cases hbt : bt s k
      · have hq : (bits BinOp.and IntKind.i64 ((s : Int) / 2 ^ k) 1 == 1) = false := by
          rw [hand2]; unfold bt at hbt; generalize s / 2 ^ k % 2 = q at hbt ⊢; simp at hbt ⊢; omega
        have HN : Hid (wgt (l.take (k + 1)) s = X) := Lib.hid (by rw [hsn, hbt]; simp)
        clear hsn hbt hand2 hT
        go_wp2
        go_roundw
        case rel => exact ⟨k + 1, by omega, by go_num, by rw [HN.out], (by repeat (first | exact Below.refl _ _ | assumption | refine Below.setCell ?_ (by first | (simp; done) | (simp; omega) | omega) _ | refine Below.drew ?_ | refine below_drewN ?_ _ | refine Below.alloc ?_ (by first | (simp; done) | (simp; omega) | omega) _ | refine below_alloc ?_ _ | refine below_step ?_ (by assumption)))⟩
        case measure => simp [intOf]; omega
      · have hq : (bits BinOp.and IntKind.i64 ((s : Int) / 2 ^ k) 1 == 1) = true := by
          rw [hand2]; unfold bt at hbt; generalize s / 2 ^ k % 2 = q at hbt ⊢; simp at hbt ⊢; omega
        have HN : Hid (wgt (l.take (k + 1)) s = X * T.2.2) := Lib.hid (by rw [hsn, hbt]; simp)
        clear hsn hbt hand2 hT
        go_wp2
        go_roundw
        case rel => exact ⟨k + 1, by omega, by go_num, by rw [HN.out], (by repeat (first | exact Below.refl _ _ | assumption | refine Below.setCell ?_ (by first | (simp; done) | (simp; omega) | omega) _ | refine Below.drew ?_ | refine below_drewN ?_ _ | refine Below.alloc ?_ (by first | (simp; done) | (simp; omega) | omega) _ | refine below_alloc ?_ _ | refine below_step ?_ (by assumption)))⟩
        case measure => simp [intOf]; omega
    · have HN : Hid (wgt (l.take k) s = wgt l s) := Lib.hid (by rw [List.take_of_length_le (by rw [HX.out.1]; omega)])
      go_wp2
      go_ret
      exact ⟨ret_int HN.out, hb⟩
/-! ### The ones of a set -/
def ones1 (s : Int) : Int := IntKind.u64.wrap (bits BinOp.and IntKind.u64 (s / 2) 6148914691236517205 + bits BinOp.and IntKind.u64 s 6148914691236517205)
def ones2 (x : Int) : Int := IntKind.u64.wrap (bits BinOp.and IntKind.u64 (x / 4) 3689348814741910323 + bits BinOp.and IntKind.u64 x 3689348814741910323)
def ones3 (x : Int) : Int := bits BinOp.and IntKind.u64 (IntKind.u64.wrap (x / 16 + x)) 1085102592571150095
def ones4 (x : Int) : Int := IntKind.u64.wrap (x + x / 256)
def ones5 (x : Int) : Int := IntKind.u64.wrap (x + x / 65536)
def ones6 (x : Int) : Int := IntKind.u64.wrap (x + x / 4294967296)
def onesX (s : Int) : Int := bits BinOp.and IntKind.i64 (wrap64 (ones6 (ones5 (ones4 (ones3 (ones2 (ones1 s))))))) 127
theorem ones_all : (List.range 1024).all (fun s => onesX s == (pcf 10 s : Int)) = true := by decide +kernel
theorem ones_eq {s : Nat} (hs : s < 1024) : onesX s = (pcf 10 s : Int) := by
  have := List.all_eq_true.1 ones_all s (List.mem_range.2 hs)
  simpa using this
set_option maxHeartbeats 1000000 in
theorem ones64_any (s : Nat) (w : World) (hs : s < 1024) :
    Calls Tryd.prog 49 #[.int .u64 s] w fun e w' => e = .returned (.int .i64 (pcf 10 s : Int)) ∧ w = w' := by
  have hf := Lib.hid (ones_eq hs)
  generalize (pcf 10 s : Int) = R at *
  go_enter Tryd.func49, Tryd.ntmps49
  go_wp2
  go_ret
  exact ⟨ret_int hf.out, rfl⟩
set_option maxHeartbeats 1000000 in
theorem ones_any (s : Nat) (w : World) (hs : s < 1024) :
    Calls Tryd.prog 29 #[.int .u64 s] w fun e w' => e = .returned (.int .i64 (pcf 10 s : Int)) ∧ w = w' := by
  have c1 := fun W => ones64_any s W hs
  generalize (pcf 10 s : Int) = R at *
  have C1 := Lib.hid c1
  clear c1
  go_enter Tryd.func29, Tryd.ntmps29
  go_wp2_with (go_at_call 49; refine (C1.out _).mono ?_; rintro e w' ⟨rfl, rfl⟩)
  go_ret
  exact ⟨rfl, rfl⟩
end Go.Proofs.YthpbkbbmedpecaaDoor
