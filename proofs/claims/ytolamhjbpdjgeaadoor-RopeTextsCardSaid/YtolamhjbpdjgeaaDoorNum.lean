/- Contracts of the small functions on numbers: within, loads, ratio, Lowest, Floor, Compare. -/
import Derived.Test.YtolamhjbpdjgeaaDoorRows
import Derived.Test.YtolamhjbpdjgeaaDoorBase
import Derived.Test.YtolamhjbpdjgeaaDoorShelf
import Derived.Deep.QuietTactic
import Derived.BigQuiet
namespace Go.Proofs.YtolamhjbpdjgeaaDoor
open Go.RowKit

set_option maxHeartbeats 400000 in
theorem within_any (n lo hi : Int) (w : World) :
    Calls Tryd.prog 35 #[.int .i64 n, .int .i64 lo, .int .i64 hi] w fun e w' => e = .returned (.bool (withinB n lo hi)) ∧ w = w' := by
  go_enter Tryd.func35, Tryd.ntmps35
  go_wp2
  · go_ret
    exact ⟨ret_bool (withinB_tt ‹_›), rfl⟩
  · go_ret
    exact ⟨ret_bool (withinB_ff ‹_›), rfl⟩

set_option maxHeartbeats 400000 in
theorem rwithin_any (n lo hi : Int) (w : World) :
    Calls Tryd.prog 20 #[.int .i64 n, .int .i64 lo, .int .i64 hi] w fun e w' => e = .returned (.bool (withinB n lo hi)) ∧ w = w' := by
  go_enter Tryd.func20, Tryd.ntmps20
  go_wp2
  · go_ret
    exact ⟨ret_bool (withinB_tt ‹_›), rfl⟩
  · go_ret
    exact ⟨ret_bool (withinB_ff ‹_›), rfl⟩

set_option maxHeartbeats 400000 in
theorem rload_any (n : Int) (w : World) :
    Calls Tryd.prog 21 #[.int .i64 n] w fun e w' => e = .returned (.bool (withinB n 0 1000000)) ∧ w = w' := by
  go_enter Tryd.func21, Tryd.ntmps21
  go_wp2_with (go_at_call 20; refine (rwithin_any _ _ _ _).mono ?_; rintro e w' ⟨rfl, rfl⟩)
  go_ret
  exact ⟨rfl, rfl⟩

def loadsB (xs : List Int) : Bool := xs.all (withinB · 0 1000000)
set_option maxHeartbeats 400000 in
theorem loads_any (A : Option Addr) (len cap : Nat) (xs : List Int) (w : World) (hm : len ≤ 4611686018427387904) (hx : Ints w w.heap.size A len xs) :
    Calls Tryd.prog 24 #[.slice A len cap] w fun e w' => e = .returned (.bool (loadsB xs)) ∧ w = w' := by
  have HX := Lib.hid hx
  clear hx
  go_enter Tryd.func24, Tryd.ntmps24
  go_wp2
  go_loop [7] (fun i => ∃ k : Nat, k ≤ len ∧ i = .int .i64 k ∧ (xs.take k).all (withinB · 0 1000000) = true) (fun i => len - (intOf i).toNat)
  case atStart => exact ⟨0, Nat.zero_le _, rfl, rfl⟩
  case round =>
    obtain ⟨k, hk, rfl, ht⟩ := hrel
    have HT := Lib.hid ht
    clear ht
    by_cases hlt : k < len
    · obtain ⟨b, off, rfl, hb, hc⟩ := HX.out.at_ k hlt
      have hlen : k < xs.length := by rw [HX.out.1]; exact hlt
      have HA := fun hp => all_of_drop (d := 0) (p := (withinB · 0 1000000)) hlen hp HT.out
      have HF := all_false_of (d := 0) (p := (withinB · 0 1000000)) hlen
      have HA' := Lib.hid HA
      have HF' := Lib.hid HF
      clear HA HF
      generalize xs[k]?.getD 0 = X at *
      by_cases hp : withinB X 0 1000000 = true
      · go_wp2_with (go_at_call 35; refine (within_any _ _ _ _).mono ?_; rintro e w' ⟨rfl, rfl⟩)
        go_round
        case rel => exact ⟨k + 1, by omega, by go_num, HA'.out hp⟩
        case measure => simp [intOf]; omega
      · have hp' : withinB X 0 1000000 = false := by simpa using hp
        clear hp
        go_wp2_with (go_at_call 35; refine (within_any _ _ _ _).mono ?_; rintro e w' ⟨rfl, rfl⟩)
        go_ret
        exact ⟨ret_bool (HF'.out hp').symm, rfl⟩
    · go_wp2
      go_ret
      exact ⟨ret_bool (by rw [loadsB, ← HT.out, List.take_of_length_le (by rw [HX.out.1]; omega)]), rfl⟩

theorem gcd_round {g : Nat} {x y : Int} (hg : Int.gcd x y = g) : Int.gcd y (x.tmod y) = g := by rw [gcd_step, hg]
theorem gcd_end {g : Nat} {x : Int} (hg : Int.gcd x 0 = g) : x = (g : Int) ∨ x = -(g : Int) := by
  rw [Int.gcd_zero_right] at hg; omega
theorem tmod_bd {x y : Int} (hy : y ≠ 0) : x.tmod y < y.natAbs ∧ -(y.natAbs : Int) < x.tmod y := by
  have h1 := Int.natAbs_tmod x y
  have h2 : x.natAbs % y.natAbs < y.natAbs := Nat.mod_lt _ (by omega)
  omega
theorem gcd_pos'' {n d : Int} (h1 : 1 ≤ d) : 1 ≤ Int.gcd n d := by have := gcd_pos' n d h1; omega

set_option maxHeartbeats 1000000 in
theorem ratio_any (n d : Int) (w : World) (h1 : 1 ≤ d) (h2 : d ≤ 4611686018427387904) (h3 : -4611686018427387904 ≤ n) (h4 : n ≤ 4611686018427387904) :
    Calls Tryd.prog 34 #[.int .i64 n, .int .i64 d] w fun e w' => e = .returned (.agg #[.int .i64 (lowN n d), .int .i64 (lowD n d)]) ∧ Below w.heap.size w w' := by
  have hgp := gcd_pos'' (n := n) h1
  have hgl := gcd_le' n d h1
  have e1 := tdiv_gcd_l n d
  have e2 := tdiv_gcd_r n d
  have q1 := lowN_abs n d h1
  have q2 := lowD_le n d h1
  have q3 := lowD_pos n d h1
  generalize hG : Int.gcd n d = g at *
  generalize lowN n d = N at *
  generalize lowD n d = D at *
  have HG := Lib.hid hG
  have E1 := Lib.hid e1
  have E2 := Lib.hid e2
  clear hG e1 e2
  go_enter Tryd.func34, Tryd.ntmps34
  go_wp2
  go_loopw [5, 6] (fun a b wr => ∃ x y : Int, a = .int .i64 x ∧ b = .int .i64 y ∧ Int.gcd x y = g ∧ -4611686018427387904 ≤ x ∧ x ≤ 4611686018427387904 ∧ -4611686018427387904 ≤ y ∧ y ≤ 4611686018427387904 ∧ (∃ m, wr = (w.alloc (.cells #[.int .i64 0, .int .i64 0] 32)).drewN m)) (fun _ b _ => (intOf b).natAbs)
  case atStart => exact ⟨n, d, rfl, rfl, HG.out, h3, h4, by omega, h2, 0, rfl⟩
  case round =>
    obtain ⟨x, y, rfl, rfl, hg, b1, b2, b3, b4, m, rfl⟩ := hrel
    by_cases hy : y = 0
    · subst hy
      have he := gcd_end hg
      clear hg
      have e1 := E1.out
      have e2 := E2.out
      rcases he with rfl | rfl
      all_goals
        go_wp2
        go_region
        go_wp2
        refine bodyPost_ret (v := .agg #[.int .i64 N, .int .i64 D]) (by first | (simp [results, Tryd.results34, go_sem]; done) | (simp [results, Tryd.results34, go_sem, show ∀ q : Nat, max (q : Int) (-(q : Int)) = q by intro q; omega, show ∀ q : Nat, max (-(q : Int)) (q : Int) = q by intro q; omega]; exact ⟨e1, by first | exact e2 | (rw [← Int.tdiv_eq_ediv_of_nonneg (by omega)]; exact e2)⟩)) rfl ⟨rfl, ?_⟩
        repeat (first | exact Below.refl _ _ | refine Below.setCell ?_ (by simp) _ | refine Below.drew ?_ | refine below_drewN ?_ _ | refine Below.alloc ?_ (by simp) _)
    · have hy' : (y == 0) = false := by simpa using hy
      have hm := tmod_bd (x := x) hy
      have hr := Lib.hid (gcd_round hg)
      clear hg
      go_wp2
      go_quiet (fail)
      generalize x.tmod y = z at *
      go_wp2
      go_roundw
      case rel => exact ⟨y, z, rfl, rfl, hr.out, b3, b4, by omega, by omega, m + nq, World.drewN_drewN _ _ _⟩
      case measure => simp [intOf]; omega

/-! ### Compare -/
def sgn (n : Int) : Int := if n < 0 then -1 else if n = 0 then 0 else 1
def sgn2 (a b : Int) : Int := if a = 0 ∨ b = 0 then 0 else if (a < 0) ≠ (b < 0) then -1 else 1
theorem sgn_of_neg {n : Int} (h : n < 0) : sgn n = -1 := by simp [sgn, h]
theorem sgn_of_zero {n : Int} (h : n = 0) : sgn n = 0 := by simp [sgn, h]
theorem sgn_of_pos {n : Int} (h : 0 < n) : sgn n = 1 := by simp [sgn]; omega
theorem sgn2_eq (a b : Int) : sgn2 a b = sgn (a * b) := by
  unfold sgn2
  by_cases h0 : a = 0 ∨ b = 0
  · rw [if_pos h0, sgn_of_zero]; rcases h0 with h | h <;> simp [h]
  · rw [if_neg h0]
    rcases Int.lt_or_le a 0 with ha | ha <;> rcases Int.lt_or_le b 0 with hb | hb
    · rw [if_neg (by simp [ha, hb]), sgn_of_pos (Int.mul_pos_of_neg_of_neg ha hb)]
    · rw [if_pos (by simp [ha]; omega), sgn_of_neg (Int.mul_neg_of_neg_of_pos ha (by omega))]
    · rw [if_pos (by simp [hb]; omega), sgn_of_neg (Int.mul_neg_of_pos_of_neg (by omega) hb)]
    · rw [if_neg (by simp; omega), sgn_of_pos (Int.mul_pos (by omega) (by omega))]
/-- The two halves of a product of 128 bits. -/
def hiW (x y : Nat) : Nat := x * y / 18446744073709551616
def loW (x y : Nat) : Nat := x * y % 18446744073709551616
theorem halves_eq {x y z u : Nat} (h : hiW x y = hiW z u) (l : loW x y = loW z u) : x * y = z * u := by
  unfold hiW at h; unfold loW at l
  omega
theorem halves_lt {x y z u : Nat} (h : hiW x y < hiW z u ∨ hiW x y = hiW z u ∧ loW x y < loW z u) : x * y < z * u := by
  unfold hiW loW at h
  omega
theorem halves_gt {x y z u : Nat} (h : ¬ (hiW x y = hiW z u ∧ loW x y = loW z u)) (h' : ¬ (hiW x y < hiW z u ∨ hiW x y = hiW z u ∧ loW x y < loW z u)) : z * u < x * y := by
  unfold hiW loW at h h'
  omega
theorem sgn_cases (n : Int) : (sgn n = -1 ∧ n < 0) ∨ (sgn n = 0 ∧ n = 0) ∨ (sgn n = 1 ∧ 0 < n) := by
  rcases Int.lt_or_le n 0 with h | h
  · exact .inl ⟨sgn_of_neg h, h⟩
  · by_cases h0 : n = 0
    · exact .inr (.inl ⟨sgn_of_zero h0, h0⟩)
    · exact .inr (.inr ⟨sgn_of_pos (by omega), by omega⟩)
theorem natAbs_prod (a b : Int) : (a * b).natAbs = a.natAbs * b.natAbs := Int.natAbs_mul a b

/-- The denominator as Compare takes it. -/
def den1 (d : Int) : Int := if d ≤ 0 then 1 else d
/-- How two fractions compare: -1, 0, 1. -/
def cmpR (an ad bn bd : Int) : Int := sgn (an * den1 bd - bn * den1 ad)
end Go.Proofs.YtolamhjbpdjgeaaDoor
