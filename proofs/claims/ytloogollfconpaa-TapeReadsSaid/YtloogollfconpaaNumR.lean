/- Contracts of the reference's small functions on numbers: Divisor, Lowest, Products, Compare. -/
import Derived.Test.YtloogollfconpaaRows
import Derived.Test.YtloogollfconpaaBase
import Derived.Test.YtloogollfconpaaShelf
import Derived.Deep.QuietTactic
import Derived.BigQuiet
namespace Go.Proofs.Ytloogollfconpaa
open Go.RowKit

theorem gcd_round {g : Nat} {x y : Int} (hg : Int.gcd x y = g) : Int.gcd y (x.tmod y) = g := by rw [gcd_step, hg]
theorem gcd_end {g : Nat} {x : Int} (hg : Int.gcd x 0 = g) : x = (g : Int) ∨ x = -(g : Int) := by
  rw [Int.gcd_zero_right] at hg; omega
theorem tmod_bd {x y : Int} (hy : y ≠ 0) : x.tmod y < y.natAbs ∧ -(y.natAbs : Int) < x.tmod y := by
  have h1 := Int.natAbs_tmod x y
  have h2 : x.natAbs % y.natAbs < y.natAbs := Nat.mod_lt _ (by omega)
  omega
theorem gcd_pos'' {n d : Int} (h1 : 1 ≤ d) : 1 ≤ Int.gcd n d := by have := gcd_pos' n d h1; omega

set_option maxHeartbeats 1000000 in
theorem Divisor_any (n d : Int) (w : World) (h1 : 1 ≤ d) (h2 : d ≤ 4611686018427387904) (h3 : -4611686018427387904 ≤ n) (h4 : n ≤ 4611686018427387904) :
    Calls Try.prog 59 #[.int .i64 n, .int .i64 d] w fun e w' => e = .returned (.int .i64 (Int.gcd n d : Int)) ∧ Below w.heap.size w w' := by
  have hgp := gcd_pos'' (n := n) h1
  have hgl := gcd_le' n d h1
  generalize hG : Int.gcd n d = g at *
  have HG := Lib.hid hG
  clear hG
  go_enter Try.func59, Try.ntmps59
  go_wp2
  go_loopw [0, 1] (fun a b wr => ∃ x y : Int, a = .int .i64 x ∧ b = .int .i64 y ∧ Int.gcd x y = g ∧ -4611686018427387904 ≤ x ∧ x ≤ 4611686018427387904 ∧ -4611686018427387904 ≤ y ∧ y ≤ 4611686018427387904 ∧ Below w.heap.size w wr) (fun _ b _ => (intOf b).natAbs)
  case atStart => exact ⟨n, d, rfl, rfl, HG.out, h3, h4, by omega, h2, Below.refl _ _⟩
  case round =>
    obtain ⟨x, y, rfl, rfl, hg, b1, b2, b3, b4, hB⟩ := hrel
    by_cases hy : y = 0
    · subst hy
      have he := gcd_end hg
      clear hg
      rcases he with rfl | rfl
      · go_wp2
        go_ret
        exact ⟨rfl, hB⟩
      · go_wp2
        go_ret
        exact ⟨ret_int (by omega), hB⟩
    · have hy' : (y == 0) = false := by simpa using hy
      have hm := tmod_bd (x := x) hy
      have hr := Lib.hid (gcd_round hg)
      clear hg
      go_wp2
      go_quiet (fail)
      generalize x.tmod y = z at *
      go_wp2
      go_roundw
      case rel => exact ⟨y, z, rfl, rfl, hr.out, b3, b4, by omega, by omega, below_drewN hB _⟩
      case measure => simp [intOf]; omega

set_option maxHeartbeats 1000000 in
theorem Lowest_any (n d : Int) (w : World) (h1 : 1 ≤ d) (h2 : d ≤ 4611686018427387904) (h3 : -4611686018427387904 ≤ n) (h4 : n ≤ 4611686018427387904) :
    Calls Try.prog 48 #[.int .i64 n, .int .i64 d] w fun e w' => e = .returned (.agg #[.int .i64 (lowN n d), .int .i64 (lowD n d)]) ∧ Below w.heap.size w w' := by
  have hD := fun W => Divisor_any n d W h1 h2 h3 h4
  have hgp := gcd_pos' n d h1
  have hgl := gcd_le' n d h1
  have e1 := tdiv_gcd_l n d
  have e2 := tdiv_gcd_r n d
  have q1 := lowN_abs n d h1
  have q2 := lowD_le n d h1
  have q3 := lowD_pos n d h1
  generalize ((Int.gcd n d : Nat) : Int) = g at *
  generalize lowN n d = N at *
  generalize lowD n d = D at *
  have HD := Lib.hid hD
  clear hD
  go_enter Try.func48, Try.ntmps48
  go_wp2_with (go_at_call 59; refine (HD.out _).mono ?_; rintro e w1 ⟨rfl, hb⟩)
  have hs : w.heap.size < w1.heap.size := by have := hb.size; simp at this; omega
  obtain ⟨hc, hf⟩ := bcell hb
  have hc0 : w1.cell? ⟨w.heap.size, 0, none⟩ = some (.int .i64 0) := by rw [hc _ _ (by simp)]; go_simp
  have hc1 : w1.cell? ⟨w.heap.size, 1, none⟩ = some (.int .i64 0) := by rw [hc _ _ (by simp)]; go_simp
  have hf0 : w1.frozen? ⟨w.heap.size, 0, none⟩ = false := by rw [hf _ _ (by simp)]; go_simp
  have hf1 : w1.frozen? ⟨w.heap.size, 1, none⟩ = false := by rw [hf _ _ (by simp)]; go_simp
  clear hc hf
  have hB : Below w.heap.size w w1 := ((Below.refl _ w).alloc (Nat.le_refl _) _).trans (hb.mono (by simp))
  clear hb
  go_region
  go_wp2
  refine bodyPost_ret (v := .agg #[.int .i64 N, .int .i64 D]) (by simp [results, Try.results48, go_sem, hc0, hc1]) rfl ⟨rfl, ?_⟩
  exact ((hB.drew).setCell (by simp) _).setCell (by simp) _


def sgn (n : Int) : Int := if n < 0 then -1 else if n = 0 then 0 else 1
def sgn2 (a b : Int) : Int := if a = 0 ∨ b = 0 then 0 else if (a < 0) ≠ (b < 0) then -1 else 1
set_option maxHeartbeats 1000000 in
theorem sign_any (a b : Int) (w : World) :
    Calls Try.prog 57 #[.int .i64 a, .int .i64 b] w fun e w' => e = .returned (.int .i64 (sgn2 a b)) ∧ w = w' := by
  by_cases ha : a = 0
  · subst ha
    go_enter Try.func57, Try.ntmps57
    go_wp2
    go_ret
    exact ⟨ret_int (by simp [sgn2]), rfl⟩
  · have ha' : (a == 0) = false := by simpa using ha
    by_cases hb : b = 0
    · subst hb
      go_enter Try.func57, Try.ntmps57
      go_wp2
      go_ret
      exact ⟨ret_int (by simp [sgn2]), rfl⟩
    · have hb' : (b == 0) = false := by simpa using hb
      by_cases h1 : a < 0 <;> by_cases h2 : b < 0
      all_goals
        go_enter Try.func57, Try.ntmps57
        go_wp2
        go_ret
        exact ⟨ret_int (by unfold sgn2; rw [if_neg (by omega)]; by_cases h5 : a < 0 <;> by_cases h6 : b < 0 <;> first | (simp [h5, h6]; done) | omega), rfl⟩
set_option maxHeartbeats 1000000 in
theorem size_any (n : Int) (w : World) (h1 : -9223372036854775808 ≤ n) (h2 : n ≤ 9223372036854775807) :
    Calls Try.prog 58 #[.int .i64 n] w fun e w' => e = .returned (.int .u64 (n.natAbs : Int)) ∧ w = w' := by
  by_cases h : n < 0
  · go_enter Try.func58, Try.ntmps58
    go_wp2
    go_ret
    exact ⟨ret_int (by simp only [IntKind.wrap_u64]; omega), rfl⟩
  · go_enter Try.func58, Try.ntmps58
    go_wp2
    go_ret
    exact ⟨ret_int (by omega), rfl⟩

theorem sgn_of_neg {n : Int} (h : n < 0) : sgn n = -1 := by simp [sgn, h]
theorem sgn_of_zero {n : Int} (h : n = 0) : sgn n = 0 := by simp [sgn, h]
theorem sgn_of_pos {n : Int} (h : 0 < n) : sgn n = 1 := by simp [sgn]; omega
theorem sgn2_eq (a b : Int) : sgn2 a b = sgn (a * b) := by
  unfold sgn2
  by_cases h0 : a = 0 ∨ b = 0
  · rw [if_pos h0, sgn_of_zero]; rcases h0 with h | h <;> simp [h]
  · rw [if_neg h0]
    rcases Int.lt_or_le a 0 with ha | ha <;> rcases Int.lt_or_le b 0 with hb | hb
    · rw [if_neg (by simp [ha, hb]), sgn_of_pos (Int.mul_pos_of_neg_of_neg ha hb)]
    · rw [if_pos (by simp [ha]; omega), sgn_of_neg (Int.mul_neg_of_neg_of_pos ha (by omega))]
    · rw [if_pos (by simp [hb]; omega), sgn_of_neg (Int.mul_neg_of_pos_of_neg (by omega) hb)]
    · rw [if_neg (by simp; omega), sgn_of_pos (Int.mul_pos (by omega) (by omega))]
/-- The two halves of a product of 128 bits. -/
def hiW (x y : Nat) : Nat := x * y / 18446744073709551616
def loW (x y : Nat) : Nat := x * y % 18446744073709551616
theorem Mul64_any (x y : Nat) (hx : x ≤ 9223372036854775808) (hy : y ≤ 9223372036854775808) (w : World) :
    Calls Try.prog 56 #[.int .u64 x, .int .u64 y] w fun e w' => e = .returned (.tuple #[.int .u64 (hiW x y : Int), .int .u64 (loW x y : Int)]) ∧ w = w' :=
  (Try.bits_Mul64 x y (by omega) (by omega) w).mono fun _ _ ⟨h1, h2⟩ => ⟨h1, h2.symm⟩
theorem halves_eq {x y z u : Nat} (h : hiW x y = hiW z u) (l : loW x y = loW z u) : x * y = z * u := by
  unfold hiW at h; unfold loW at l
  omega
theorem halves_lt {x y z u : Nat} (h : hiW x y < hiW z u ∨ hiW x y = hiW z u ∧ loW x y < loW z u) : x * y < z * u := by
  unfold hiW loW at h
  omega
theorem halves_gt {x y z u : Nat} (h : ¬ (hiW x y = hiW z u ∧ loW x y = loW z u)) (h' : ¬ (hiW x y < hiW z u ∨ hiW x y = hiW z u ∧ loW x y < loW z u)) : z * u < x * y := by
  unfold hiW loW at h h'
  omega
theorem sgn_cases (n : Int) : (sgn n = -1 ∧ n < 0) ∨ (sgn n = 0 ∧ n = 0) ∨ (sgn n = 1 ∧ 0 < n) := by
  rcases Int.lt_or_le n 0 with h | h
  · exact .inl ⟨sgn_of_neg h, h⟩
  · by_cases h0 : n = 0
    · exact .inr (.inl ⟨sgn_of_zero h0, h0⟩)
    · exact .inr (.inr ⟨sgn_of_pos (by omega), by omega⟩)
theorem natAbs_prod (a b : Int) : (a * b).natAbs = a.natAbs * b.natAbs := Int.natAbs_mul a b

set_option maxHeartbeats 2000000 in
theorem Products_any (a b c d : Int) (w : World) (h1 : -9223372036854775808 ≤ a) (h2 : a ≤ 9223372036854775807) (h3 : -9223372036854775808 ≤ b) (h4 : b ≤ 9223372036854775807) (h5 : -9223372036854775808 ≤ c) (h6 : c ≤ 9223372036854775807) (h7 : -9223372036854775808 ≤ d) (h8 : d ≤ 9223372036854775807) :
    Calls Try.prog 46 #[.int .i64 a, .int .i64 b, .int .i64 c, .int .i64 d] w fun e w' => e = .returned (.int .i64 (sgn (a * b - c * d))) ∧ w = w' := by
  have c1 : ∀ W, Calls Try.prog 57 #[.int .i64 a, .int .i64 b] W fun e w' => e = .returned (.int .i64 (sgn (a * b))) ∧ W = w' := fun W => by rw [← sgn2_eq]; exact sign_any a b W
  have c2 : ∀ W, Calls Try.prog 57 #[.int .i64 c, .int .i64 d] W fun e w' => e = .returned (.int .i64 (sgn (c * d))) ∧ W = w' := fun W => by rw [← sgn2_eq]; exact sign_any c d W
  have c3 := fun W => size_any a W h1 h2
  have c4 := fun W => size_any b W h3 h4
  have c5 := fun W => size_any c W h5 h6
  have c6 := fun W => size_any d W h7 h8
  have c7 := fun W => Mul64_any a.natAbs b.natAbs (by omega) (by omega) W
  have c8 := fun W => Mul64_any c.natAbs d.natAbs (by omega) (by omega) W
  have k1 := sgn_cases (a * b)
  have k2 := sgn_cases (c * d)
  have n1 := natAbs_prod a b
  have n2 := natAbs_prod c d
  have hq := @halves_eq a.natAbs b.natAbs c.natAbs d.natAbs
  have hl := @halves_lt a.natAbs b.natAbs c.natAbs d.natAbs
  have hg := @halves_gt a.natAbs b.natAbs c.natAbs d.natAbs
  generalize a * b = p at *
  generalize c * d = q at *
  generalize a.natAbs = xa at *
  generalize b.natAbs = xb at *
  generalize c.natAbs = xc at *
  generalize d.natAbs = xd at *
  rw [← n1, ← n2] at hq hl hg
  clear n1 n2
  generalize hiW xa xb = H at *
  generalize loW xa xb = L at *
  generalize hiW xc xd = K at *
  generalize loW xc xd = M at *
  have C1 := Lib.hid c1
  have C2 := Lib.hid c2
  have C3 := Lib.hid c3
  have C4 := Lib.hid c4
  have C5 := Lib.hid c5
  have C6 := Lib.hid c6
  have C7 := Lib.hid c7
  have C8 := Lib.hid c8
  clear c1 c2 c3 c4 c5 c6 c7 c8 h1 h2 h3 h4 h5 h6 h7 h8
  have hR : (p < q → sgn (p - q) = -1) ∧ (p = q → sgn (p - q) = 0) ∧ (q < p → sgn (p - q) = 1) := ⟨fun h => sgn_of_neg (by omega), fun h => sgn_of_zero (by omega), fun h => sgn_of_pos (by omega)⟩
  generalize sgn (p - q) = R at *
  by_cases hst : sgn p = sgn q
  · have C2' : Hid (∀ W, Calls Try.prog 57 #[.int .i64 c, .int .i64 d] W fun e w' => e = .returned (.int .i64 (sgn p)) ∧ W = w') := by rw [hst]; exact C2
    rw [← hst] at k2
    clear C2 hst
    generalize sgn p = S at *
    rcases Nat.lt_trichotomy H K with hHK | hHK | hHK
    · have hlt := hl (.inl hHK)
      have hfin : Hid (-S = R) := by
        show -S = R
        rcases k1 with ⟨rfl, k1⟩ | ⟨rfl, k1⟩ | ⟨rfl, k1⟩ <;> rcases k2 with ⟨e2, k2⟩ | ⟨e2, k2⟩ | ⟨e2, k2⟩ <;> first | omega | exact (hR.1 (by omega)).symm | exact (hR.2.2 (by omega)).symm
      have hS : -1 ≤ S ∧ S ≤ 1 := by omega
      have hEf : ((H : Int) == (K : Int)) = false := by simp; omega
      clear hl hg hq hR k1 k2
      go_enter Try.func46, Try.ntmps46
      go_wp2_with fail
      refine (C1.out _).mono ?_
      rintro e w1 ⟨rfl, rfl⟩
      go_wp2_with fail
      refine (C2'.out _).mono ?_
      rintro e w1 ⟨rfl, rfl⟩
      go_wp2_with fail
      refine (C3.out _).mono ?_
      rintro e w1 ⟨rfl, rfl⟩
      go_wp2_with fail
      refine (C4.out _).mono ?_
      rintro e w1 ⟨rfl, rfl⟩
      go_wp2_with fail
      refine (C7.out _).mono ?_
      rintro e w1 ⟨rfl, rfl⟩
      go_wp2_with fail
      refine (C5.out _).mono ?_
      rintro e w1 ⟨rfl, rfl⟩
      go_wp2_with fail
      refine (C6.out _).mono ?_
      rintro e w1 ⟨rfl, rfl⟩
      go_wp2_with fail
      refine (C8.out _).mono ?_
      rintro e w1 ⟨rfl, rfl⟩
      go_wp2
      go_ret
      exact ⟨ret_int hfin.out, rfl⟩
    · subst hHK
      rcases Nat.lt_trichotomy L M with hLM | hLM | hLM
      · have hlt := hl (.inr ⟨rfl, hLM⟩)
        have hfin : Hid (-S = R) := by
          show -S = R
          rcases k1 with ⟨rfl, k1⟩ | ⟨rfl, k1⟩ | ⟨rfl, k1⟩ <;> rcases k2 with ⟨e2, k2⟩ | ⟨e2, k2⟩ | ⟨e2, k2⟩ <;> first | omega | exact (hR.1 (by omega)).symm | exact (hR.2.2 (by omega)).symm
        have hS : -1 ≤ S ∧ S ≤ 1 := by omega
        have hEf : ((L : Int) == (M : Int)) = false := by simp; omega
        clear hl hg hq hR k1 k2
        go_enter Try.func46, Try.ntmps46
        go_wp2_with fail
        refine (C1.out _).mono ?_
        rintro e w1 ⟨rfl, rfl⟩
        go_wp2_with fail
        refine (C2'.out _).mono ?_
        rintro e w1 ⟨rfl, rfl⟩
        go_wp2_with fail
        refine (C3.out _).mono ?_
        rintro e w1 ⟨rfl, rfl⟩
        go_wp2_with fail
        refine (C4.out _).mono ?_
        rintro e w1 ⟨rfl, rfl⟩
        go_wp2_with fail
        refine (C7.out _).mono ?_
        rintro e w1 ⟨rfl, rfl⟩
        go_wp2_with fail
        refine (C5.out _).mono ?_
        rintro e w1 ⟨rfl, rfl⟩
        go_wp2_with fail
        refine (C6.out _).mono ?_
        rintro e w1 ⟨rfl, rfl⟩
        go_wp2_with fail
        refine (C8.out _).mono ?_
        rintro e w1 ⟨rfl, rfl⟩
        go_wp2
        go_ret
        exact ⟨ret_int hfin.out, rfl⟩
      · subst hLM
        have hlt := hq rfl rfl
        have hfin : Hid (0 = R) := by
          show 0 = R
          rcases k1 with ⟨rfl, k1⟩ | ⟨rfl, k1⟩ | ⟨rfl, k1⟩ <;> rcases k2 with ⟨e2, k2⟩ | ⟨e2, k2⟩ | ⟨e2, k2⟩ <;> first | omega | exact (hR.2.1 (by omega)).symm
        clear hl hg hq hR k1 k2
        go_enter Try.func46, Try.ntmps46
        go_wp2_with fail
        refine (C1.out _).mono ?_
        rintro e w1 ⟨rfl, rfl⟩
        go_wp2_with fail
        refine (C2'.out _).mono ?_
        rintro e w1 ⟨rfl, rfl⟩
        go_wp2_with fail
        refine (C3.out _).mono ?_
        rintro e w1 ⟨rfl, rfl⟩
        go_wp2_with fail
        refine (C4.out _).mono ?_
        rintro e w1 ⟨rfl, rfl⟩
        go_wp2_with fail
        refine (C7.out _).mono ?_
        rintro e w1 ⟨rfl, rfl⟩
        go_wp2_with fail
        refine (C5.out _).mono ?_
        rintro e w1 ⟨rfl, rfl⟩
        go_wp2_with fail
        refine (C6.out _).mono ?_
        rintro e w1 ⟨rfl, rfl⟩
        go_wp2_with fail
        refine (C8.out _).mono ?_
        rintro e w1 ⟨rfl, rfl⟩
        go_wp2
        go_ret
        exact ⟨ret_int hfin.out, rfl⟩
      · have hlt := hg (by omega) (by omega)
        have hfin : Hid (S = R) := by
          show S = R
          rcases k1 with ⟨rfl, k1⟩ | ⟨rfl, k1⟩ | ⟨rfl, k1⟩ <;> rcases k2 with ⟨e2, k2⟩ | ⟨e2, k2⟩ | ⟨e2, k2⟩ <;> first | omega | exact (hR.1 (by omega)).symm | exact (hR.2.2 (by omega)).symm
        have hEf : ((L : Int) == (M : Int)) = false := by simp; omega
        clear hl hg hq hR k1 k2
        go_enter Try.func46, Try.ntmps46
        go_wp2_with fail
        refine (C1.out _).mono ?_
        rintro e w1 ⟨rfl, rfl⟩
        go_wp2_with fail
        refine (C2'.out _).mono ?_
        rintro e w1 ⟨rfl, rfl⟩
        go_wp2_with fail
        refine (C3.out _).mono ?_
        rintro e w1 ⟨rfl, rfl⟩
        go_wp2_with fail
        refine (C4.out _).mono ?_
        rintro e w1 ⟨rfl, rfl⟩
        go_wp2_with fail
        refine (C7.out _).mono ?_
        rintro e w1 ⟨rfl, rfl⟩
        go_wp2_with fail
        refine (C5.out _).mono ?_
        rintro e w1 ⟨rfl, rfl⟩
        go_wp2_with fail
        refine (C6.out _).mono ?_
        rintro e w1 ⟨rfl, rfl⟩
        go_wp2_with fail
        refine (C8.out _).mono ?_
        rintro e w1 ⟨rfl, rfl⟩
        go_wp2
        go_ret
        exact ⟨ret_int hfin.out, rfl⟩
    · have hlt := hg (by omega) (by omega)
      have hfin : Hid (S = R) := by
        show S = R
        rcases k1 with ⟨rfl, k1⟩ | ⟨rfl, k1⟩ | ⟨rfl, k1⟩ <;> rcases k2 with ⟨e2, k2⟩ | ⟨e2, k2⟩ | ⟨e2, k2⟩ <;> first | omega | exact (hR.1 (by omega)).symm | exact (hR.2.2 (by omega)).symm
      have hEf : ((H : Int) == (K : Int)) = false := by simp; omega
      clear hl hg hq hR k1 k2
      go_enter Try.func46, Try.ntmps46
      go_wp2_with fail
      refine (C1.out _).mono ?_
      rintro e w1 ⟨rfl, rfl⟩
      go_wp2_with fail
      refine (C2'.out _).mono ?_
      rintro e w1 ⟨rfl, rfl⟩
      go_wp2_with fail
      refine (C3.out _).mono ?_
      rintro e w1 ⟨rfl, rfl⟩
      go_wp2_with fail
      refine (C4.out _).mono ?_
      rintro e w1 ⟨rfl, rfl⟩
      go_wp2_with fail
      refine (C7.out _).mono ?_
      rintro e w1 ⟨rfl, rfl⟩
      go_wp2_with fail
      refine (C5.out _).mono ?_
      rintro e w1 ⟨rfl, rfl⟩
      go_wp2_with fail
      refine (C6.out _).mono ?_
      rintro e w1 ⟨rfl, rfl⟩
      go_wp2_with fail
      refine (C8.out _).mono ?_
      rintro e w1 ⟨rfl, rfl⟩
      go_wp2
      go_ret
      exact ⟨ret_int hfin.out, rfl⟩
  · have hne : (sgn p != sgn q) = true := by simpa using hst
    have R1 := Lib.hid hR.1
    have R2 := Lib.hid hR.2.2
    clear hR hq hl hg
    by_cases hlt : sgn p < sgn q
    · have hpq : p < q := by omega
      go_enter Try.func46, Try.ntmps46
      go_wp2_with fail
      refine (C1.out _).mono ?_
      rintro e w1 ⟨rfl, rfl⟩
      go_wp2_with fail
      refine (C2.out _).mono ?_
      rintro e w1 ⟨rfl, rfl⟩
      go_wp2
      go_ret
      exact ⟨ret_int (R1.out hpq).symm, rfl⟩
    · have hpq : q < p := by omega
      go_enter Try.func46, Try.ntmps46
      go_wp2_with fail
      refine (C1.out _).mono ?_
      rintro e w1 ⟨rfl, rfl⟩
      go_wp2_with fail
      refine (C2.out _).mono ?_
      rintro e w1 ⟨rfl, rfl⟩
      go_wp2
      go_ret
      exact ⟨ret_int (R2.out hpq).symm, rfl⟩
/-- The denominator as Compare takes it. -/
def den1 (d : Int) : Int := if d ≤ 0 then 1 else d
/-- How two fractions compare: -1, 0, 1. -/
def cmpR (an ad bn bd : Int) : Int := sgn (an * den1 bd - bn * den1 ad)
set_option maxHeartbeats 2000000 in
theorem Compare_any (an ad bn bd : Int) (w : World) (h1 : -9223372036854775808 ≤ an) (h2 : an ≤ 9223372036854775807) (h3 : -9223372036854775808 ≤ ad) (h4 : ad ≤ 9223372036854775807) (h5 : -9223372036854775808 ≤ bn) (h6 : bn ≤ 9223372036854775807) (h7 : -9223372036854775808 ≤ bd) (h8 : bd ≤ 9223372036854775807) :
    Calls Try.prog 31 #[.agg #[.int .i64 an, .int .i64 ad], .agg #[.int .i64 bn, .int .i64 bd]] w fun e w' => e = .returned (.int .i64 (cmpR an ad bn bd)) ∧ Below w.heap.size w w' := by
  have C := fun x y W (a1 : -9223372036854775808 ≤ x) (a2 : x ≤ 9223372036854775807) (a3 : -9223372036854775808 ≤ y) (a4 : y ≤ 9223372036854775807) => Products_any an x bn y W h1 h2 a1 a2 h5 h6 a3 a4
  have C' := Lib.hid C
  clear C
  have hfin : Hid (cmpR an ad bn bd = sgn (an * (if bd ≤ 0 then 1 else bd) - bn * (if ad ≤ 0 then 1 else ad))) := rfl
  generalize cmpR an ad bn bd = R at *
  by_cases k1 : ad ≤ 0 <;> by_cases k2 : bd ≤ 0
  · have hf : Hid (sgn (an * 1 - bn * 1) = R) := by have h := hfin.out; rw [if_pos k1, if_pos k2] at h; exact h.symm
    go_enter Try.func31, Try.ntmps31
    go_wp2_with (go_at_call 46; refine (C'.out _ _ _ (by omega) (by omega) (by omega) (by omega)).mono ?_; rintro e w1 ⟨rfl, rfl⟩)
    go_ret
    exact ⟨ret_int (by have h := hf.out; simpa only [Int.mul_one] using h), by repeat (first | exact Below.refl _ _ | refine Below.setCell ?_ (by simp) _ | refine Below.drew ?_ | refine below_drewN ?_ _ | refine Below.alloc ?_ (by simp) _)⟩
  · have hf : Hid (sgn (an * bd - bn * 1) = R) := by have h := hfin.out; rw [if_pos k1, if_neg k2] at h; exact h.symm
    go_enter Try.func31, Try.ntmps31
    go_wp2_with (go_at_call 46; refine (C'.out _ _ _ (by omega) (by omega) (by omega) (by omega)).mono ?_; rintro e w1 ⟨rfl, rfl⟩)
    go_ret
    exact ⟨ret_int (by have h := hf.out; simpa only [Int.mul_one] using h), by repeat (first | exact Below.refl _ _ | refine Below.setCell ?_ (by simp) _ | refine Below.drew ?_ | refine below_drewN ?_ _ | refine Below.alloc ?_ (by simp) _)⟩
  · have hf : Hid (sgn (an * 1 - bn * ad) = R) := by have h := hfin.out; rw [if_neg k1, if_pos k2] at h; exact h.symm
    go_enter Try.func31, Try.ntmps31
    go_wp2_with (go_at_call 46; refine (C'.out _ _ _ (by omega) (by omega) (by omega) (by omega)).mono ?_; rintro e w1 ⟨rfl, rfl⟩)
    go_ret
    exact ⟨ret_int (by have h := hf.out; simpa only [Int.mul_one] using h), by repeat (first | exact Below.refl _ _ | refine Below.setCell ?_ (by simp) _ | refine Below.drew ?_ | refine below_drewN ?_ _ | refine Below.alloc ?_ (by simp) _)⟩
  · have hf : Hid (sgn (an * bd - bn * ad) = R) := by have h := hfin.out; rw [if_neg k1, if_neg k2] at h; exact h.symm
    go_enter Try.func31, Try.ntmps31
    go_wp2_with (go_at_call 46; refine (C'.out _ _ _ (by omega) (by omega) (by omega) (by omega)).mono ?_; rintro e w1 ⟨rfl, rfl⟩)
    go_ret
    exact ⟨ret_int (by have h := hf.out; simpa only [Int.mul_one] using h), by repeat (first | exact Below.refl _ _ | refine Below.setCell ?_ (by simp) _ | refine Below.drew ?_ | refine below_drewN ?_ _ | refine Below.alloc ?_ (by simp) _)⟩
end Go.Proofs.Ytloogollfconpaa
