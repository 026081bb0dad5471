/- Stacks: ratio, arms of the program. -/
import Derived.Test.YtfahdgmnlpkaiaaStk0
import Derived.Test.YtfahdgmnlpkaiaaBoxN
set_option linter.unusedSimpArgs false
set_option linter.unusedVariables false
namespace Go.Proofs.Ytfahdgmnlpkaiaa
open Go.RowKit
attribute [local go_sem] Later.cell

set_option maxHeartbeats 1000000 in
theorem sratio_any (n d : Int) (w : World) (h1 : 1 ≤ d) (h2 : d ≤ 4611686018427387904) (h3 : -4611686018427387904 ≤ n) (h4 : n ≤ 4611686018427387904) :
    Calls Try.prog 19 #[.int .i64 n, .int .i64 d] w fun e w' => e = .returned (.agg #[.int .i64 (lowN n d), .int .i64 (lowD n d)]) ∧ Below w.heap.size w w' := by
  have hgp := gcd_pos'' (n := n) h1
  have hgl := gcd_le' n d h1
  have e1 := tdiv_gcd_l n d
  have e2 := tdiv_gcd_r n d
  have q1 := lowN_abs n d h1
  have q2 := lowD_le n d h1
  have q3 := lowD_pos n d h1
  generalize hG : Int.gcd n d = g at *
  generalize lowN n d = N at *
  generalize lowD n d = D at *
  have HG := Lib.hid hG
  have E1 := Lib.hid e1
  have E2 := Lib.hid e2
  clear hG e1 e2
  go_enter Try.func19, Try.ntmps19
  go_wp2
  go_loopw [5, 6] (fun a b wr => ∃ x y : Int, a = .int .i64 x ∧ b = .int .i64 y ∧ Int.gcd x y = g ∧ -4611686018427387904 ≤ x ∧ x ≤ 4611686018427387904 ∧ -4611686018427387904 ≤ y ∧ y ≤ 4611686018427387904 ∧ (∃ m, wr = (w.alloc (.cells #[.int .i64 0, .int .i64 0] 34)).drewN m)) (fun _ b _ => (intOf b).natAbs)
  case atStart => exact ⟨n, d, rfl, rfl, HG.out, h3, h4, by omega, h2, 0, rfl⟩
  case round =>
    obtain ⟨x, y, rfl, rfl, hg, b1, b2, b3, b4, m, rfl⟩ := hrel
    by_cases hy : y = 0
    · subst hy
      have he := gcd_end hg
      clear hg
      have e1 := E1.out
      have e2 := E2.out
      rcases he with rfl | rfl
      all_goals
        go_wp2
        go_region
        go_wp2
        refine bodyPost_ret (v := .agg #[.int .i64 N, .int .i64 D]) (by simp [results, Try.results19, go_sem]) rfl ⟨rfl, ?_⟩
        repeat (first | exact Below.refl _ _ | refine Below.setCell ?_ (by simp) _ | refine Below.drew ?_ | refine below_drewN ?_ _ | refine Below.alloc ?_ (by simp) _)
    · have hy' : (y == 0) = false := by simpa using hy
      have hm := tmod_bd (x := x) hy
      have hr := Lib.hid (gcd_round hg)
      clear hg
      go_wp2
      go_quiet (fail)
      generalize x.tmod y = z at *
      go_wp2
      go_roundw
      case rel => exact ⟨y, z, rfl, rfl, hr.out, b3, b4, by omega, by omega, m + nq, World.drewN_drewN _ _ _⟩
      case measure => simp [intOf]; omega

theorem mulB {x y A B : Int} (hA : -A ≤ x ∧ x ≤ A) (hB : -B ≤ y ∧ y ≤ B) : -(A * B) ≤ x * y ∧ x * y ≤ A * B := by
  have h1 : x.natAbs ≤ A.toNat := by omega
  have h2 : y.natAbs ≤ B.toNat := by omega
  have h3 : (x * y).natAbs ≤ A.toNat * B.toNat := by rw [Int.natAbs_mul]; exact Nat.mul_le_mul h1 h2
  have h4 : ((A.toNat * B.toNat : Nat) : Int) = A * B := by rw [Int.natCast_mul, Int.toNat_of_nonneg (by omega), Int.toNat_of_nonneg (by omega)]
  have h5 : ((x * y).natAbs : Int) ≤ A * B := by rw [← h4]; exact Int.ofNat_le.2 h3
  omega
structure Ab where
  w : Int
  e : Int
  n : Int
  h : Int
  p : Int
abbrev abV (a : Ab) : Value := .agg #[.int .i64 a.w, .int .i64 a.e, .int .i64 a.n, .int .i64 a.h, .int .i64 a.p]
def mvX (side : Int) : Int := if side = 0 then -1 else if side = 2 then 1 else 0
def mvY (side : Int) : Int := if side = 1 then -1 else if side = 3 then 1 else 0
def armX (c : Cs) (a : Ab) (p side : Int) : Int := (a.e - a.w * c.e) * 9810000 + mvX side * p * a.p
def armY (c : Cs) (a : Ab) (p side : Int) : Int := (a.n - a.w * c.n) * 9810000 + mvY side * p * a.p
/-- What stands above a bed of at most twenty courses. -/
def abOk (a : Ab) : Prop := (0 ≤ a.w ∧ a.w ≤ 20000000) ∧ (-100000000000 ≤ a.e ∧ a.e ≤ 100000000000) ∧ (-100000000000 ≤ a.n ∧ a.n ≤ 100000000000) ∧ (0 ≤ a.h ∧ a.h ≤ 1000000) ∧ 0 ≤ a.p ∧ a.p ≤ 20000000000000
theorem run_mv (s : Int) (hs : s = 0 ∨ s = 1 ∨ s = 2 ∨ s = 3) (W : World) : (Instr.index 75 (.agg #[.int .i64 (-1), .int .i64 0, .int .i64 0, .int .i64 (-1), .int .i64 1, .int .i64 0, .int .i64 0, .int .i64 1]) (.int .i64 s)).run Try.prog W = .ok (.agg #[.int .i64 (mvX s), .int .i64 (mvY s)]) W := by
  rcases hs with rfl | rfl | rfl | rfl
  all_goals
    unfold Instr.index
    go_simp
    exact ⟨rfl, rfl⟩
theorem mv_bd (s : Int) : (-1 ≤ mvX s ∧ mvX s ≤ 1) ∧ -1 ≤ mvY s ∧ mvY s ≤ 1 := by
  unfold mvX mvY
  split <;> split <;> (try split) <;> (try split) <;> omega
set_option maxRecDepth 20000 in
set_option maxHeartbeats 8000000 in
theorem arms_any (c : Cs) (a : Ab) (p side : Int) (w : World) (ha : abOk a) (hce : -5000 ≤ c.e ∧ c.e ≤ 5000) (hcn : -5000 ≤ c.n ∧ c.n ≤ 5000) (hp : 0 ≤ p ∧ p ≤ 10000) (hs : 0 ≤ side ∧ side ≤ 3) :
    Calls Try.prog 18 #[csV c, abV a, .int .i64 p, .int .i64 side] w fun e w' => e = .returned (.tuple #[.int .i64 (armX c a p side), .int .i64 (armY c a p side)]) ∧ Below w.heap.size w w' := by
  obtain ⟨ha1, ha2, ha3, ha4, ha5⟩ := ha
  have m1 := mulB (x := a.w) (y := c.e) (A := 20000000) (B := 5000) ⟨by omega, ha1.2⟩ hce
  have m2 := mulB (x := a.w) (y := c.n) (A := 20000000) (B := 5000) ⟨by omega, ha1.2⟩ hcn
  have m3 := mulB (x := p) (y := a.p) (A := 10000) (B := 20000000000000) ⟨by omega, hp.2⟩ ⟨by omega, ha5.2⟩
  have hX : armX c a p side = (a.e - a.w * c.e) * 9810000 + mvX side * p * a.p := rfl
  have hY : armY c a p side = (a.n - a.w * c.n) * 9810000 + mvY side * p * a.p := rfl
  generalize armX c a p side = AX at *
  generalize armY c a p side = AY at *
  obtain ⟨ch, co, ci, cg, ce, cn⟩ := c
  obtain ⟨aw, ae, an, ah, ap⟩ := a
  dsimp only at *
  have HXX := Lib.hid hX
  have HYY := Lib.hid hY
  clear hX hY
  have hmv := fun W => run_mv side (by omega) W
  obtain ⟨mb1, mb2⟩ := mv_bd side
  generalize mvX side = mx at *
  generalize mvY side = my at *
  have m4 := mulB (x := mx) (y := p) (A := 1) (B := 10000) mb1 ⟨by omega, hp.2⟩
  have m5 := mulB (x := my) (y := p) (A := 1) (B := 10000) mb2 ⟨by omega, hp.2⟩
  have m6 := mulB (x := mx * p) (y := ap) (A := 10000) (B := 20000000000000) (by omega) ⟨by omega, ha5.2⟩
  have m7 := mulB (x := my * p) (y := ap) (A := 10000) (B := 20000000000000) (by omega) ⟨by omega, ha5.2⟩
  simp only [Int.reduceMul, Int.reduceNeg] at m1 m2 m3 m4 m5 m6 m7
  go_enter Try.func18, Try.ntmps18
  go_wp2
  go_ret2
  exact ⟨by rw [HXX.out, HYY.out]; rfl, (by repeat (first | exact Below.refl _ _ | assumption | refine Below.setCell ?_ (by first | (simp; done) | (simp; omega) | omega) _ | refine Below.drew ?_ | refine below_drewN ?_ _ | refine Below.alloc ?_ (by first | (simp; done) | (simp; omega) | omega) _ | refine below_alloc ?_ _ | refine below_step ?_ (by assumption)))⟩
end Go.Proofs.Ytfahdgmnlpkaiaa
