/- TapeMetric: a resistance is a metric: plain facts. -/
import Derived.Test.YtloogollfconpaaTape7
set_option linter.unusedSimpArgs false
set_option linter.unusedVariables false
namespace Go.Proofs.Ytloogollfconpaa

theorem res_ok {n : Int} {l : List Tp} {a b : Int} (h : resE n l a b = 0) : vNet n l = true ∧ nod a ∧ nod b ∧ at6 (full l R0) a = at6 (full l R0) b ∧ askE n l [a, b] = 0 := by
  rcases ask_cases n l a b with ⟨h0, hv, ha, hb⟩ | h0
  · refine ⟨hv, ha, hb, ?_, h0⟩
    unfold resE at h
    rw [if_pos h0] at h
    cases hj : jnB l a b
    · rw [hj] at h; cases h
    · simpa [jnB] using hj
  · unfold resE at h; rw [if_neg h0] at h; exact absurd h h0
theorem ask_comm (n : Int) (l : List Tp) (a b : Int) : askE n l [a, b] = askE n l [b, a] := by
  unfold askE allW
  simp only [List.all_cons, List.all_nil, Bool.and_true]
  rw [Bool.and_comm]
theorem resE_comm (n : Int) (l : List Tp) (a b : Int) : resE n l a b = resE n l b a := by
  unfold resE jnB
  rw [ask_comm n l a b, Bool.beq_comm]
theorem resN_comm {l : List Tp} {a b : Int} (h : at6 (full l R0) a = at6 (full l R0) b) : resN l a b = resN l b a ∧ resD l a b = resD l b a := by
  unfold resN resD
  by_cases hab : a = b
  · subst hab; exact ⟨rfl, rfl⟩
  · rw [if_neg hab, if_neg hab, if_neg (fun h => hab h.symm), if_neg (fun h => hab h.symm), trees_eq h, twos_eq h, twos_comm l b a b]
    exact ⟨rfl, rfl⟩
theorem rsN_comm (n : Int) (l : List Tp) (a b : Int) : rsN n l a b = rsN n l b a := by
  unfold rsN
  rw [← resE_comm n l a b]
  by_cases h : resE n l a b = 0
  · rw [if_pos h, if_pos h]; exact (resN_comm (res_ok h).2.2.2.1).1
  · rw [if_neg h, if_neg h]
theorem rsD_comm (n : Int) (l : List Tp) (a b : Int) : rsD n l a b = rsD n l b a := by
  unfold rsD
  rw [← resE_comm n l a b]
  by_cases h : resE n l a b = 0
  · rw [if_pos h, if_pos h]; exact (resN_comm (res_ok h).2.2.2.1).2
  · rw [if_neg h, if_neg h]
theorem resE_trans {n : Int} {l : List Tp} {a b c : Int} (h : resE n l a b = 0) (h' : resE n l b c = 0) : resE n l a c = 0 := by
  obtain ⟨hv, ha, hb, hab, h1⟩ := res_ok h
  obtain ⟨-, -, hc, hbc, h2⟩ := res_ok h'
  have h3 : askE n l [a, c] = 0 := by
    unfold askE allW at *
    rw [hv] at *
    simp only [List.all_cons, List.all_nil, Bool.and_true] at *
    cases g1 : withinB a 0 (n - 1) <;> cases g2 : withinB b 0 (n - 1) <;> cases g3 : withinB c 0 (n - 1) <;> simp_all
  unfold resE jnB
  rw [if_pos h3, hab, hbc]
  simp
theorem res_in {n : Int} {l : List Tp} {a b : Int} (h : resE n l a b = 0) : (0 ≤ rsN n l a b ∧ 1 ≤ rsD n l a b) ∧ rsN n l a b ≤ 713342911662882601 ∧ rsD n l a b ≤ 713342911662882601 := by
  obtain ⟨hv, ha, hb, hab, -⟩ := res_ok h
  obtain ⟨hn, hl, hok⟩ := vNet_spec hv
  have h1 := trees_pos hok ha
  have h2 := trees_bd hok hl a
  have h3 := twos_bd hok hl a a b
  unfold rsN rsD
  rw [if_pos h, if_pos h]
  unfold resN resD
  split
  · omega
  · have h4 := lowN_nonneg (twosN l a a b) (treesN l a) h1 h3.1
    have h5 := lowN_le (twosN l a a b) (treesN l a) h1 h3.1
    have h6 := lowD_pos (twosN l a a b) (treesN l a) h1
    have h7 := lowD_le (twosN l a a b) (treesN l a) h1
    omega
theorem res_cross {n : Int} {l : List Tp} {a b : Int} (h : resE n l a b = 0) : rsN n l a b * treesN l a = twosN l a a b * rsD n l a b := by
  unfold rsN rsD
  rw [if_pos h, if_pos h]
  unfold resN resD
  by_cases hab : a = b
  · subst hab; rw [if_pos rfl, if_pos rfl, twos_self]; simp
  · rw [if_neg hab, if_neg hab]; exact low_cross _ _
theorem tri_mul {T Xac Xab Xbc uN uD rN rD tN tD : Int} (hT : 1 ≤ T) (h1 : uN * T = Xac * uD) (h2 : rN * T = Xab * rD) (h3 : tN * T = Xbc * tD) (hX : Xac ≤ Xab + Xbc) (hu : 1 ≤ uD) (hr : 1 ≤ rD) (ht : 1 ≤ tD) :
    uN * (rD * tD) ≤ (rN * tD + tN * rD) * uD := by
  have hp : 0 ≤ uD * (rD * tD) := Int.mul_nonneg (by omega) (Int.mul_nonneg (by omega) (by omega))
  have h4 : Xac * (uD * (rD * tD)) ≤ (Xab + Xbc) * (uD * (rD * tD)) := Int.mul_le_mul_of_nonneg_right hX hp
  have e1 : uN * (rD * tD) * T = Xac * (uD * (rD * tD)) := by
    rw [Int.mul_right_comm, h1]; simp [Int.mul_comm, Int.mul_left_comm, Int.mul_assoc]
  have e2 : (rN * tD + tN * rD) * uD * T = (Xab + Xbc) * (uD * (rD * tD)) := by
    have a1 : rN * tD * uD * T = (rN * T) * (tD * uD) := by simp [Int.mul_comm, Int.mul_left_comm, Int.mul_assoc]
    have a2 : tN * rD * uD * T = (tN * T) * (rD * uD) := by simp [Int.mul_comm, Int.mul_left_comm, Int.mul_assoc]
    rw [Int.add_mul, Int.add_mul, a1, a2, h2, h3]
    simp [Int.mul_comm, Int.mul_left_comm, Int.mul_assoc, Int.add_mul, Int.mul_add]
  have h5 : uN * (rD * tD) * T ≤ (rN * tD + tN * rD) * uD * T := by rw [e1, e2]; exact h4
  exact Int.le_of_mul_le_mul_right h5 (by omega)
/-- What the statement compares. -/
theorem metric_law {n : Int} {l : List Tp} {a b c : Int} (h : resE n l a b = 0) (h' : resE n l b c = 0) :
    cmpR (rsN n l a c) (rsD n l a c) (rsN n l a b * rsD n l b c + rsN n l b c * rsD n l a b) (rsD n l a b * rsD n l b c) ≤ 0 := by
  have h'' := resE_trans h h'
  have k1 := res_cross h
  have k2 := res_cross h'
  have k3 := res_cross h''
  have b1 := (res_in h).1
  have b2 := (res_in h').1
  have b3 := (res_in h'').1
  obtain ⟨hv, ha, hb, hab, -⟩ := res_ok h
  obtain ⟨hn, hl, hok⟩ := vNet_spec hv
  have hT := trees_pos hok ha
  rw [← trees_eq hab, ← twos_eq hab] at k2
  have hX := twos_tri hok a a b c
  have hm := tri_mul hT k3 k1 k2 hX b3.2 b1.2 b2.2
  have hD : 1 ≤ rsD n l a b * rsD n l b c := by
    have := Int.mul_le_mul b1.2 b2.2 (by omega) (by omega)
    omega
  unfold cmpR den1
  rw [if_neg (by omega), if_neg (by omega)]
  rcases sgn_cases (rsN n l a c * (rsD n l a b * rsD n l b c) - (rsN n l a b * rsD n l b c + rsN n l b c * rsD n l a b) * rsD n l a c) with h | h | h <;> omega
end Go.Proofs.Ytloogollfconpaa
