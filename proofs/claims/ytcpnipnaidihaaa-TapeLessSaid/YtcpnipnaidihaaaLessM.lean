/- TapeLess: resistances without a tape, and with its ends merged: plain facts. -/
import Derived.Test.YtcpnipnaidihaaaTreesM
import Derived.Test.YtcpnipnaidihaaaSeriesM
set_option linter.unusedSimpArgs false
set_option linter.unusedVariables false
namespace Go.Proofs.Ytcpnipnaidihaaa

/-- A resistance by the sums of the whole net. -/
theorem res_whole {n : Int} {l : List Tp} {a b : Int} (h : resE n l a b = 0) : rsN n l a b * TT l = UU l a b * rsD n l a b := by
  obtain ⟨hv, ha, hb, hab, -⟩ := res_ok h
  obtain ⟨hn, hl, hok⟩ := vNet_spec hv
  obtain ⟨c, hc, h1, h2⟩ := near_factor hok ha
  have h3 := h2 a b ha hb rfl hab.symm
  have h4 := res_cross h
  rw [h1, h3]
  calc rsN n l a b * (treesN l a * c) = rsN n l a b * treesN l a * c := by rw [Int.mul_assoc]
    _ = twosN l a a b * rsD n l a b * c := by rw [h4]
    _ = twosN l a a b * c * rsD n l a b := by rw [Int.mul_right_comm]
theorem frac_le {rN rD T U sN sD T' U' : Int} (hT : 1 ≤ T) (hT' : 1 ≤ T') (hr : 1 ≤ rD) (hs : 1 ≤ sD) (h1 : rN * T = U * rD) (h2 : sN * T' = U' * sD) (h : T' * U ≤ T * U') : rN * sD ≤ sN * rD := by
  have hp : 0 < T * T' := Int.mul_pos (by omega) (by omega)
  have hq : 0 ≤ rD * sD := Int.mul_nonneg (by omega) (by omega)
  have e1 : T * T' * (rN * sD) = T' * U * (rD * sD) := by
    have : T * T' * (rN * sD) = rN * T * (T' * sD) := by ac_rfl
    rw [this, h1]; ac_rfl
  have e2 : T * T' * (sN * rD) = T * U' * (rD * sD) := by
    have : T * T' * (sN * rD) = sN * T' * (T * rD) := by ac_rfl
    rw [this, h2]; ac_rfl
  have h3 : T * T' * (rN * sD) ≤ T * T' * (sN * rD) := by rw [e1, e2]; exact Int.mul_le_mul_of_nonneg_right h hq
  exact Int.le_of_mul_le_mul_left h3 hp
theorem cmp_ge {a b c d : Int} (hb : 1 ≤ b) (hd : 1 ≤ d) (h : c * b ≤ a * d) : ¬ cmpR a b c d < 0 := by
  unfold cmpR den1
  rw [if_neg (by omega), if_neg (by omega)]
  rcases sgn_cases (a * d - c * b) with h | h | h <;> omega
theorem cmp_le {a b c d : Int} (hb : 1 ≤ b) (hd : 1 ≤ d) (h : a * d ≤ c * b) : cmpR a b c d ≤ 0 := by
  unfold cmpR den1
  rw [if_neg (by omega), if_neg (by omega)]
  rcases sgn_cases (a * d - c * b) with h | h | h <;> omega
theorem nw_place {a b x n : Int} {l : List Tp} (h : vNet n l = true) (h0 : 0 ≤ a) (hab : a < b) (hb : b < n) (hx : 0 ≤ x ∧ x < n) : 0 ≤ nw a b x ∧ nw a b x < n - 1 := nw_lt h0 hab hb hx.1 hx.2
/-- What the statement says. -/
theorem less_law {n : Int} {l : List Tp} {a b : Int} {i : Nat} (h : resE n l a b = 0) (hi : i < l.length) :
    (woE n l i = 0 ∧ (resE n (woL n l i) a b = 0 ∨ resE n (woL n l i) a b = 8)) ∧
    (resE n (woL n l i) a b = 0 → ¬ cmpR (rsN n (woL n l i) a b) (rsD n (woL n l i) a b) (rsN n l a b) (rsD n l a b) < 0) ∧
    (meE n l (tpA l i).1 (tpA l i).2.1 = 0 ∧ meN n l (tpA l i).1 (tpA l i).2.1 = n - 1) ∧
    resE (n - 1) (meL n l (tpA l i).1 (tpA l i).2.1) (nw (tpA l i).1 (tpA l i).2.1 a) (nw (tpA l i).1 (tpA l i).2.1 b) = 0 ∧
    cmpR (rsN (n - 1) (meL n l (tpA l i).1 (tpA l i).2.1) (nw (tpA l i).1 (tpA l i).2.1 a) (nw (tpA l i).1 (tpA l i).2.1 b)) (rsD (n - 1) (meL n l (tpA l i).1 (tpA l i).2.1) (nw (tpA l i).1 (tpA l i).2.1 a) (nw (tpA l i).1 (tpA l i).2.1 b)) (rsN n l a b) (rsD n l a b) ≤ 0 ∧
    (woL n l i).length ≤ 10 ∧ (meL n l (tpA l i).1 (tpA l i).2.1).length ≤ 10 := by
  obtain ⟨hv, ha, hb, hab, hq⟩ := res_ok h
  obtain ⟨hn, hl, hok⟩ := vNet_spec hv
  obtain ⟨t1, t2, t3, t4, -⟩ := vNet_mem hv hi
  obtain ⟨w1, w2⟩ := wo_ok hv hi
  obtain ⟨m1, m2, m3⟩ := me_ok hv t1 t2 t3
  have v1 := vNet_erase hv i
  have v2 := vNet_mrg hv t1 t2 t3
  obtain ⟨-, l1, o1⟩ := vNet_spec v1
  obtain ⟨-, l2, o2⟩ := vNet_spec v2
  have hin := allW2 hq
  have hp := erase_perm hi
  have hokc : okL (tpA l i :: l.eraseIdx i) := fun t ht => hok t (hp.mem_iff.2 ht)
  have hM : (mrg (tpA l i).1 (tpA l i).2.1 l).Perm (mrg (tpA l i).1 (tpA l i).2.1 (l.eraseIdx i)) := by
    have := mrg_perm (a := (tpA l i).1) (b := (tpA l i).2.1) hp
    rw [show tpA l i :: l.eraseIdx i = ((tpA l i).1, (tpA l i).2.1, (tpA l i).2.2) :: l.eraseIdx i from rfl, mrg_self t2] at this
    exact this
  have hTl : TT l = TT (tpA l i :: l.eraseIdx i) := TT_perm hp hok
  have hUl : UU l a b = UU (tpA l i :: l.eraseIdx i) a b := UU_perm hp hok a b
  have hTm : TT (mrg (tpA l i).1 (tpA l i).2.1 l) = TT (mrg (tpA l i).1 (tpA l i).2.1 (l.eraseIdx i)) := TT_perm hM o2
  have hFl : full l R0 = full (tpA l i :: l.eraseIdx i) R0 := full_perm hp hok R0 lab_R0
  have hFm : full (mrg (tpA l i).1 (tpA l i).2.1 l) R0 = full (mrg (tpA l i).1 (tpA l i).2.1 (l.eraseIdx i)) R0 := full_perm hM o2 R0 lab_R0
  have hUm : UU (mrg (tpA l i).1 (tpA l i).2.1 l) (nw (tpA l i).1 (tpA l i).2.1 a) (nw (tpA l i).1 (tpA l i).2.1 b) = UU (mrg (tpA l i).1 (tpA l i).2.1 (l.eraseIdx i)) (nw (tpA l i).1 (tpA l i).2.1 a) (nw (tpA l i).1 (tpA l i).2.1 b) := UU_perm hM o2 _ _
  have hr := res_whole h
  have hrb := (res_in h).1
  have hT1 := TT_pos hok
  rw [w1, w2, m1, m2, m3]
  have hE : resE n (l.eraseIdx i) a b = 0 ∨ resE n (l.eraseIdx i) a b = 8 := by
    have h0 : askE n (l.eraseIdx i) [a, b] = 0 := ask_pair v1 ⟨hin.1, hin.2.1⟩ hin.2.2
    unfold resE
    rw [if_pos h0]
    cases jnB (l.eraseIdx i) a b
    · exact .inr rfl
    · exact .inl rfl
  have hE2 : resE (n - 1) (mrg (tpA l i).1 (tpA l i).2.1 l) (nw (tpA l i).1 (tpA l i).2.1 a) (nw (tpA l i).1 (tpA l i).2.1 b) = 0 := by
    refine resE_of (ask_pair v2 (nw_place hv t1 t2 t3 ⟨hin.1, hin.2.1⟩) (nw_place hv t1 t2 t3 hin.2.2)) ?_
    rw [hFm]
    rw [hFl] at hab
    exact (joined_mrg (o := (tpA l i).2.2) t2 hokc ha hb).1 hab
  refine ⟨⟨rfl, hE⟩, fun hs => ?_, ⟨rfl, rfl⟩, hE2, ?_, l1, l2⟩
  · have hs2 := res_whole hs
    have hsb := (res_in hs).1
    have hT2 := TT_pos o1
    obtain ⟨-, -, -, hab2, -⟩ := res_ok hs
    have hw := less_without hokc ha hb hab2
    rw [← hTl, ← hUl] at hw
    exact cmp_ge hsb.2 hrb.2 (frac_le hT1 hT2 hrb.2 hsb.2 hr hs2 hw)
  · have hs2 := res_whole hE2
    have hsb := (res_in hE2).1
    have hT2 := TT_pos o2
    rw [hFl] at hab
    have hw := less_merged (o := (tpA l i).2.2) t2 hokc ha hb hab
    rw [← hTm, ← hUm] at hw
    change _ * TT (tpA l i :: l.eraseIdx i) ≤ UU (tpA l i :: l.eraseIdx i) a b * _ at hw
    rw [← hTl, ← hUl] at hw
    refine cmp_le hsb.2 hrb.2 (frac_le hT2 hT1 hsb.2 hrb.2 hs2 hr ?_)
    rw [Int.mul_comm (TT l), Int.mul_comm (TT (mrg _ _ l))]
    exact hw
end Go.Proofs.Ytcpnipnaidihaaa
