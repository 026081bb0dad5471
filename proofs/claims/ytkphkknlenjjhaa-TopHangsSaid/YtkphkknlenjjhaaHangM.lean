/- A cradle that hangs from ladders: plain. No program is named. -/
import Derived.Test.YtkphkknlenjjhaaStandsM
import Derived.Test.YtkphkknlenjjhaaBearM
set_option linter.unusedSimpArgs false
set_option linter.unusedVariables false
namespace Go.Proofs.Ytkphkknlenjjhaa
open Go.RowKit

/-- A fraction rounded up. -/
def upQ (a b : Int) : Int := - ((-a) / b)
theorem upQ_bd {a b m : Int} (hb : 1 ≤ b) (h0 : 0 ≤ a) (hm : a ≤ m * b) : 0 ≤ upQ a b ∧ upQ a b ≤ m := by
  unfold upQ
  constructor
  · have : (-a) / b ≤ 0 := Int.ediv_le_of_le_mul (by omega) (by omega)
    omega
  · have : -m ≤ (-a) / b := (Int.le_ediv_iff_mul_le (by omega)).2 (by rw [Int.neg_mul]; omega)
    omega
theorem walk_in {span : Int} {xs : List (Int × Int)} {wt lim a : Int} (h : walkE span xs wt lim = 0) (h1 : walkL span xs wt lim ≤ a) (h2 : a ≤ walkH span xs wt lim) : goodL span xs = true ∧ (0 ≤ wt ∧ wt ≤ 1000000) ∧ (0 ≤ lim ∧ lim ≤ 1000000) ∧ 0 ≤ a ∧ a ≤ span := by
  obtain ⟨hgx, hw, hl, h8⟩ := walk_bits (.inl h)
  obtain ⟨⟨g1, g2⟩, -, -⟩ := goodL_spec hgx
  obtain ⟨⟨r1, r2⟩, r3, r4⟩ := leastC_spec' (loP span xs wt lim) span (by omega)
  obtain ⟨⟨t1, t2⟩, t3, t4⟩ := leastC_spec' (hiP span xs wt lim) span (by omega)
  have hL : walkL span xs wt lim = if walkE span xs wt lim = 0 then lowP span xs wt lim else 0 := rfl
  have hH : walkH span xs wt lim = if walkE span xs wt lim = 0 then highP span xs wt lim else 0 := rfl
  have hlo : lowP span xs wt lim = leastC (loP span xs wt lim) span := rfl
  have hhi : highP span xs wt lim = leastC (hiP span xs wt lim) span - 1 := rfl
  rw [if_pos h] at hL hH
  exact ⟨hgx, hw, hl, by omega, by omega⟩
theorem goodL_snoc {span : Int} {xs : List (Int × Int)} {a wt : Int} (h : goodL span xs = true) (hl : xs.length ≤ 19) (ha : 0 ≤ a ∧ a ≤ span) (hw : 0 ≤ wt ∧ wt ≤ 1000000) : goodL span (xs ++ [(a, wt)]) = true := by
  unfold goodL at *
  simp only [Bool.and_eq_true, decide_eq_true_eq, List.all_append, List.length_append, List.length_cons, List.length_nil] at *
  refine ⟨⟨h.1, ?_⟩, h.2.1, by omega⟩
  simp only [List.all_cons, List.all_nil, Bool.and_true]
  unfold goodX
  rw [Bool.and_eq_true]
  exact ⟨withinB_iff.2 ha, okLoad_iff.2 hw⟩
theorem hang_law {c : Clb} {l : List J} {ds ls : List Int} {span : Int} {xs : List (Int × Int)} {wt lim a : Int} (hE : bearE c l ds ls = 0) (hlim : lim ≤ bearG c l ds ls) (hx : xs.length ≤ 19)
    (h : walkE span xs wt lim = 0) (h1 : walkL span xs wt lim ≤ a) (h2 : a ≤ walkH span xs wt lim) :
    goodE span (xs ++ [(a, wt)]) = 0 ∧ (1 ≤ shareD1 span (xs ++ [(a, wt)]) ∧ 1 ≤ shareD2 span (xs ++ [(a, wt)])) ∧
    (beE c l ds ls (upQ (shareN1 span (xs ++ [(a, wt)])) (shareD1 span (xs ++ [(a, wt)]))) = 0 ∧ beV c l ds ls (upQ (shareN1 span (xs ++ [(a, wt)])) (shareD1 span (xs ++ [(a, wt)]))) = true) ∧
    (beE c l ds ls (upQ (shareN2 span (xs ++ [(a, wt)])) (shareD2 span (xs ++ [(a, wt)]))) = 0 ∧ beV c l ds ls (upQ (shareN2 span (xs ++ [(a, wt)])) (shareD2 span (xs ++ [(a, wt)]))) = true) := by
  obtain ⟨hgx, hw, hl, ha0, ha1⟩ := walk_in h h1 h2
  have hgl : goodL span (xs ++ [(a, wt)]) = true := goodL_snoc hgx hx ⟨ha0, ha1⟩ hw
  have hge : goodE span (xs ++ [(a, wt)]) = 0 := by unfold goodE; rw [if_pos hgl]
  have hst := (stands (.inl h) hge).2 ⟨h, h1, h2⟩
  obtain ⟨⟨d1, _⟩, ⟨d2, _⟩, n1, n2, _, q1, q2⟩ := levers_sum hgl
  unfold cmpR at hst
  rw [sgn_le_iff, sgn_le_iff, show den1 1 = 1 from rfl, show den1 (shareD1 span (xs ++ [(a, wt)])) = shareD1 span (xs ++ [(a, wt)]) from if_neg (by omega), show den1 (shareD2 span (xs ++ [(a, wt)])) = shareD2 span (xs ++ [(a, wt)]) from if_neg (by omega)] at hst
  obtain ⟨hs, hv, hb⟩ := bear_facts hE
  have hG : bearG c l ds ls = bearK c l ds ls ls.length := by unfold bearG; rw [hs]; rfl
  have key : ∀ x, 0 ≤ x → x ≤ lim → beE c l ds ls x = 0 ∧ beV c l ds ls x = true := by
    intro x hx0 hx1
    unfold beE beV
    rw [hs, hv, ← hG, withinB_iff.2 ⟨hx0, by omega⟩, decide_eq_true (show x ≤ bearG c l ds ls by omega)]
    exact ⟨rfl, rfl⟩
  have u1 := upQ_bd (m := lim) d1 (by omega) (show shareN1 span (xs ++ [(a, wt)]) ≤ lim * shareD1 span (xs ++ [(a, wt)]) by omega)
  have u2 := upQ_bd (m := lim) d2 (by omega) (show shareN2 span (xs ++ [(a, wt)]) ≤ lim * shareD2 span (xs ++ [(a, wt)]) by omega)
  exact ⟨hge, ⟨d1, d2⟩, key _ u1.1 u1.2, key _ u2.1 u2.2⟩
end Go.Proofs.Ytkphkknlenjjhaa
