/- TapeTrees: nets with a tape left out, or its ends merged: plain facts. -/
import Derived.Test.YtloogollfconpaaMake3
import Derived.Test.YtloogollfconpaaTape9
set_option linter.unusedSimpArgs false
set_option linter.unusedVariables false
namespace Go.Proofs.Ytloogollfconpaa

theorem vNet_iff {n : Int} {l : List Tp} : vNet n l = true ↔ (1 ≤ n ∧ n ≤ 6) ∧ l.length ≤ 10 ∧ ∀ t, t ∈ l → 0 ≤ t.1 ∧ t.1 < t.2.1 ∧ t.2.1 < n ∧ 1 ≤ t.2.2 ∧ t.2.2 ≤ 60 := by
  simp only [vNet, Bool.and_eq_true, decide_eq_true_eq, List.all_eq_true, vT, withinB_iff]
theorem vNet_mem {n : Int} {l : List Tp} (h : vNet n l = true) {i : Nat} (hi : i < l.length) : 0 ≤ (tpA l i).1 ∧ (tpA l i).1 < (tpA l i).2.1 ∧ (tpA l i).2.1 < n ∧ 1 ≤ (tpA l i).2.2 ∧ (tpA l i).2.2 ≤ 60 := by
  refine (vNet_iff.1 h).2.2 _ ?_
  unfold tpA; rw [List.getElem?_eq_getElem hi]; exact List.getElem_mem hi
theorem vNet_erase {n : Int} {l : List Tp} (h : vNet n l = true) (i : Nat) : vNet n (l.eraseIdx i) = true := by
  obtain ⟨h1, h2, h3⟩ := vNet_iff.1 h
  refine vNet_iff.2 ⟨h1, ?_, fun t ht => h3 t (List.eraseIdx_subset ht)⟩
  have := List.length_eraseIdx_le l i
  omega
theorem vNet_mrg {n a b : Int} {l : List Tp} (h : vNet n l = true) (h0 : 0 ≤ a) (hab : a < b) (hb : b < n) : vNet (n - 1) (mrg a b l) = true := by
  obtain ⟨h1, h2, h3⟩ := vNet_iff.1 h
  have hl := mrg_len_le a b l
  refine vNet_iff.2 ⟨by omega, by omega, fun u hu => ?_⟩
  obtain ⟨t, ht, rfl⟩ := List.mem_map.1 hu
  obtain ⟨g1, g2⟩ := List.mem_filter.1 ht
  obtain ⟨t1, t2, t3, t4, t5⟩ := h3 t g1
  have hne : nw a b t.1 ≠ nw a b t.2.1 := by simpa using g2
  have n1 := nw_lt (x := t.1) h0 hab hb t1 (by omega)
  have n2 := nw_lt (x := t.2.1) h0 hab hb (by omega) t3
  unfold mrgT; dsimp only; omega
theorem ask_pair {n a b : Int} {l : List Tp} (h : vNet n l = true) (ha : 0 ≤ a ∧ a < n) (hb : 0 ≤ b ∧ b < n) : askE n l [a, b] = 0 := by
  unfold askE allW
  rw [h]
  simp only [List.all_cons, List.all_nil, Bool.and_true]
  rw [withinB_iff.2 ⟨ha.1, by omega⟩, withinB_iff.2 ⟨hb.1, by omega⟩]
  rfl
theorem wo_ok {n : Int} {l : List Tp} {i : Nat} (h : vNet n l = true) (hi : i < l.length) : woE n l i = 0 ∧ woL n l i = l.eraseIdx i := by
  unfold woE woL
  rw [h, withinB_iff.2 (show 0 ≤ (i : Int) ∧ (i : Int) ≤ (l.length : Int) - 1 by omega)]
  exact ⟨rfl, by rw [if_pos rfl, if_pos rfl, Int.toNat_natCast]⟩
theorem me_ok {n a b : Int} {l : List Tp} (h : vNet n l = true) (h0 : 0 ≤ a) (hab : a < b) (hb : b < n) : meE n l a b = 0 ∧ meN n l a b = n - 1 ∧ meL n l a b = mrg a b l := by
  have hE : meE n l a b = 0 := by unfold meE; rw [ask_pair h ⟨h0, by omega⟩ ⟨by omega, hb⟩, if_pos rfl, if_neg (by omega)]
  refine ⟨hE, by unfold meN; rw [if_pos hE], ?_⟩
  unfold meL
  rw [if_pos hE, Int.min_eq_left (by omega), Int.max_eq_right (by omega)]
theorem trN_cT {n : Int} {l : List Tp} (h : vNet n l = true) : trN n l = cT (n - 1).toNat l := by
  obtain ⟨h1, h2, h3⟩ := vNet_spec h
  rw [← cT_fl h3 h2]
  unfold trN
  refine sumW_congr (fun s _ => ?_)
  unfold fC
  by_cases h : (pcf 10 (s % 2 ^ l.length) : Int) = n - 1
  · rw [if_pos h, if_pos (by omega)]
  · rw [if_neg h, if_neg (by omega)]
/-- What the statement says of a net and a tape of it. -/
theorem trees_law {n : Int} {l : List Tp} {i : Nat} (h : vNet n l = true) (hi : i < l.length) :
    (woE n l i = 0 ∧ meE n l (tpA l i).1 (tpA l i).2.1 = 0) ∧ (trE n (woL n l i) = 0 ∧ trE (meN n l (tpA l i).1 (tpA l i).2.1) (meL n l (tpA l i).1 (tpA l i).2.1) = 0) ∧
    trV n l = trV n (woL n l i) + trV (meN n l (tpA l i).1 (tpA l i).2.1) (meL n l (tpA l i).1 (tpA l i).2.1) ∧
    (0 ≤ trV n (woL n l i) ∧ trV n (woL n l i) ≤ 713342911662882601) ∧ (0 ≤ trV (meN n l (tpA l i).1 (tpA l i).2.1) (meL n l (tpA l i).1 (tpA l i).2.1) ∧ trV (meN n l (tpA l i).1 (tpA l i).2.1) (meL n l (tpA l i).1 (tpA l i).2.1) ≤ 713342911662882601) ∧
    (woL n l i).length ≤ 10 ∧ (meL n l (tpA l i).1 (tpA l i).2.1).length ≤ 10 := by
  obtain ⟨t1, t2, t3, -, -⟩ := vNet_mem h hi
  obtain ⟨w1, w2⟩ := wo_ok h hi
  obtain ⟨m1, m2, m3⟩ := me_ok h t1 t2 t3
  have v1 := vNet_erase h i
  have v2 := vNet_mrg h t1 t2 t3
  obtain ⟨n1, l1, o1⟩ := vNet_spec h
  obtain ⟨n2, l2, o2⟩ := vNet_spec v1
  obtain ⟨n3, l3, o3⟩ := vNet_spec v2
  rw [w1, w2, m1, m2, m3]
  have e1 : trE n (l.eraseIdx i) = 0 := by unfold trE; rw [v1]; rfl
  have e2 : trE (n - 1) (mrg (tpA l i).1 (tpA l i).2.1 l) = 0 := by unfold trE; rw [v2]; rfl
  have q1 : trV n l = cT (n - 1).toNat l := by unfold trV; rw [h, if_pos rfl, trN_cT h]
  have q2 : trV n (l.eraseIdx i) = cT (n - 1).toNat (l.eraseIdx i) := by unfold trV; rw [v1, if_pos rfl, trN_cT v1]
  have q3 : trV (n - 1) (mrg (tpA l i).1 (tpA l i).2.1 l) = cT (n - 1 - 1).toNat (mrg (tpA l i).1 (tpA l i).2.1 l) := by unfold trV; rw [v2, if_pos rfl, trN_cT v2]
  have hs := trees_split o1 hi (n - 1 - 1).toNat
  have b2 := cT_bd o2 l2 (n - 1).toNat
  have b3 := cT_bd o3 l3 (n - 1 - 1).toNat
  rw [q1, q2, q3, e1, e2]
  have ek : (n - 1).toNat = (n - 1 - 1).toNat + 1 := by omega
  refine ⟨⟨rfl, rfl⟩, ⟨rfl, rfl⟩, ?_, b2, b3, l2, l3⟩
  rw [ek]; exact hs
end Go.Proofs.Ytloogollfconpaa
