/- Two small nets in series or beside each other: what the statements ask. -/
import Derived.Test.YtloogollfconpaaMetricM
import Derived.Test.YtloogollfconpaaNetH
import Derived.Test.YtloogollfconpaaTopA
set_option linter.unusedSimpArgs false
set_option linter.unusedVariables false
namespace Go.Proofs.Ytloogollfconpaa

theorem dvd_cop {a b c : Int} (h : a ∣ b * c) (hg : Int.gcd b a = 1) : a ∣ c := by
  have h1 := Int.natAbs_dvd_natAbs.2 h
  rw [Int.natAbs_mul] at h1
  have h2 : Nat.Coprime a.natAbs b.natAbs := by
    have : Nat.gcd b.natAbs a.natAbs = 1 := hg
    exact Nat.Coprime.symm this
  exact Int.natAbs_dvd_natAbs.1 (h2.dvd_of_dvd_mul_left h1)
theorem low_same {n d n' d' : Int} (hd : 1 ≤ d) (hd' : 1 ≤ d') (h : n * d' = n' * d) : lowN n d = lowN n' d' ∧ lowD n d = lowD n' d' := by
  have a1 := low_cross n d
  have a2 := low_cross n' d'
  have p1 := lowD_pos n d hd
  have p2 := lowD_pos n' d' hd'
  have g1 := gcd_pos' n d hd
  have g2 := gcd_pos' n' d' hd'
  have c1 : Int.gcd (lowN n d) (lowD n d) = 1 := by
    unfold lowN lowD
    exact Int.gcd_ediv_gcd_ediv_gcd (by omega)
  have c2 : Int.gcd (lowN n' d') (lowD n' d') = 1 := by
    unfold lowN lowD
    exact Int.gcd_ediv_gcd_ediv_gcd (by omega)
  have hx : lowN n d * lowD n' d' = lowN n' d' * lowD n d := by
    have e1 : (lowN n d * lowD n' d') * (d * d') = (lowN n' d' * lowD n d) * (d * d') := by
      calc (lowN n d * lowD n' d') * (d * d') = (lowN n d * d) * (lowD n' d' * d') := by simp [Int.mul_comm, Int.mul_left_comm, Int.mul_assoc]
        _ = (n * lowD n d) * (lowD n' d' * d') := by rw [a1]
        _ = (n * d') * (lowD n d * lowD n' d') := by simp [Int.mul_comm, Int.mul_left_comm, Int.mul_assoc]
        _ = (n' * d) * (lowD n d * lowD n' d') := by rw [h]
        _ = (n' * lowD n' d') * (lowD n d * d) := by simp [Int.mul_comm, Int.mul_left_comm, Int.mul_assoc]
        _ = (lowN n' d' * d') * (lowD n d * d) := by rw [a2]
        _ = _ := by simp [Int.mul_comm, Int.mul_left_comm, Int.mul_assoc]
    exact Int.eq_of_mul_eq_mul_right (by have := Int.mul_pos (show 0 < d by omega) (show 0 < d' by omega); omega) e1
  have d1 : lowD n d ∣ lowD n' d' := by
    have h3 : lowD n d ∣ lowN n d * lowD n' d' := by rw [hx]; exact Int.dvd_mul_left ..
    exact dvd_cop h3 c1
  have d2 : lowD n' d' ∣ lowD n d := by
    have h3 : lowD n' d' ∣ lowN n' d' * lowD n d := by rw [← hx]; exact Int.dvd_mul_left ..
    exact dvd_cop h3 c2
  have hD : lowD n d = lowD n' d' := Int.le_antisymm (Int.le_of_dvd (by omega) d1) (Int.le_of_dvd (by omega) d2)
  refine ⟨?_, hD⟩
  rw [hD] at hx
  exact Int.eq_of_mul_eq_mul_right (by omega) hx
theorem few_len {n : Int} {l : List Tp} (h : fwB n l = true) : l.length ≤ 4 ∧ n ≤ 3 ∧ ∀ t ∈ l, t.2.2 ≤ 20 := by
  simp only [fwB, Bool.and_eq_true, decide_eq_true_eq, List.all_eq_true] at h
  exact ⟨h.1, h.2.1, fun t ht => h.2.2 t ht⟩
theorem sumL_le21 {P : List Int → Bool} {l : List Tp} (h : okL l) (h2 : ∀ t ∈ l, t.2.2 ≤ 20) : ∀ k r, sumL P k l r ≤ 21 ^ l.length := by
  induction l with
  | nil => intro k r; show (if _ then (1 : Int) else 0) ≤ 1; split <;> omega
  | cons t l ih =>
    intro k r
    have hl := okL_tail h
    have ih' := ih hl (fun u hu => h2 u (List.mem_cons_of_mem _ hu))
    obtain ⟨-, -, -, h3, h4⟩ := okL_head h
    have h5 := h2 t (List.mem_cons_self ..)
    rw [List.length_cons, Int.pow_succ, sumL_cons]
    have h6 := sumL_nonneg (P := P) hl k r
    have h7 : t.2.2 * sumL P k l r ≤ 20 * 21 ^ l.length := Int.mul_le_mul h5 (ih' _ _) h6 (by omega)
    have h8 : 0 ≤ (21 : Int) ^ l.length := by have := ih' k r; omega
    split
    · omega
    · cases k with
      | zero => show _ + 0 ≤ _; omega
      | succ k => have := ih' k (mgL r t); show _ + sumL P k l (mgL r t) ≤ _; omega
theorem pow21 {n : Nat} (h : n ≤ 4) : (21 : Int) ^ n ≤ 194481 := by
  rcases (by omega : n = 0 ∨ n = 1 ∨ n = 2 ∨ n = 3 ∨ n = 4) with rfl | rfl | rfl | rfl | rfl <;> decide
/-- Trees and forests of a small net are few. -/
theorem few_bd {n : Int} {l : List Tp} (h : fwB n l = true) (hok : okL l) (a x y : Int) : treesN l a ≤ 194481 ∧ twosN l a x y ≤ 194481 := by
  obtain ⟨h1, -, h3⟩ := few_len h
  have hp := pow21 (Nat.le_trans (near_len l a) h1)
  have hn : ∀ t ∈ near l a, t.2.2 ≤ 20 := fun t ht => h3 t (List.mem_filter.1 ht).1
  have k1 := sumL_le21 (P := fun _ => true) (near_ok hok a) hn (cls l a - 1) R0
  have k2 := sumL_le21 (P := fun r => !(at6 r x == at6 r y)) (near_ok hok a) hn (cls l a - 1 - 1) R0
  unfold treesN twosN
  refine ⟨by omega, ?_⟩
  split <;> omega
theorem res_low {n : Int} {l : List Tp} {a b : Int} (h : resE n l a b = 0) : rsN n l a b = lowN (twosN l a a b) (treesN l a) ∧ rsD n l a b = lowD (twosN l a a b) (treesN l a) := by
  obtain ⟨hv, ha, hb, hab, -⟩ := res_ok h
  obtain ⟨hn, hl, hok⟩ := vNet_spec hv
  have hT := trees_pos hok ha
  unfold rsN rsD
  rw [if_pos h, if_pos h]
  unfold resN resD
  by_cases hab : a = b
  · subst hab
    rw [if_pos rfl, if_pos rfl, twos_self]
    unfold lowN lowD
    rw [Int.gcd_zero_left]
    refine ⟨by simp, ?_⟩
    have : ((treesN l a).natAbs : Int) = treesN l a := by omega
    rw [this, Int.ediv_self (by omega)]
  · rw [if_neg hab, if_neg hab]; exact ⟨rfl, rfl⟩
theorem few_tid {n : Int} {l : List Tp} {a b : Int} (h : resE n l a b = 0) (hf : fwB n l = true) : tidB (rsN n l a b) (rsD n l a b) = true ∧ (1 ≤ rsD n l a b ∧ rsD n l a b ≤ 1000000) ∧ (0 ≤ rsN n l a b ∧ rsN n l a b ≤ 1000000) := by
  obtain ⟨e1, e2⟩ := res_low h
  obtain ⟨hv, ha, hb, hab, -⟩ := res_ok h
  obtain ⟨hn, hl, hok⟩ := vNet_spec hv
  have hT := trees_pos hok ha
  have hU := twos_bd hok hl a a b
  have hB := few_bd hf hok a a b
  have b1 := lowD_pos (twosN l a a b) (treesN l a) hT
  have b2 := lowD_le (twosN l a a b) (treesN l a) hT
  have b3 := lowN_nonneg (twosN l a a b) (treesN l a) hT hU.1
  have b4 := lowN_le (twosN l a a b) (treesN l a) hT hU.1
  rw [e1, e2]
  have g : (1 ≤ lowD (twosN l a a b) (treesN l a) ∧ lowD (twosN l a a b) (treesN l a) ≤ 1000000) ∧ (0 ≤ lowN (twosN l a a b) (treesN l a) ∧ lowN (twosN l a a b) (treesN l a) ≤ 1000000) := by omega
  refine ⟨?_, g⟩
  simp only [tidB, Bool.and_eq_true, decide_eq_true_eq]
  omega
theorem vNet_in {n : Int} {l : List Tp} (h : vNet n l = true) (hn : n ≤ 3) : n ∈ N3 ∧ ∀ t ∈ l, inN n t := by
  have h0 := vNet_spec h
  simp only [vNet, Bool.and_eq_true, decide_eq_true_eq, List.all_eq_true] at h
  refine ⟨?_, fun t ht => ?_⟩
  · rcases (by omega : n = 1 ∨ n = 2 ∨ n = 3) with rfl | rfl | rfl <;> decide
  · have := h.2.2 t ht
    simp only [vT, Bool.and_eq_true, decide_eq_true_eq] at this
    exact ⟨this.1, this.2.1, this.2.2.1⟩
/-- Both nets together are a net. -/
theorem vNet_both {c n m : Int} {l l' : List Tp} (hc : c = 1 ∨ c = 2) (hcn : c ≤ n) (hcm : c ≤ m) (hn : n ≤ 3) (hm : m ≤ 3) (h : vNet n l = true) (h' : vNet m l' = true) (h4 : l.length ≤ 4) (h5 : l'.length ≤ 4) :
    vNet (n + m - c) (l ++ l'.map (sh c n)) = true := by
  simp only [vNet, Bool.and_eq_true, decide_eq_true_eq, List.all_eq_true] at h h' ⊢
  refine ⟨withinB_iff.2 (by omega), by rw [List.length_append, List.length_map]; omega, fun t ht => ?_⟩
  rcases List.mem_append.1 ht with ht | ht
  · have := h.2.2 t ht
    simp only [vT, Bool.and_eq_true, decide_eq_true_eq] at this ⊢
    exact ⟨this.1, this.2.1, by omega, this.2.2.2⟩
  · obtain ⟨u, hu, rfl⟩ := List.mem_map.1 ht
    have := h'.2.2 u hu
    simp only [vT, Bool.and_eq_true, decide_eq_true_eq] at this ⊢
    have e1 : sg c n u.1 = if c ≤ u.1 then u.1 + n - c else u.1 := rfl
    have e2 : sg c n u.2.1 = if c ≤ u.2.1 then u.2.1 + n - c else u.2.1 := rfl
    show 0 ≤ sg c n u.1 ∧ sg c n u.1 < sg c n u.2.1 ∧ sg c n u.2.1 < n + m - c ∧ _
    refine ⟨?_, ?_, ?_, this.2.2.2⟩ <;> (try rw [e1]) <;> (try rw [e2])
    all_goals (repeat' split) <;> omega
theorem allW2 {n : Int} {l : List Tp} {a b : Int} (h : askE n l [a, b] = 0) : 0 ≤ a ∧ a < n ∧ 0 ≤ b ∧ b < n := by
  unfold askE at h
  split at h
  · split at h
    · rename_i hw
      simp only [allW, List.all_cons, List.all_nil, Bool.and_true, Bool.and_eq_true] at hw
      have h1 := withinB_iff.1 hw.1
      have h2 := withinB_iff.1 hw.2
      omega
    · cases h
  · cases h
theorem ask_of {n : Int} {l : List Tp} {a b : Int} (hv : vNet n l = true) (ha : 0 ≤ a ∧ a < n) (hb : 0 ≤ b ∧ b < n) : askE n l [a, b] = 0 := by
  unfold askE
  rw [if_pos hv, if_pos]
  simp only [allW, List.all_cons, List.all_nil, Bool.and_true, Bool.and_eq_true]
  exact ⟨withinB_iff.2 (by omega), withinB_iff.2 (by omega)⟩
theorem resE_of {n : Int} {l : List Tp} {a b : Int} (hv : askE n l [a, b] = 0) (h : at6 (full l R0) a = at6 (full l R0) b) : resE n l a b = 0 := by
  unfold resE jnB
  rw [if_pos hv, h]
  simp
theorem cross_add {Ux Tx Uy Ty rN rD sN sD : Int} (h1 : rN * Tx = Ux * rD) (h2 : sN * Ty = Uy * sD) : (Ux * Ty + Tx * Uy) * (rD * sD) = (rN * sD + sN * rD) * (Tx * Ty) := by
  have a1 : (Ux * Ty) * (rD * sD) = (Ux * rD) * (Ty * sD) := by simp [Int.mul_comm, Int.mul_left_comm, Int.mul_assoc]
  have a2 : (Tx * Uy) * (rD * sD) = (Uy * sD) * (Tx * rD) := by simp [Int.mul_comm, Int.mul_left_comm, Int.mul_assoc]
  rw [Int.add_mul, a1, a2, ← h1, ← h2, Int.add_mul]
  congr 1 <;> simp [Int.mul_comm, Int.mul_left_comm, Int.mul_assoc]
theorem cross_par {Ux Tx Uy Ty rN rD sN sD : Int} (h1 : rN * Tx = Ux * rD) (h2 : sN * Ty = Uy * sD) (g : Int) (hg : 1 ≤ Tx * Ty) : (Ux * Uy) * (rN * sD + sN * rD) = (rN * sN) * (Tx * Uy + Ux * Ty) := by
  have hp : (Ux * Uy) * (rN * sD + sN * rD) * (Tx * Ty) = (rN * sN) * (Tx * Uy + Ux * Ty) * (Tx * Ty) := by
    have a1 : (Ux * Uy) * (rN * sD + sN * rD) * (Tx * Ty) = (Ux * Uy) * ((rN * Tx) * (sD * Ty) + (sN * Ty) * (rD * Tx)) := by simp [Int.mul_comm, Int.mul_left_comm, Int.mul_assoc, Int.mul_add]
    have a2 : (rN * sN) * (Tx * Uy + Ux * Ty) * (Tx * Ty) = (rN * Tx) * (sN * Ty) * (Tx * Uy + Ux * Ty) := by simp [Int.mul_comm, Int.mul_left_comm, Int.mul_assoc]
    rw [a1, a2, h1, h2]
    simp [Int.mul_comm, Int.mul_left_comm, Int.mul_assoc, Int.mul_add, Int.add_mul, Int.add_comm]
  exact Int.eq_of_mul_eq_mul_right (by omega) hp
/-- Nets in series. -/
theorem series_law {n m a y : Int} {l l' : List Tp} (hf : fwB n l = true) (hg : fwB m l' = true) (h : resE n l a 0 = 0) (h' : resE m l' 0 y = 0) :
    resE (n + m - 1) (l ++ l'.map (sh 1 n)) a (sg 1 n y) = 0 ∧
    rsN (n + m - 1) (l ++ l'.map (sh 1 n)) a (sg 1 n y) = lowN (rsN n l a 0 * rsD m l' 0 y + rsN m l' 0 y * rsD n l a 0) (rsD n l a 0 * rsD m l' 0 y) ∧
    rsD (n + m - 1) (l ++ l'.map (sh 1 n)) a (sg 1 n y) = lowD (rsN n l a 0 * rsD m l' 0 y + rsN m l' 0 y * rsD n l a 0) (rsD n l a 0 * rsD m l' 0 y) := by
  obtain ⟨hv, ha, h0, hab, hq⟩ := res_ok h
  obtain ⟨hv', -, hy, hab', hq'⟩ := res_ok h'
  obtain ⟨f1, f2, f3⟩ := few_len hf
  obtain ⟨g1, g2, g3⟩ := few_len hg
  obtain ⟨n3, hx⟩ := vNet_in hv f2
  obtain ⟨m3, hyy⟩ := vNet_in hv' g2
  obtain ⟨s1, s2, s3⟩ := vNet_spec hv
  obtain ⟨t1, t2, t3⟩ := vNet_spec hv'
  have w1 := allW2 hq
  have w2 := allW2 hq'
  have hz := vNet_both (c := 1) (.inl rfl) s1.1 t1.1 f2 g2 hv hv' f1 g1
  have hsg : sg 1 n y = if 1 ≤ y then y + n - 1 else y := rfl
  have hq2 : askE (n + m - 1) (l ++ l'.map (sh 1 n)) [a, sg 1 n y] = 0 := ask_of hz (by omega) (by rw [hsg]; split <;> omega)
  have hfull := full_gl (c := 1) (by decide) n3 m3 s1.1 t1.1 hx hyy t3 (fun h => by cases h)
  have hnr := gl_near (c := 1) (a := a) (by decide) n3 m3 s1.1 t1.1 (LL_full n3 hx LL_R0) (LL_full m3 hyy LL_R0) (fun h => by cases h) (by omega) hab
  have hjn : at6 (full (l ++ l'.map (sh 1 n)) R0) a = at6 (full (l ++ l'.map (sh 1 n)) R0) (sg 1 n y) := by
    rw [hfull]
    have := hnr.2.1 y (x3 m3 hy.1 (by omega)) (by omega)
    rw [hab', beq_self_eq_true, beq_iff_eq] at this
    exact this.symm
  have hE := resE_of hq2 hjn
  refine ⟨hE, ?_⟩
  have hL := res_low hE
  obtain ⟨q1, q2⟩ := series_sums n3 m3 hx hyy s3 t3 (a := a) (y := y) (by omega) (by omega) hab hab'
  have c1 := res_cross h
  have c2 := res_cross h'
  have hT := trees_pos s3 ha
  have hT' := trees_pos t3 h0
  have b1 := (res_in h).1
  have b2 := (res_in h').1
  rw [q1, q2] at hL
  have p1 : 1 ≤ treesN l a * treesN l' 0 := by have := Int.mul_le_mul hT hT' (by omega) (by omega); omega
  have p2 : 1 ≤ rsD n l a 0 * rsD m l' 0 y := by have := Int.mul_le_mul b1.2 b2.2 (by omega) (by omega); omega
  have := low_same p1 p2 (cross_add c1 c2)
  exact ⟨hL.1.trans this.1, hL.2.trans this.2⟩
/-- Nets beside each other. -/
theorem beside_law {n m : Int} {l l' : List Tp} (hf : fwB n l = true) (hg : fwB m l' = true) (hn2 : 2 ≤ n) (hm2 : 2 ≤ m) (h : resE n l 0 1 = 0) (h' : resE m l' 0 1 = 0) :
    resE (n + m - 2) (l ++ l'.map (sh 2 n)) 0 1 = 0 ∧ 1 ≤ rsN n l 0 1 ∧ 1 ≤ rsN m l' 0 1 ∧
    rsN (n + m - 2) (l ++ l'.map (sh 2 n)) 0 1 = lowN (rsN n l 0 1 * rsN m l' 0 1) (rsN n l 0 1 * rsD m l' 0 1 + rsN m l' 0 1 * rsD n l 0 1) ∧
    rsD (n + m - 2) (l ++ l'.map (sh 2 n)) 0 1 = lowD (rsN n l 0 1 * rsN m l' 0 1) (rsN n l 0 1 * rsD m l' 0 1 + rsN m l' 0 1 * rsD n l 0 1) := by
  obtain ⟨hv, h0, -, hab, hq⟩ := res_ok h
  obtain ⟨hv', -, -, hab', hq'⟩ := res_ok h'
  obtain ⟨f1, f2, f3⟩ := few_len hf
  obtain ⟨g1, g2, g3⟩ := few_len hg
  obtain ⟨n3, hx⟩ := vNet_in hv f2
  obtain ⟨m3, hyy⟩ := vNet_in hv' g2
  obtain ⟨s1, s2, s3⟩ := vNet_spec hv
  obtain ⟨t1, t2, t3⟩ := vNet_spec hv'
  have hz := vNet_both (c := 2) (.inr rfl) hn2 hm2 f2 g2 hv hv' f1 g1
  have hq2 : askE (n + m - 2) (l ++ l'.map (sh 2 n)) [0, 1] = 0 := ask_of hz (by omega) (by omega)
  have hfull := full_gl (c := 2) (by decide) n3 m3 hn2 hm2 hx hyy t3 (fun _ => ⟨hab, hab'⟩)
  have hnr := gl_near (c := 2) (a := 0) (by decide) n3 m3 hn2 hm2 (LL_full n3 hx LL_R0) (LL_full m3 hyy LL_R0) (fun _ => ⟨hab, hab'⟩) (by omega) rfl
  have hjn : at6 (full (l ++ l'.map (sh 2 n)) R0) 0 = at6 (full (l ++ l'.map (sh 2 n)) R0) 1 := by
    rw [hfull]
    have := hnr.1 1 (by decide) (by omega)
    rw [hab, beq_self_eq_true, beq_iff_eq] at this
    exact this.symm
  have hE := resE_of hq2 hjn
  obtain ⟨q1, q2, q3⟩ := beside_sums n3 m3 hn2 hm2 hx hyy s3 t3 hab hab'
  obtain ⟨-, -, q4⟩ := beside_sums m3 n3 hm2 hn2 hyy hx t3 s3 hab' hab
  have c1 := res_cross h
  have c2 := res_cross h'
  have hT := trees_pos s3 h0
  have hT' := trees_pos t3 h0
  have b1 := (res_in h).1
  have b2 := (res_in h').1
  have r1 : 1 ≤ rsN n l 0 1 := by
    rcases Int.lt_or_le (rsN n l 0 1) 1 with hlt | hge
    · have e : rsN n l 0 1 = 0 := by omega
      rw [e, Int.zero_mul] at c1
      have := Int.mul_le_mul q3 b1.2 (by omega) (by omega)
      omega
    · exact hge
  have r2 : 1 ≤ rsN m l' 0 1 := by
    rcases Int.lt_or_le (rsN m l' 0 1) 1 with hlt | hge
    · have e : rsN m l' 0 1 = 0 := by omega
      rw [e, Int.zero_mul] at c2
      have := Int.mul_le_mul q4 b2.2 (by omega) (by omega)
      omega
    · exact hge
  refine ⟨hE, r1, r2, ?_⟩
  have hL := res_low hE
  rw [q1, q2] at hL
  have p1 : 1 ≤ treesN l 0 * twosN l' 0 0 1 + twosN l 0 0 1 * treesN l' 0 := by
    have := Int.mul_le_mul hT q4 (by omega) (by omega)
    have := Int.mul_le_mul q3 hT' (by omega) (by omega)
    omega
  have p2 : 1 ≤ rsN n l 0 1 * rsD m l' 0 1 + rsN m l' 0 1 * rsD n l 0 1 := by
    have := Int.mul_le_mul r1 b2.2 (by omega) (by omega)
    have := Int.mul_le_mul r2 b1.2 (by omega) (by omega)
    omega
  have p3 : 1 ≤ treesN l 0 * treesN l' 0 := by have := Int.mul_le_mul hT hT' (by omega) (by omega); omega
  have := low_same p1 p2 (cross_par c1 c2 0 p3)
  exact ⟨hL.1.trans this.1, hL.2.trans this.2⟩
end Go.Proofs.Ytloogollfconpaa
