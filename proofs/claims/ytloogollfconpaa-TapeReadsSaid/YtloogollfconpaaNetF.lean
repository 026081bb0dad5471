/- Currents as the program sums them: over sets of tapes: plain. No program is named. -/
import Derived.Test.YtloogollfconpaaNetI
import Derived.Test.YtloogollfconpaaNetS
set_option linter.unusedSimpArgs false
set_option linter.unusedVariables false
namespace Go.Proofs.Ytloogollfconpaa
open Go.RowKit

/-- The tapes of a set. -/
def sel : List Tp → Nat → List Tp
  | [], _ => []
  | t :: l, s => if s % 2 = 1 then t :: sel l (s / 2) else sel l (s / 2)
theorem run_sel : ∀ (l : List Tp) (s : Nat) (r : List Int) (b : Bool), run l s (r, b) = (full (sel l s) r, b && ind (sel l s) r) := by
  intro l
  induction l with
  | nil => intro s r b; show (r, b) = (r, b && true); simp
  | cons t l ih =>
    intro s r b
    show run l (s / 2) (stepR (r, b) t (s % 2 == 1)) = _
    unfold sel
    by_cases h : s % 2 = 1
    · rw [if_pos h, show (s % 2 == 1) = true by simp [h]]
      show run l (s / 2) (mgL r t, b && !(at6 r t.1 == at6 r t.2.1)) = _
      rw [ih, full_cons]
      show _ = (_, b && (apt t.1 t.2.1 r && ind (sel l (s / 2)) (mgL r t)))
      rw [Bool.and_assoc]; rfl
    · rw [if_neg h, show (s % 2 == 1) = false by simp; omega]
      show run l (s / 2) (r, b) = _
      rw [ih]
theorem sel_len : ∀ (l : List Tp) (s : Nat), (sel l s).length = pcf l.length s := by
  intro l
  induction l with
  | nil => intro s; rfl
  | cons t l ih =>
    intro s
    show _ = s % 2 + pcf l.length (s / 2)
    unfold sel
    split
    · rw [List.length_cons, ih]; omega
    · rw [ih]; omega
theorem sel_mem : ∀ {l : List Tp} {s : Nat} {t : Tp}, t ∈ sel l s → t ∈ l := by
  intro l
  induction l with
  | nil => intro s t h; exact h
  | cons u l ih =>
    intro s t h
    unfold sel at h
    split at h
    · rcases List.mem_cons.1 h with rfl | h
      · exact List.mem_cons_self ..
      · exact List.mem_cons_of_mem _ (ih h)
    · exact List.mem_cons_of_mem _ (ih h)
theorem sel_ok {l : List Tp} (h : okL l) (s : Nat) : okL (sel l s) := fun t ht => h t (sel_mem ht)
/-- The set s of all places but i, with i and without it, as a set of all places. -/
def ins : Nat → Nat → Nat
  | 0, s => 2 * s + 1
  | i + 1, s => 2 * ins i (s / 2) + s % 2
def dl : Nat → Nat → Nat
  | 0, s => 2 * s
  | i + 1, s => 2 * dl i (s / 2) + s % 2
theorem ins_dl : ∀ (i s : Nat), ins i s = dl i s + 2 ^ i := by
  intro i
  induction i with
  | zero => intro s; rfl
  | succ i ih => intro s; show 2 * ins i (s / 2) + s % 2 = 2 * dl i (s / 2) + s % 2 + 2 ^ (i + 1); rw [ih, Nat.pow_succ]; omega
theorem bt_ins : ∀ (i s : Nat), bt (ins i s) i = true := by
  intro i
  induction i with
  | zero => intro s; rw [bt_zero]; show ((2 * s + 1) % 2 == 1) = true; simp
  | succ i ih => intro s; rw [bt_succ]; show bt ((2 * ins i (s / 2) + s % 2) / 2) i = true; rw [show (2 * ins i (s / 2) + s % 2) / 2 = ins i (s / 2) by omega]; exact ih _
theorem sel_dl : ∀ (l : List Tp) (i s : Nat), i < l.length → sel l (dl i s) = sel (l.eraseIdx i) s := by
  intro l
  induction l with
  | nil => intro i s h; simp at h
  | cons t l ih =>
    intro i s h
    cases i with
    | zero =>
      show (if 2 * s % 2 = 1 then t :: sel l (2 * s / 2) else sel l (2 * s / 2)) = sel l s
      rw [if_neg (by omega), show 2 * s / 2 = s by omega]
    | succ i =>
      show sel (t :: l) (2 * dl i (s / 2) + s % 2) = sel (t :: l.eraseIdx i) s
      unfold sel
      rw [show (2 * dl i (s / 2) + s % 2) / 2 = dl i (s / 2) by omega, ih i (s / 2) (by simpa using h), show (2 * dl i (s / 2) + s % 2) % 2 = s % 2 by omega]
theorem tpA_zero (t : Tp) (l : List Tp) : tpA (t :: l) 0 = t := rfl
theorem tpA_succ (t : Tp) (l : List Tp) (i : Nat) : tpA (t :: l) (i + 1) = tpA l i := by simp [tpA]
theorem pick_sel : ∀ (l : List Tp) (i s : Nat), i < l.length → (tpA l i, sel (l.eraseIdx i) s) ∈ picks (sel l (ins i s)) := by
  intro l
  induction l with
  | nil => intro i s h; simp at h
  | cons t l ih =>
    intro i s h
    cases i with
    | zero =>
      show (t, sel l s) ∈ picks (sel (t :: l) (2 * s + 1))
      have : sel (t :: l) (2 * s + 1) = t :: sel l s := by
        show (if (2 * s + 1) % 2 = 1 then t :: sel l ((2 * s + 1) / 2) else sel l ((2 * s + 1) / 2)) = _
        rw [if_pos (by omega), show (2 * s + 1) / 2 = s by omega]
      rw [this]
      exact List.mem_cons_self ..
    | succ i =>
      have h1 := ih i (s / 2) (by simpa using h)
      rw [tpA_succ]
      have e1 : sel (t :: l) (ins (i + 1) s) = if s % 2 = 1 then t :: sel l (ins i (s / 2)) else sel l (ins i (s / 2)) := by
        show (if (2 * ins i (s / 2) + s % 2) % 2 = 1 then t :: sel l ((2 * ins i (s / 2) + s % 2) / 2) else sel l ((2 * ins i (s / 2) + s % 2) / 2)) = _
        rw [show (2 * ins i (s / 2) + s % 2) / 2 = ins i (s / 2) by omega, show (2 * ins i (s / 2) + s % 2) % 2 = s % 2 by omega]
      have e2 : sel ((t :: l).eraseIdx (i + 1)) s = if s % 2 = 1 then t :: sel (l.eraseIdx i) (s / 2) else sel (l.eraseIdx i) (s / 2) := rfl
      rw [e1, e2]
      by_cases hs : s % 2 = 1
      · rw [if_pos hs, if_pos hs]
        exact List.mem_cons_of_mem _ (List.mem_map_of_mem (f := fun p : Tp × List Tp => (p.1, t :: p.2)) h1)
      · rw [if_neg hs, if_neg hs]; exact h1
theorem ins_lt : ∀ {i n s : Nat}, i < n → s < 2 ^ (n - 1) → ins i s < 2 ^ n := by
  intro i
  induction i with
  | zero => intro n s h hs; obtain ⟨m, rfl⟩ : ∃ m, n = m + 1 := ⟨n - 1, by omega⟩; show 2 * s + 1 < _; rw [Nat.add_sub_cancel] at hs; rw [Nat.pow_succ]; omega
  | succ i ih =>
    intro n s h hs
    obtain ⟨m, rfl⟩ : ∃ m, n = m + 1 := ⟨n - 1, by omega⟩
    obtain ⟨j, rfl⟩ : ∃ j, m = j + 1 := ⟨m - 1, by omega⟩
    rw [Nat.add_sub_cancel, Nat.pow_succ] at hs
    have := ih (n := j + 1) (s := s / 2) (by omega) (by rw [Nat.add_sub_cancel]; omega)
    show 2 * ins i (s / 2) + s % 2 < _
    rw [Nat.pow_succ 2 (j + 1)]; omega
theorem pcf_ins : ∀ {i n s : Nat}, i < n → pcf n (ins i s) = pcf (n - 1) s + 1 := by
  intro i
  induction i with
  | zero =>
    intro n s h; obtain ⟨m, rfl⟩ : ∃ m, n = m + 1 := ⟨n - 1, by omega⟩
    show (2 * s + 1) % 2 + pcf m ((2 * s + 1) / 2) = pcf m s + 1
    rw [show (2 * s + 1) / 2 = s by omega]; omega
  | succ i ih =>
    intro n s h
    obtain ⟨m, rfl⟩ : ∃ m, n = m + 1 := ⟨n - 1, by omega⟩
    obtain ⟨j, rfl⟩ : ∃ j, m = j + 1 := ⟨m - 1, by omega⟩
    have := ih (n := j + 1) (s := s / 2) (by omega)
    rw [Nat.add_sub_cancel] at this
    show (2 * ins i (s / 2) + s % 2) % 2 + pcf (j + 1) ((2 * ins i (s / 2) + s % 2) / 2) = s % 2 + pcf j (s / 2) + 1
    rw [show (2 * ins i (s / 2) + s % 2) / 2 = ins i (s / 2) by omega, this]; omega
theorem wgt_ins : ∀ (l : List Tp) (i s : Nat), i < l.length → s < 2 ^ (l.length - 1) → wgt l (2 ^ l.length - 1 - ins i s) = wgt (l.eraseIdx i) (2 ^ (l.length - 1) - 1 - s) := by
  intro l
  induction l with
  | nil => intro i s h _; simp at h
  | cons t l ih =>
    intro i s h hs
    rw [List.length_cons, Nat.add_sub_cancel] at hs ⊢
    cases i with
    | zero =>
      show (if (2 ^ (l.length + 1) - 1 - (2 * s + 1)) % 2 = 1 then t.2.2 else 1) * wgt l ((2 ^ (l.length + 1) - 1 - (2 * s + 1)) / 2) = wgt l (2 ^ l.length - 1 - s)
      rw [Nat.pow_succ]
      generalize 2 ^ l.length = N at *
      rw [if_neg (by omega), show (N * 2 - 1 - (2 * s + 1)) / 2 = N - 1 - s by omega, Int.one_mul]
    | succ i =>
      have hi : i < l.length := by simpa using h
      obtain ⟨m, hm⟩ : ∃ m, l.length = m + 1 := ⟨l.length - 1, by omega⟩
      have hs2 : s / 2 < 2 ^ (l.length - 1) := by rw [hm, Nat.add_sub_cancel]; rw [hm, Nat.pow_succ] at hs; omega
      have h1 := ih i (s / 2) hi hs2
      have h2 := ins_lt (i := i) (n := l.length) (s := s / 2) hi hs2
      show (if (2 ^ (l.length + 1) - 1 - (2 * ins i (s / 2) + s % 2)) % 2 = 1 then t.2.2 else 1) * wgt l ((2 ^ (l.length + 1) - 1 - (2 * ins i (s / 2) + s % 2)) / 2) = (if (2 ^ l.length - 1 - s) % 2 = 1 then t.2.2 else 1) * wgt (l.eraseIdx i) ((2 ^ l.length - 1 - s) / 2)
      have e3 : 2 ^ l.length = 2 * 2 ^ (l.length - 1) := by rw [hm, Nat.add_sub_cancel, Nat.pow_succ, Nat.mul_comm]
      have e4 : 2 ^ (l.length + 1) = 2 * 2 ^ l.length := by rw [Nat.pow_succ, Nat.mul_comm]
      rw [e4, show (2 * 2 ^ l.length - 1 - (2 * ins i (s / 2) + s % 2)) / 2 = 2 ^ l.length - 1 - ins i (s / 2) by omega, h1, show (2 ^ l.length - 1 - s) / 2 = 2 ^ (l.length - 1) - 1 - s / 2 by omega]
      have e5 : (2 * 2 ^ l.length - 1 - (2 * ins i (s / 2) + s % 2)) % 2 = (2 ^ l.length - 1 - s) % 2 := by omega
      rw [e5]
theorem sumTo_sub (h h' : Nat → Int) : ∀ n, sumTo (fun s => h s - h' s) n = sumTo h n - sumTo h' n := by
  intro n
  induction n with
  | zero => rfl
  | succ n ih => show _ + (_ - _) = _ + _ - (_ + _); rw [ih]; omega
theorem sumTo_bit : ∀ (i n : Nat) (h : Nat → Int), i < n → sumTo (fun s => if bt s i = true then h s else 0) (2 ^ n) = sumTo (fun s => h (ins i s)) (2 ^ (n - 1)) := by
  intro i
  induction i with
  | zero =>
    intro n h hn
    obtain ⟨m, rfl⟩ : ∃ m, n = m + 1 := ⟨n - 1, by omega⟩
    rw [Nat.pow_succ, Nat.mul_comm, sumTo_double, Nat.add_sub_cancel]
    rw [sumTo_congr (h' := fun _ => 0) (fun s _ => by rw [bt_zero, if_neg (by simp)]), sumTo_zero, Int.zero_add]
    exact sumTo_congr (fun s _ => by rw [bt_zero, if_pos (by simp)]; rfl)
  | succ i ih =>
    intro n h hn
    obtain ⟨m, rfl⟩ : ∃ m, n = m + 1 := ⟨n - 1, by omega⟩
    obtain ⟨j, rfl⟩ : ∃ j, m = j + 1 := ⟨m - 1, by omega⟩
    have h1 := ih (j + 1) (fun s => h (2 * s)) (by omega)
    have h2 := ih (j + 1) (fun s => h (2 * s + 1)) (by omega)
    rw [Nat.add_sub_cancel] at h1 h2 ⊢
    rw [Nat.pow_succ 2 (j + 1), Nat.mul_comm, sumTo_double]
    rw [sumTo_congr (h' := fun s => if bt s i = true then h (2 * s) else 0) (fun s _ => by rw [bt_succ, show 2 * s / 2 = s by omega])]
    rw [sumTo_congr (h := fun s => if bt (2 * s + 1) (i + 1) = true then h (2 * s + 1) else 0) (h' := fun s => if bt s i = true then h (2 * s + 1) else 0) (fun s _ => by rw [bt_succ, show (2 * s + 1) / 2 = s by omega])]
    rw [h1, h2, Nat.pow_succ 2 j, Nat.mul_comm, sumTo_double]
    congr 1
    · exact sumTo_congr (fun s _ => by show _ = h (2 * ins i (2 * s / 2) + 2 * s % 2); rw [show 2 * s / 2 = s by omega, show 2 * s % 2 = 0 by omega]; rfl)
    · exact sumTo_congr (fun s _ => by show _ = h (2 * ins i ((2 * s + 1) / 2) + (2 * s + 1) % 2); rw [show (2 * s + 1) / 2 = s by omega, show (2 * s + 1) % 2 = 1 by omega])
/-- How the current of a tree goes through a tape: r are the labels without the tape. -/
def sgL (e : Tp) (a b : Int) (r : List Int) : Int := if at6 r a = at6 r e.1 ∧ at6 r b = at6 r e.2.1 then 1 else if at6 r a = at6 r e.2.1 ∧ at6 r b = at6 r e.1 then -1 else 0
theorem sgL_cases (e : Tp) (a b : Int) (r : List Int) : sgL e a b r = 1 ∨ sgL e a b r = -1 ∨ sgL e a b r = 0 := by
  unfold sgL; split
  · exact .inl rfl
  · split
    · exact .inr (.inl rfl)
    · exact .inr (.inr rfl)
/-- What a set adds to the current of the tape i: sets of just k tapes. -/
def addC (l : List Tp) (k : Nat) (a b : Int) (i s : Nat) : Int := if pcf l.length s = k ∧ bt s i = true then wgt l (2 ^ l.length - 1 - s) * sgL (tpA l i) a b (jk l (s - 2 ^ i) l.length).1 else 0
def trmC (l : List Tp) (k : Nat) (a b : Int) (i s : Nat) : Int := if (jk l s l.length).2 = true then addC l k a b i s else 0
theorem erase_ok {l : List Tp} (h : okL l) (i : Nat) : okL (l.eraseIdx i) := fun t ht => h t (List.mem_of_mem_eraseIdx ht)
theorem eraseF_len {l : List Tp} {i : Nat} (h : i < l.length) : (l.eraseIdx i).length = l.length - 1 := by rw [List.length_eraseIdx, if_pos h]
theorem sg_pw {α β A B : Int} (g : Int) (h : ¬ A = B) : g * (if α = A ∧ β = B then 1 else if α = B ∧ β = A then -1 else 0) = (if α = A ∧ β = B then g else 0) - (if α = B ∧ β = A then g else 0) := by
  by_cases c1 : α = A ∧ β = B
  · obtain ⟨rfl, rfl⟩ := c1
    rw [if_pos ⟨rfl, rfl⟩, if_pos ⟨rfl, rfl⟩, if_neg (fun c => h c.1)]; omega
  · rw [if_neg c1, if_neg c1]
    by_cases c2 : α = B ∧ β = A
    · rw [if_pos c2, if_pos c2]; omega
    · rw [if_neg c2, if_neg c2]; omega
/-- Over all sets, the current of a tape. -/
theorem flow_sets {l : List Tp} (hl : okL l) {k i : Nat} (hi : i < l.length) (a b : Int) : sumTo (trmC l (k + 1) a b i) (2 ^ l.length) = flo k (l.eraseIdx i) (tpA l i) a b := by
  have e0 : ∀ s, s < 2 ^ l.length → trmC l (k + 1) a b i s = if bt s i = true then (if (jk l s l.length).2 = true ∧ pcf l.length s = k + 1 then wgt l (2 ^ l.length - 1 - s) * sgL (tpA l i) a b (jk l (s - 2 ^ i) l.length).1 else 0) else 0 := by
    intro s _
    unfold trmC addC
    cases bt s i <;> cases (jk l s l.length).2 <;> simp
  rw [sumTo_congr e0, sumTo_bit i l.length _ hi]
  unfold flo
  rw [← sum_term, ← sum_term, ← sumTo_sub, eraseF_len hi]
  refine sumTo_congr (fun s hs => ?_)
  have hp := pick_sel l i s hi
  have hF := sel_ok hl (ins i s)
  obtain ⟨-, h2⟩ := ind_pick hF lab_R0 hp
  dsimp only at h2
  have j1 : (jk l (ins i s) l.length).2 = ind (sel l (ins i s)) R0 := by rw [jk_all, run_sel]; simp
  have j2 : (jk l (ins i s - 2 ^ i) l.length).1 = full (sel (l.eraseIdx i) s) R0 := by
    rw [ins_dl, Nat.add_sub_cancel, jk_all, run_sel, sel_dl l i s hi]
  rw [j1, j2, pcf_ins hi, wgt_ins l i s hi hs]
  unfold term
  rw [run_sel, eraseF_len hi]
  dsimp only
  rw [Bool.true_and]
  generalize sel (l.eraseIdx i) s = F' at *
  generalize ind (sel l (ins i s)) R0 = x at *
  generalize wgt (l.eraseIdx i) (2 ^ (l.length - 1) - 1 - s) = g at *
  generalize pcf (l.length - 1) s = c at *
  generalize tpA l i = e at *
  generalize full F' R0 = r at *
  generalize ind F' R0 = y at *
  unfold pos neg sgL
  have h3 := apt_iff (x := e.1) (y := e.2.1) (r := r)
  generalize apt e.1 e.2.1 r = z at *
  by_cases hc : c = k
  · subst hc
    cases y <;> cases z <;> cases x <;> simp at h2 h3 ⊢
    generalize at6 r a = α at *
    generalize at6 r b = β at *
    generalize at6 r e.1 = A at *
    generalize at6 r e.2.1 = B at *
    exact sg_pw g h3
  · rw [if_neg (fun h => hc (by omega)), if_neg (fun h => hc h.2.1), if_neg (fun h => hc h.2.1)]; rfl
theorem trmC_abs {l : List Tp} (hl : okL l) (k : Nat) (a b : Int) (i s : Nat) : - term tt k l (R0, true) s ≤ trmC l k a b i s ∧ trmC l k a b i s ≤ term tt k l (R0, true) s := by
  have hw := (wgt_bd hl (2 ^ l.length - 1 - s)).1
  unfold trmC addC term
  rw [jk_all]
  by_cases h1 : (run l s (R0, true)).2 = true
  · rw [if_pos h1]
    by_cases h2 : pcf l.length s = k
    · have hc : (run l s (R0, true)).2 = true ∧ pcf l.length s = k ∧ tt (run l s (R0, true)).1 = true := ⟨h1, h2, rfl⟩
      simp only [if_pos hc]
      by_cases h3 : bt s i = true
      · rw [if_pos ⟨h2, h3⟩]
        rcases sgL_cases (tpA l i) a b (jk l (s - 2 ^ i) l.length).1 with h | h | h <;> rw [h] <;> omega
      · rw [if_neg (fun h => h3 h.2)]; omega
    · have n1 : ¬ (pcf l.length s = k ∧ bt s i = true) := fun h => h2 h.1
      have n2 : ¬ ((run l s (R0, true)).2 = true ∧ pcf l.length s = k ∧ tt (run l s (R0, true)).1 = true) := fun h => h2 h.2.1
      simp only [if_neg n1, if_neg n2]; omega
  · have n2 : ¬ ((run l s (R0, true)).2 = true ∧ pcf l.length s = k ∧ tt (run l s (R0, true)).1 = true) := fun h => h1 h.1
    simp only [if_neg h1, if_neg n2]; omega
theorem sumTo_between {h g : Nat → Int} (hh : ∀ s, -h s ≤ g s ∧ g s ≤ h s) : ∀ n, - sumTo h n ≤ sumTo g n ∧ sumTo g n ≤ sumTo h n := by
  intro n
  induction n with
  | zero => exact ⟨Int.le_refl _, Int.le_refl _⟩
  | succ n ih => have := hh n; show - (_ + _) ≤ _ + _ ∧ _ + _ ≤ _ + _; omega
theorem partC_bd {l : List Tp} (hl : okL l) (h10 : l.length ≤ 10) (k : Nat) (a b : Int) (i : Nat) {j : Nat} (hj : j ≤ 2 ^ l.length) : -713342911662882601 ≤ sumTo (trmC l k a b i) j ∧ sumTo (trmC l k a b i) j ≤ 713342911662882601 := by
  have h1 := sumTo_between (trmC_abs hl k a b i) j
  have h2 := part_bd (P := tt) (k := k) hl h10 (r := R0) hj
  omega
/-- With small partial sums the machine's sum is the sum. -/
theorem sumW_fl2 {l : List Tp} {m : Nat} {f g : Nat → Int} (hg : ∀ s, g s = if (jk l s m).2 = true then f s else 0) {N : Nat} (hb : ∀ k, k ≤ N → -713342911662882601 ≤ sumTo g k ∧ sumTo g k ≤ 713342911662882601) : ∀ k, k ≤ N → sumW f (fl l m k) = sumTo g k := by
  intro k
  induction k with
  | zero => intro _; rfl
  | succ k ih =>
    intro hk
    have h1 := ih (by omega)
    have h2 := hb (k + 1) hk
    have h3 : sumTo g (k + 1) = sumTo g k + g k := rfl
    rw [hg k] at h3
    cases ht : (jk l k m).2
    · rw [fl_no ht, h1, h3, ht]; simp
    · rw [ht, if_pos rfl] at h3
      by_cases h0 : f k = 0
      · rw [fl_yes ht, sumW_no _ h0, h1, h3, h0]; omega
      · rw [fl_yes ht, sumW_yes _ h0, h1, ← h3]
        exact IntWalk.wrap64_in _ ⟨by omega, by omega⟩
theorem sumW_flow {l : List Tp} (hl : okL l) (h10 : l.length ≤ 10) {k i : Nat} (hi : i < l.length) (a b : Int) : sumW (addC l (k + 1) a b i) (fl l l.length (2 ^ l.length)) = flo k (l.eraseIdx i) (tpA l i) a b := by
  rw [sumW_fl2 (g := trmC l (k + 1) a b i) (fun s => rfl) (N := 2 ^ l.length) (fun j hj => partC_bd hl h10 _ a b i hj) _ (Nat.le_refl _), flow_sets hl hi]
theorem flow_bd {l : List Tp} (hl : okL l) {k i : Nat} (hi : i < l.length) (a b : Int) : -(sumL tt (k + 1) l R0) ≤ flo k (l.eraseIdx i) (tpA l i) a b ∧ flo k (l.eraseIdx i) (tpA l i) a b ≤ sumL tt (k + 1) l R0 := by
  rw [← flow_sets hl hi, ← sum_term]
  exact sumTo_between (trmC_abs hl (k + 1) a b i) _
end Go.Proofs.Ytloogollfconpaa
