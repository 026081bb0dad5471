/- Nets of tapes: order does not matter; ranks; contraction: plain. No program is named. -/
import Derived.Test.YtloogollfconpaaNetC
set_option linter.unusedSimpArgs false
set_option linter.unusedVariables false
namespace Go.Proofs.Ytloogollfconpaa

def apt (x y : Int) (r : List Int) : Bool := !(at6 r x == at6 r y)
theorem apt_iff {x y : Int} {r : List Int} : apt x y r = true ↔ at6 r x ≠ at6 r y := by unfold apt; simp
theorem okL_tail {t : Tp} {l : List Tp} (h : okL (t :: l)) : okL l := fun u hu => h u (List.mem_cons_of_mem _ hu)
theorem okL_head {t : Tp} {l : List Tp} (h : okL (t :: l)) : okT t := h t (List.mem_cons_self ..)
theorem okL_cons {t : Tp} {l : List Tp} (h1 : okT t) (h2 : okL l) : okL (t :: l) := fun u hu => by
  rcases List.mem_cons.1 hu with rfl | hu
  · exact h1
  · exact h2 u hu
theorem full_mgL {l : List Tp} (hl : okL l) {t : Tp} (t1 : nod t.1) (t2 : nod t.2.1) : ∀ {r : List Int}, Lab r → full l (mgL r t) = mgL (full l r) t := by
  induction l with
  | nil => intro r _; rfl
  | cons s l ih =>
    intro r hr
    have hs := okL_head hl
    rw [full_cons, full_cons, mgL_swap hr.len t1 t2 hs.1 hs.2.1]
    exact ih (okL_tail hl) (hr.mgL hs.1 hs.2.1)
def sm (P : List Int → Bool) : Nat → List Tp → List Int → Int
  | 0, _, _ => 0
  | k + 1, l, r => sumL P k l r
theorem sumL_cons (P : List Int → Bool) (k : Nat) (t : Tp) (l : List Tp) (r : List Int) : sumL P k (t :: l) r = t.2.2 * sumL P k l r + (if at6 r t.1 = at6 r t.2.1 then 0 else sm P k l (mgL r t)) := by
  cases k <;> rfl
theorem sumL_swap {P : List Int → Bool} {k : Nat} {s t : Tp} {l : List Tp} {r : List Int} (hs : okT s) (ht : okT t) (hr : Lab r) : sumL P k (s :: t :: l) r = sumL P k (t :: s :: l) r := by
  obtain ⟨s1, s2, -, -, -⟩ := hs
  obtain ⟨t1, t2, -, -, -⟩ := ht
  rw [sumL_cons, sumL_cons, sumL_cons, sumL_cons]
  have e1 := mgL_iff (t := s) hr.len t1 t2
  have e2 := mgL_iff (t := t) hr.len s1 s2
  have e3 : at6 r t.1 = at6 r t.2.1 → mgL r t = r := mgL_same
  have e4 : at6 r s.1 = at6 r s.2.1 → mgL r s = r := mgL_same
  cases k with
  | zero =>
    simp only [sm]
    have e : t.2.2 * (s.2.2 * sumL P 0 l r) = s.2.2 * (t.2.2 * sumL P 0 l r) := Int.mul_left_comm ..
    split <;> split <;> simp [Int.mul_add, e]
  | succ k =>
    simp only [sm]
    rw [sumL_cons, sumL_cons]
    by_cases hS : at6 r s.1 = at6 r s.2.1
    · rw [if_pos hS, if_pos hS]
      by_cases hT : at6 r t.1 = at6 r t.2.1
      · rw [if_pos hT, if_pos hT, Int.add_zero, Int.add_zero, Int.add_zero, Int.add_zero]; exact Int.mul_left_comm ..
      · rw [if_neg hT, if_neg hT, if_pos (e2.2 (.inl hS))]
        simp only [Int.add_zero, Int.mul_add]
        rw [Int.mul_left_comm]
    · rw [if_neg hS, if_neg hS]
      by_cases hT : at6 r t.1 = at6 r t.2.1
      · rw [if_pos hT, if_pos hT, if_pos (e1.2 (.inl hT))]
        simp only [Int.add_zero, Int.mul_add]
        rw [Int.mul_left_comm]
      · rw [if_neg hT, if_neg hT, mgL_swap hr.len s1 s2 t1 t2]
        have e5 : (at6 (mgL r s) t.1 = at6 (mgL r s) t.2.1) ↔ (at6 (mgL r t) s.1 = at6 (mgL r t) s.2.1) := by
          rw [e1, e2]; clear e1 e2 e3 e4
          generalize at6 r s.1 = c at *
          generalize at6 r s.2.1 = d at *
          generalize at6 r t.1 = e' at *
          generalize at6 r t.2.1 = f at *
          omega
        simp only [e5, Int.mul_add]
        rw [Int.mul_left_comm t.2.2]
        omega
theorem sumL_perm {P : List Int → Bool} {l l' : List Tp} (h : l.Perm l') : okL l → ∀ (k : Nat) (r : List Int), Lab r → sumL P k l r = sumL P k l' r := by
  induction h with
  | nil => intros; rfl
  | cons t h ih =>
    intro hl k r hr
    rw [sumL_cons, sumL_cons, ih (okL_tail hl) k r hr]
    cases k with
    | zero => rfl
    | succ k => simp only [sm]; rw [ih (okL_tail hl) k _ (hr.mgL (okL_head hl).1 (okL_head hl).2.1)]
  | swap s t l =>
    intro hl k r hr
    exact sumL_swap (okL_head hl) (okL_head (okL_tail hl)) hr
  | trans h1 h2 ih1 ih2 =>
    intro hl k r hr
    exact (ih1 hl k r hr).trans (ih2 (fun t ht => hl t (h1.mem_iff.2 ht)) k r hr)
theorem full_perm {l l' : List Tp} (h : l.Perm l') : okL l → ∀ (r : List Int), Lab r → full l r = full l' r := by
  induction h with
  | nil => intros; rfl
  | cons t h ih => intro hl r hr; exact ih (okL_tail hl) _ (hr.mgL (okL_head hl).1 (okL_head hl).2.1)
  | swap s t l =>
    intro hl r hr
    have h1 := okL_head hl
    have h2 := okL_head (okL_tail hl)
    show full l (mgL (mgL r t) s) = full l (mgL (mgL r s) t)
    rw [mgL_swap hr.len h1.1 h1.2.1 h2.1 h2.2.1]
  | trans h1 h2 ih1 ih2 => intro hl r hr; exact (ih1 hl r hr).trans (ih2 (fun t ht => hl t (h1.mem_iff.2 ht)) r hr)
/-- What keeps two nodes joined adds nothing where they must be apart. -/
theorem sumL_joined {Q : List Int → Bool} {x y : Int} (hx : nod x) (hy : nod y) {l : List Tp} (hl : okL l) : ∀ (k : Nat) (r : List Int), r.length = 6 → at6 r x = at6 r y → sumL (fun r => apt x y r && Q r) k l r = 0 := by
  induction l with
  | nil => intro k r _ h; show (if k = 0 ∧ (apt x y r && Q r) = true then (1 : Int) else 0) = 0; rw [if_neg]; simp [apt, h]
  | cons t l ih =>
    intro k r hr h
    rw [sumL_cons, ih (okL_tail hl) k r hr h, Int.mul_zero]
    split
    · rfl
    · cases k with
      | zero => rfl
      | succ k => simp only [sm]; rw [ih (okL_tail hl) k _ (by rw [mgL_len]; exact hr) ((mgL_iff hr hx hy).2 (.inl h))]; rfl
/-- A sum with two nodes made one from the start is that with a tape between them laid last. -/
theorem sumL_contract {P : List Int → Bool} {t : Tp} (t1 : nod t.1) (t2 : nod t.2.1) {l : List Tp} (hl : okL l) : ∀ (k : Nat) (r : List Int), Lab r → at6 r t.1 ≠ at6 r t.2.1 →
    sumL P k l (mgL r t) = sumL (fun r' => apt t.1 t.2.1 r' && P (mgL r' t)) k l r := by
  induction l with
  | nil =>
    intro k r hr h
    show (if k = 0 ∧ P (mgL r t) = true then (1 : Int) else 0) = if k = 0 ∧ (apt t.1 t.2.1 r && P (mgL r t)) = true then 1 else 0
    rw [apt_iff.2 h, Bool.true_and]
  | cons s l ih =>
    intro k r hr h
    obtain ⟨s1, s2, -, -, -⟩ := okL_head hl
    have hl' := okL_tail hl
    rw [sumL_cons, sumL_cons, ih hl' k r hr h]
    congr 1
    have e2 := mgL_iff (t := t) hr.len s1 s2
    have e1 := mgL_iff (t := s) hr.len t1 t2
    by_cases hS : at6 r s.1 = at6 r s.2.1
    · rw [if_pos hS, if_pos (e2.2 (.inl hS))]
    · rw [if_neg hS]
      cases k with
      | zero => simp only [sm]; split <;> rfl
      | succ k =>
        simp only [sm]
        by_cases hT : at6 (mgL r s) t.1 = at6 (mgL r s) t.2.1
        · rw [sumL_joined t1 t2 hl' k _ (by rw [mgL_len]; exact hr.len) hT, if_pos]
          rw [e1] at hT
          rw [e2]
          generalize at6 r s.1 = c at *
          generalize at6 r s.2.1 = d at *
          generalize at6 r t.1 = e' at *
          generalize at6 r t.2.1 = f at *
          omega
        · rw [← ih hl' k _ (hr.mgL s1 s2) hT, if_neg, mgL_swap hr.len s1 s2 t1 t2]
          rw [e1] at hT
          rw [e2]
          generalize at6 r s.1 = c at *
          generalize at6 r s.2.1 = d at *
          generalize at6 r t.1 = e' at *
          generalize at6 r t.2.1 = f at *
          omega
theorem labs_full_cons {l : List Tp} (hl : okL l) {t : Tp} (t1 : nod t.1) (t2 : nod t.2.1) {r : List Int} (hr : Lab r) :
    (at6 (full l r) t.1 = at6 (full l r) t.2.1 ∧ full (t :: l) r = full l r) ∨ (at6 (full l r) t.1 ≠ at6 (full l r) t.2.1 ∧ labs (full (t :: l) r) + 1 = labs (full l r)) := by
  have h := full_mgL hl t1 t2 hr
  rw [full_cons, h]
  by_cases he : at6 (full l r) t.1 = at6 (full l r) t.2.1
  · exact .inl ⟨he, mgL_same he⟩
  · exact .inr ⟨he, labs_mgL (hr.full hl) t1 t2 he⟩
/-- No more tapes than the rank. -/
theorem sumL_over {P : List Int → Bool} {l : List Tp} (hl : okL l) : ∀ (k : Nat) (r : List Int), Lab r → labs r < k + labs (full l r) → sumL P k l r = 0 := by
  induction l with
  | nil => intro k r _ h; show (if k = 0 ∧ P r = true then (1 : Int) else 0) = 0; rw [if_neg]; intro h2; rw [show full [] r = r from rfl] at h; omega
  | cons t l ih =>
    intro k r hr h
    obtain ⟨t1, t2, -, -, -⟩ := okL_head hl
    have hl' := okL_tail hl
    have hc := labs_full_cons hl' t1 t2 hr
    have h0 : labs r < k + labs (full l r) := by
      rcases hc with ⟨-, h3⟩ | ⟨-, h3⟩
      · rw [← h3]; exact h
      · omega
    rw [sumL_cons, ih hl' k r hr h0, Int.mul_zero]
    by_cases he : at6 r t.1 = at6 r t.2.1
    · rw [if_pos he]; rfl
    · rw [if_neg he]
      have h1 := labs_mgL hr t1 t2 he
      cases k with
      | zero => rfl
      | succ k => simp only [sm]; rw [ih hl' k _ (hr.mgL t1 t2) (by rw [full_cons] at h; omega)]; rfl
/-- A set of as many tapes as the rank joins all that the list joins. -/
theorem sumL_span {P : List Int → Bool} {l : List Tp} (hl : okL l) : ∀ (k : Nat) (r : List Int), Lab r → labs r = k + labs (full l r) → sumL P k l r = if P (full l r) = true then sumL (fun _ => true) k l r else 0 := by
  induction l with
  | nil =>
    intro k r _ h
    show (if k = 0 ∧ P r = true then (1 : Int) else 0) = if P r = true then (if k = 0 ∧ true = true then 1 else 0) else 0
    by_cases hP : P r = true <;> simp [hP]
  | cons t l ih =>
    intro k r hr h
    obtain ⟨t1, t2, -, -, -⟩ := okL_head hl
    have hl' := okL_tail hl
    have hc := labs_full_cons hl' t1 t2 hr
    rw [sumL_cons, sumL_cons]
    have hA : sumL P k l r = if P (full (t :: l) r) = true then sumL (fun _ => true) k l r else 0 := by
      rcases hc with ⟨-, h3⟩ | ⟨-, h3⟩
      · rw [h3] at h ⊢; exact ih hl' k r hr h
      · rw [sumL_over hl' k r hr (by omega), sumL_over hl' k r hr (by omega)]; simp
    have hB : (if at6 r t.1 = at6 r t.2.1 then 0 else sm P k l (mgL r t)) = if P (full (t :: l) r) = true then (if at6 r t.1 = at6 r t.2.1 then 0 else sm (fun _ => true) k l (mgL r t)) else 0 := by
      by_cases he : at6 r t.1 = at6 r t.2.1
      · rw [if_pos he, if_pos he]; simp
      · rw [if_neg he, if_neg he]
        have h1 := labs_mgL hr t1 t2 he
        cases k with
        | zero => simp [sm]
        | succ k => simp only [sm]; exact ih hl' k _ (hr.mgL t1 t2) (by rw [full_cons] at h; omega)
    rw [hA, hB]
    by_cases hP : P (full (t :: l) r) = true
    · simp only [if_pos hP]
    · simp only [if_neg hP]; simp
end Go.Proofs.Ytloogollfconpaa
