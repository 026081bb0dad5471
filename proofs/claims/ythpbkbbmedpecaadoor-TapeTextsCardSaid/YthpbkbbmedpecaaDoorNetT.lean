/- Nets of tapes: labels, trees and forests: plain. No program is named. -/
import Derived.Test.YthpbkbbmedpecaaDoorNetM
set_option linter.unusedSimpArgs false
set_option linter.unusedVariables false
namespace Go.Proofs.YthpbkbbmedpecaaDoor

theorem sumL_sub {P P1 P2 : List Int → Bool} (hP : ∀ r, P r = true → P1 r = true ∨ P2 r = true) {l : List Tp} (h : okL l) : ∀ k r, sumL P k l r ≤ sumL P1 k l r + sumL P2 k l r := by
  induction l with
  | nil =>
    intro k r
    show (if k = 0 ∧ P r = true then (1 : Int) else 0) ≤ (if k = 0 ∧ P1 r = true then 1 else 0) + (if k = 0 ∧ P2 r = true then 1 else 0)
    by_cases h0 : k = 0 ∧ P r = true
    · rw [if_pos h0]
      rcases hP r h0.2 with h1 | h1
      · rw [if_pos ⟨h0.1, h1⟩]; split <;> omega
      · rw [if_pos (c := k = 0 ∧ P2 r = true) ⟨h0.1, h1⟩]; split <;> omega
    · rw [if_neg h0]; split <;> split <;> omega
  | cons t l ih =>
    intro k r
    have hl : okL l := fun u hu => h u (List.mem_cons_of_mem _ hu)
    have ih' := ih hl
    obtain ⟨-, -, -, h3, h4⟩ := h t (List.mem_cons_self ..)
    have h5 : t.2.2 * sumL P k l r ≤ t.2.2 * (sumL P1 k l r + sumL P2 k l r) := Int.mul_le_mul_of_nonneg_left (ih' k r) (by omega)
    rw [Int.mul_add] at h5
    show t.2.2 * sumL P k l r + _ ≤ (t.2.2 * sumL P1 k l r + _) + (t.2.2 * sumL P2 k l r + _)
    by_cases hab : at6 r t.1 = at6 r t.2.1
    · simp only [if_pos hab]; omega
    · simp only [if_neg hab]
      cases k with
      | zero => simp only; omega
      | succ k => have := ih' k (mgL r t); simp only; omega
theorem sumL_ff {P : List Int → Bool} (hP : ∀ r, P r = false) : ∀ (l : List Tp) k r, sumL P k l r = 0 := by
  intro l
  induction l with
  | nil => intro k r; show (if k = 0 ∧ P r = true then (1 : Int) else 0) = 0; rw [if_neg (by rw [hP r]; intro h; cases h.2)]
  | cons t l ih =>
    intro k r
    show t.2.2 * sumL P k l r + _ = 0
    rw [ih, Int.mul_zero]
    split
    · rfl
    · cases k with
      | zero => rfl
      | succ k => show 0 + sumL P k l (mgL r t) = 0; rw [ih]; rfl
theorem sumL_congr {P P' : List Int → Bool} (hP : ∀ r, P r = P' r) (l : List Tp) (k : Nat) (r : List Int) : sumL P k l r = sumL P' k l r := by
  rw [show P = P' from funext hP]

/-! ### Labels -/
/-- All tapes of a list. -/
def full (l : List Tp) (r : List Int) : List Int := l.foldl mgL r
theorem full_cons (t : Tp) (l : List Tp) (r : List Int) : full (t :: l) r = full l (mgL r t) := rfl
theorem run_full : ∀ (l : List Tp) (q : List Int × Bool), (run l (2 ^ l.length - 1) q).1 = full l q.1 := by
  intro l
  induction l with
  | nil => intro q; rfl
  | cons t l ih =>
    intro q
    have hp : 0 < 2 ^ l.length := Nat.pow_pos (by omega)
    have h1 : (2 ^ (t :: l).length - 1) % 2 = 1 := by rw [List.length_cons, Nat.pow_succ]; omega
    have h2 : (2 ^ (t :: l).length - 1) / 2 = 2 ^ l.length - 1 := by rw [List.length_cons, Nat.pow_succ]; omega
    show (run l ((2 ^ (t :: l).length - 1) / 2) (stepR q t ((2 ^ (t :: l).length - 1) % 2 == 1))).1 = _
    rw [h1, h2, ih]; rfl
theorem full_len (l : List Tp) : ∀ r : List Int, (full l r).length = r.length := by
  induction l with
  | nil => intro r; rfl
  | cons t l ih => intro r; rw [full_cons, ih, mgL_len]
/-- Labels are nodes that have their own label. -/
structure Lab (r : List Int) : Prop where
  len : r.length = 6
  nd : ∀ x, nod x → nod (at6 r x)
  fix : ∀ x, nod x → at6 r (at6 r x) = at6 r x
theorem lab_R0 : Lab R0 := ⟨rfl, fun x h => by rw [at6_R0 h]; exact h, fun x h => by rw [at6_R0 h, at6_R0 h]⟩
theorem mg_cases (p q x : Int) : mg p q x = x ∨ (mg p q x = min p q ∧ x = max p q) := by
  unfold mg; split <;> omega
theorem Lab.mgL {r : List Int} (h : Lab r) {t : Tp} (h1 : nod t.1) (h2 : nod t.2.1) : Lab (mgL r t) := by
  have hp := h.nd _ h1
  have hq := h.nd _ h2
  have hfp := h.fix _ h1
  have hfq := h.fix _ h2
  have e : ∀ x, nod x → at6 (Go.Proofs.YthpbkbbmedpecaaDoor.mgL r t) x = mg (at6 r t.1) (at6 r t.2.1) (at6 r x) := fun x hx => at6_mgL h.len hx.1 hx.2
  refine ⟨by rw [mgL_len]; exact h.len, fun x hx => ?_, fun x hx => ?_⟩
  · rw [e x hx]
    have := h.nd x hx
    generalize at6 r t.1 = p at *
    generalize at6 r t.2.1 = q at *
    unfold nod at *
    unfold mg; split <;> omega
  · have hn : nod (at6 (Go.Proofs.YthpbkbbmedpecaaDoor.mgL r t) x) := by
      rw [e x hx]
      have := h.nd x hx
      generalize at6 r t.1 = p at *
      generalize at6 r t.2.1 = q at *
      unfold nod at *
      unfold mg; split <;> omega
    rw [e _ hn, e x hx]
    have hx2 := h.fix x hx
    generalize hP : at6 r t.1 = p at *
    generalize hQ : at6 r t.2.1 = q at *
    rcases mg_cases p q (at6 r x) with h3 | ⟨h3, h4⟩
    · rw [h3, hx2, h3]
    · rw [h3]
      rcases Int.le_total p q with h5 | h5
      · rw [Int.min_eq_left h5, hfp]; unfold mg; split <;> omega
      · rw [Int.min_eq_right h5, hfq]; unfold mg; split <;> omega
theorem Lab.full {l : List Tp} (hl : okL l) : ∀ {r : List Int}, Lab r → Lab (full l r) := by
  induction l with
  | nil => intro r h; exact h
  | cons t l ih =>
    intro r h
    have ht := hl t (List.mem_cons_self ..)
    exact ih (fun u hu => hl u (List.mem_cons_of_mem _ hu)) (h.mgL ht.1 ht.2.1)
/-- What has one label keeps one label. -/
theorem full_keep {l : List Tp} (hl : okL l) : ∀ {r : List Int}, r.length = 6 → ∀ {x y : Int}, nod x → nod y → at6 r x = at6 r y → at6 (full l r) x = at6 (full l r) y := by
  induction l with
  | nil => intro r _ x y _ _ h; exact h
  | cons t l ih =>
    intro r hr x y hx hy h
    exact ih (fun u hu => hl u (List.mem_cons_of_mem _ hu)) (by rw [mgL_len]; exact hr) hx hy ((mgL_iff hr hx hy).2 (.inl h))
/-- The ends of a tape have one label at the end. -/
theorem full_tape {l : List Tp} (hl : okL l) : ∀ {r : List Int}, r.length = 6 → ∀ t, t ∈ l → at6 (full l r) t.1 = at6 (full l r) t.2.1 := by
  induction l with
  | nil => intro r _ t h; cases h
  | cons u l ih =>
    intro r hr t ht
    have hl' : okL l := fun u hu => hl u (List.mem_cons_of_mem _ hu)
    rcases List.mem_cons.1 ht with rfl | ht
    · have h2 := hl t (List.mem_cons_self ..)
      exact full_keep hl' (by rw [mgL_len]; exact hr) h2.1 h2.2.1 ((mgL_iff hr h2.1 h2.2.1).2 (.inr ⟨.inl rfl, .inr rfl⟩))
    · exact ih hl' (by rw [mgL_len]; exact hr) t ht
/-! ### How many labels there are -/
def one6 (p : Int → Prop) [DecidablePred p] (x : Int) : Nat := if p x then 1 else 0
def cnt6 (p : Int → Prop) [DecidablePred p] : Nat := one6 p 0 + one6 p 1 + one6 p 2 + one6 p 3 + one6 p 4 + one6 p 5
theorem cnt6_le (p : Int → Prop) [DecidablePred p] : cnt6 p ≤ 6 := by
  have h : ∀ x, one6 p x ≤ 1 := fun x => by unfold one6; split <;> omega
  have := h 0; have := h 1; have := h 2; have := h 3; have := h 4; have := h 5
  unfold cnt6; omega
def labs (r : List Int) : Nat := cnt6 fun x => at6 r x = x
theorem labs_R0 : labs R0 = 6 := by decide
/-- A merge of two labels takes one away. -/
theorem labs_mgL {r : List Int} (h : Lab r) {t : Tp} (h1 : nod t.1) (h2 : nod t.2.1) (hne : at6 r t.1 ≠ at6 r t.2.1) : labs (mgL r t) + 1 = labs r := by
  have hp := h.nd _ h1
  have hq := h.nd _ h2
  have hfp := h.fix _ h1
  have hfq := h.fix _ h2
  have key : ∀ x, nod x → one6 (fun x => at6 (mgL r t) x = x) x + (if x = max (at6 r t.1) (at6 r t.2.1) then 1 else 0) = one6 (fun x => at6 r x = x) x := by
    intro x hx
    have e := at6_mgL (t := t) h.len hx.1 hx.2
    have hx2 := h.fix x hx
    unfold one6
    simp only [e]
    generalize at6 r t.1 = p at *
    generalize at6 r t.2.1 = q at *
    by_cases hM : x = max p q
    · rw [if_pos hM]
      have hxx : at6 r x = x := by
        rcases Int.le_total p q with h5 | h5
        · rw [Int.max_eq_right h5] at hM; rw [hM]; exact hfq
        · rw [Int.max_eq_left h5] at hM; rw [hM]; exact hfp
      rw [if_pos hxx, hxx, if_neg]
      unfold mg; rw [if_pos hM]; omega
    · rw [if_neg hM]
      by_cases hxx : at6 r x = x
      · rw [if_pos hxx, hxx, if_pos]
        unfold mg; rw [if_neg hM]
      · rw [if_neg hxx, if_neg]
        intro hmg
        rcases mg_cases p q (at6 r x) with h3 | ⟨h3, h4⟩
        · exact hxx (by rw [← h3]; exact hmg)
        · rw [h3] at hmg
          rcases Int.le_total p q with h5 | h5
          · rw [Int.min_eq_left h5] at hmg; rw [← hmg] at hxx; exact hxx hfp
          · rw [Int.min_eq_right h5] at hmg; rw [← hmg] at hxx; exact hxx hfq
  have k0 := key 0 (by unfold nod; omega)
  have k1 := key 1 (by unfold nod; omega)
  have k2 := key 2 (by unfold nod; omega)
  have k3 := key 3 (by unfold nod; omega)
  have k4 := key 4 (by unfold nod; omega)
  have k5 := key 5 (by unfold nod; omega)
  unfold labs cnt6
  generalize hM : max (at6 r t.1) (at6 r t.2.1) = M at *
  have hMn : M = 0 ∨ M = 1 ∨ M = 2 ∨ M = 3 ∨ M = 4 ∨ M = 5 := by unfold nod at *; omega
  rcases hMn with rfl | rfl | rfl | rfl | rfl | rfl <;> simp at k0 k1 k2 k3 k4 k5 <;> omega
theorem mgL_same {r : List Int} {t : Tp} (h : at6 r t.1 = at6 r t.2.1) : mgL r t = r := by
  unfold mgL
  rw [h]
  have e : ∀ x, mg (at6 r t.2.1) (at6 r t.2.1) x = x := fun x => by unfold mg; split <;> omega
  rw [show mg (at6 r t.2.1) (at6 r t.2.1) = id from funext e, List.map_id]
theorem labs_full {l : List Tp} (hl : okL l) : ∀ {r : List Int}, Lab r → labs (full l r) ≤ labs r := by
  induction l with
  | nil => intro r _; exact Nat.le_refl _
  | cons t l ih =>
    intro r h
    have ht := hl t (List.mem_cons_self ..)
    have h1 := ih (fun u hu => hl u (List.mem_cons_of_mem _ hu)) (h.mgL ht.1 ht.2.1)
    rw [full_cons]
    by_cases he : at6 r t.1 = at6 r t.2.1
    · rw [mgL_same he] at h1 ⊢; exact h1
    · have := labs_mgL h ht.1 ht.2.1 he; omega
/-- There is a set of tapes without a circle that joins all that the list joins. -/
theorem sumL_pos {l : List Tp} (hl : okL l) : ∀ {r : List Int}, Lab r → 1 ≤ sumL (fun _ => true) (labs r - labs (full l r)) l r := by
  induction l with
  | nil =>
    intro r _
    show 1 ≤ (if labs r - labs r = 0 ∧ true = true then (1 : Int) else 0)
    rw [if_pos ⟨by omega, rfl⟩]; exact Int.le_refl _
  | cons t l ih =>
    intro r h
    have ht := hl t (List.mem_cons_self ..)
    have hl' : okL l := fun u hu => hl u (List.mem_cons_of_mem _ hu)
    show 1 ≤ t.2.2 * sumL _ _ l r + _
    obtain ⟨h1, h2, -, h3, h4⟩ := ht
    by_cases he : at6 r t.1 = at6 r t.2.1
    · rw [if_pos he, full_cons, mgL_same he, Int.add_zero]
      have := ih hl' h
      have h5 : 1 * 1 ≤ t.2.2 * sumL (fun _ => true) (labs r - labs (full l r)) l r := Int.mul_le_mul h3 this (by omega) (by omega)
      omega
    · rw [if_neg he, full_cons]
      have h5 := labs_mgL h h1 h2 he
      have h6 := labs_full hl' (h.mgL h1 h2)
      have h7 := ih hl' (h.mgL h1 h2)
      rw [show labs r - labs (full l (mgL r t)) = (labs (mgL r t) - labs (full l (mgL r t))) + 1 by omega]
      have h8 : 0 ≤ t.2.2 * sumL (fun _ => true) (labs (mgL r t) - labs (full l (mgL r t)) + 1) l r := Int.mul_nonneg (by omega) (sumL_nonneg hl' _ _)
      show 1 ≤ _ + sumL (fun _ => true) (labs (mgL r t) - labs (full l (mgL r t))) l (mgL r t)
      omega
/-! ### The part of a net that is joined to a node -/
def near (l : List Tp) (a : Int) : List Tp := l.filter fun t => at6 (full l R0) t.1 == at6 (full l R0) a
def cls (l : List Tp) (a : Int) : Nat := cnt6 fun x => at6 (full l R0) x = at6 (full l R0) a
theorem near_ok {l : List Tp} (h : okL l) (a : Int) : okL (near l a) := fun t ht => h t (List.mem_filter.1 ht).1
theorem near_len (l : List Tp) (a : Int) : (near l a).length ≤ l.length := List.length_filter_le ..
theorem near_eq {l : List Tp} {a b : Int} (h : at6 (full l R0) a = at6 (full l R0) b) : near l a = near l b := by unfold near; rw [h]
theorem cls_eq {l : List Tp} {a b : Int} (h : at6 (full l R0) a = at6 (full l R0) b) : cls l a = cls l b := by unfold cls; simp only [h]
/-- The whole list and its part, side by side: R are the labels at the end. -/
theorem near_run {R : List Int} {c : Int} : ∀ (l : List Tp) (r r' : List Int), okL l → r.length = 6 → Lab r' → full l r = R → (∀ t, t ∈ l → at6 R t.1 = at6 R t.2.1) →
    (∀ x y, nod x → nod y → at6 R x = c → at6 R y = c → (at6 r x = at6 r y ↔ at6 r' x = at6 r' y)) → (∀ x, nod x → at6 R x ≠ c → at6 r' x = x) → (∀ x, nod x → at6 R x = c → at6 R (at6 r' x) = c) →
    let r2 := full (l.filter fun t => at6 R t.1 == c) r'
    (∀ x y, nod x → nod y → at6 R x = c → at6 R y = c → at6 r2 x = at6 r2 y) ∧ (∀ x, nod x → at6 R x ≠ c → at6 r2 x = x) ∧ (∀ x, nod x → at6 R x = c → at6 R (at6 r2 x) = c) := by
  intro l
  induction l with
  | nil =>
    intro r r' _ _ _ hR _ h1 h2 h3
    refine ⟨fun x y hx hy hxc hyc => (h1 x y hx hy hxc hyc).1 ?_, h2, h3⟩
    have hR' : r = R := hR
    rw [hR', hxc, hyc]
  | cons t l ih =>
    intro r r' hl hr hr' hR ht h1 h2 h3
    have hl' : okL l := fun u hu => hl u (List.mem_cons_of_mem _ hu)
    obtain ⟨hA, hB, -, -, -⟩ := hl t (List.mem_cons_self ..)
    have hAB := ht t (List.mem_cons_self ..)
    have ht' : ∀ t, t ∈ l → at6 R t.1 = at6 R t.2.1 := fun u hu => ht u (List.mem_cons_of_mem _ hu)
    have hfin : ∀ x y, nod x → nod y → at6 r x = at6 r y → at6 R x = at6 R y := fun x y hx hy h => by
      rw [← hR]; exact full_keep hl hr hx hy h
    rw [full_cons] at hR
    have hrl : (mgL r t).length = 6 := by rw [mgL_len]; exact hr
    by_cases hc : at6 R t.1 = c
    · have hcB : at6 R t.2.1 = c := by rw [← hAB]; exact hc
      have hf : (t :: l).filter (fun t => at6 R t.1 == c) = t :: l.filter (fun t => at6 R t.1 == c) := by
        rw [List.filter_cons_of_pos (by simpa using hc)]
      rw [hf]
      show (∀ x y, _) ∧ _
      rw [full_cons]
      refine ih (mgL r t) (mgL r' t) hl' hrl (hr'.mgL hA hB) hR ht' (fun x y hx hy hxc hyc => ?_) (fun x hx hxc => ?_) (fun x hx hxc => ?_)
      · rw [mgL_iff hr hx hy, mgL_iff hr'.len hx hy, h1 x y hx hy hxc hyc, h1 x _ hx hA hxc hc, h1 x _ hx hB hxc hcB, h1 y _ hy hA hyc hc, h1 y _ hy hB hyc hcB]
      · rw [at6_mgL hr'.len hx.1 hx.2, h2 x hx hxc]
        have e1 := h3 _ hA hc
        have e2 := h3 _ hB hcB
        generalize at6 r' t.1 = p at *
        generalize at6 r' t.2.1 = q at *
        unfold mg
        rw [if_neg]
        intro hM
        rcases Int.le_total p q with h5 | h5
        · rw [Int.max_eq_right h5] at hM; rw [hM] at hxc; exact hxc e2
        · rw [Int.max_eq_left h5] at hM; rw [hM] at hxc; exact hxc e1
      · rw [at6_mgL hr'.len hx.1 hx.2]
        have e1 := h3 _ hA hc
        have e2 := h3 _ hB hcB
        have e3 := h3 _ hx hxc
        generalize at6 r' t.1 = p at *
        generalize at6 r' t.2.1 = q at *
        rcases mg_cases p q (at6 r' x) with h5 | ⟨h5, -⟩
        · rw [h5]; exact e3
        · rw [h5]
          rcases Int.le_total p q with h6 | h6
          · rw [Int.min_eq_left h6]; exact e1
          · rw [Int.min_eq_right h6]; exact e2
    · have hcB : at6 R t.2.1 ≠ c := by rw [← hAB]; exact hc
      have hf : (t :: l).filter (fun t => at6 R t.1 == c) = l.filter (fun t => at6 R t.1 == c) := by
        rw [List.filter_cons_of_neg (by simpa using hc)]
      rw [hf]
      refine ih (mgL r t) r' hl' hrl hr' hR ht' (fun x y hx hy hxc hyc => ?_) h2 h3
      rw [mgL_iff hr hx hy, ← h1 x y hx hy hxc hyc]
      constructor
      · rintro (h | ⟨h | h, -⟩)
        · exact h
        · exact absurd ((hfin _ _ hx hA h).symm.trans hxc) hc
        · exact absurd ((hfin _ _ hx hB h).symm.trans hxc) hcB
      · exact .inl
theorem near_labels {l : List Tp} (h : okL l) {a : Int} (ha : nod a) :
    (∀ x, nod x → at6 (full l R0) x = at6 (full l R0) a → at6 (full (near l a) R0) x = at6 (full (near l a) R0) a) ∧ (∀ x, nod x → at6 (full l R0) x ≠ at6 (full l R0) a → at6 (full (near l a) R0) x = x) ∧
    at6 (full l R0) (at6 (full (near l a) R0) a) = at6 (full l R0) a := by
  have h1 := near_run (R := full l R0) (c := at6 (full l R0) a) l R0 R0 h rfl lab_R0 rfl (fun t ht => full_tape h rfl t ht) (fun x y _ _ _ _ => Iff.rfl) (fun x hx _ => at6_R0 hx) (fun x hx hc => by rw [at6_R0 hx]; exact hc)
  exact ⟨fun x hx hc => h1.1 x a hx ha hc rfl, h1.2.1, h1.2.2 a ha rfl⟩
theorem near_labs {l : List Tp} (h : okL l) {a : Int} (ha : nod a) : labs (full (near l a) R0) + cls l a = 7 ∧ 1 ≤ cls l a := by
  obtain ⟨h1, h2, h3⟩ := near_labels h ha
  have hlab := lab_R0.full (near_ok h a)
  have hn := hlab.nd a ha
  have hfx := hlab.fix a ha
  unfold labs cls cnt6
  generalize full (near l a) R0 = r at *
  generalize full l R0 = R at *
  have key : ∀ x, nod x → one6 (fun x => at6 r x = x) x + one6 (fun x => at6 R x = at6 R a) x = 1 + if x = at6 r a then 1 else 0 := by
    intro x hx
    unfold one6
    by_cases hc : at6 R x = at6 R a
    · have e := h1 x hx hc
      simp only [if_pos hc, e]
      by_cases hxa : x = at6 r a
      · rw [if_pos hxa, if_pos hxa.symm]
      · rw [if_neg hxa, if_neg (fun h => hxa h.symm)]
    · have e := h2 x hx hc
      simp only [if_neg hc, e, if_true]
      rw [if_neg]
      intro hxa
      rw [hxa] at hc
      exact hc h3
  have k0 := key 0 (by unfold nod; omega)
  have k1 := key 1 (by unfold nod; omega)
  have k2 := key 2 (by unfold nod; omega)
  have k3 := key 3 (by unfold nod; omega)
  have k4 := key 4 (by unfold nod; omega)
  have k5 := key 5 (by unfold nod; omega)
  have ka : one6 (fun x => at6 R x = at6 R a) a = 1 := by unfold one6; simp
  have hla : ∀ x, one6 (fun x => at6 r x = x) x ≤ 1 := fun x => by unfold one6; split <;> omega
  generalize hM : at6 r a = M at *
  have hMn : M = 0 ∨ M = 1 ∨ M = 2 ∨ M = 3 ∨ M = 4 ∨ M = 5 := by unfold nod at hn; omega
  have han : a = 0 ∨ a = 1 ∨ a = 2 ∨ a = 3 ∨ a = 4 ∨ a = 5 := by unfold nod at ha; omega
  constructor
  · rcases hMn with rfl | rfl | rfl | rfl | rfl | rfl <;> simp at k0 k1 k2 k3 k4 k5 <;> omega
  · rcases han with rfl | rfl | rfl | rfl | rfl | rfl <;> omega
/-! ### Trees and forests of a part -/
def treesN (l : List Tp) (a : Int) : Int := sumL (fun _ => true) (cls l a - 1) (near l a) R0
def twosN (l : List Tp) (a x y : Int) : Int := if cls l a - 1 = 0 then 0 else sumL (fun r => !(at6 r x == at6 r y)) (cls l a - 1 - 1) (near l a) R0
theorem trees_pos {l : List Tp} (h : okL l) {a : Int} (ha : nod a) : 1 ≤ treesN l a := by
  have h1 := near_labs h ha
  have h2 := sumL_pos (near_ok h a) lab_R0
  unfold treesN
  rw [labs_R0] at h2
  rw [show cls l a - 1 = 6 - labs (full (near l a) R0) by omega]
  exact h2
theorem trees_bd {l : List Tp} (h : okL l) (hl : l.length ≤ 10) (a : Int) : treesN l a ≤ 713342911662882601 := by
  have h1 := sumL_le (P := fun _ => true) (near_ok h a) (cls l a - 1) R0
  have h2 := pow61 (Nat.le_trans (near_len l a) hl)
  unfold treesN; omega
theorem twos_bd {l : List Tp} (h : okL l) (hl : l.length ≤ 10) (a x y : Int) : 0 ≤ twosN l a x y ∧ twosN l a x y ≤ 713342911662882601 := by
  have h1 := sumL_le (P := fun r => !(at6 r x == at6 r y)) (near_ok h a) (cls l a - 1 - 1) R0
  have h2 := pow61 (Nat.le_trans (near_len l a) hl)
  have h3 := sumL_nonneg (P := fun r => !(at6 r x == at6 r y)) (near_ok h a) (cls l a - 1 - 1) R0
  unfold twosN; split <;> omega
theorem twos_eq {l : List Tp} {a b : Int} (h : at6 (full l R0) a = at6 (full l R0) b) (x y : Int) : twosN l a x y = twosN l b x y := by unfold twosN; rw [near_eq h, cls_eq h]
theorem trees_eq {l : List Tp} {a b : Int} (h : at6 (full l R0) a = at6 (full l R0) b) : treesN l a = treesN l b := by unfold treesN; rw [near_eq h, cls_eq h]
theorem twos_comm (l : List Tp) (a x y : Int) : twosN l a x y = twosN l a y x := by
  unfold twosN
  split
  · rfl
  · exact sumL_congr (fun r => by rw [Bool.beq_comm]) _ _ _
theorem twos_self (l : List Tp) (a x : Int) : twosN l a x x = 0 := by
  unfold twosN
  split
  · rfl
  · exact sumL_ff (fun r => by simp) _ _ _
theorem twos_tri {l : List Tp} (h : okL l) (a x y z : Int) : twosN l a x z ≤ twosN l a x y + twosN l a y z := by
  unfold twosN
  split
  · omega
  · refine sumL_sub (fun r hr => ?_) (near_ok h a) _ _
    simp only [Bool.not_eq_true', beq_eq_false_iff_ne, ne_eq] at hr ⊢
    by_cases h1 : at6 r x = at6 r y
    · exact .inr (fun h2 => hr (h1.trans h2))
    · exact .inl h1
end Go.Proofs.YthpbkbbmedpecaaDoor
