/- Nets of tapes: the part of a net that is joined to a node has its sums as a factor; less tapes, more resistance: plain. No program is named. -/
import Derived.Test.YtloogollfconpaaNetI
import Derived.Test.YtloogollfconpaaNetH
set_option linter.unusedSimpArgs false
set_option linter.unusedVariables false
namespace Go.Proofs.Ytloogollfconpaa

/-- Nodes of S and others bear different labels. -/
def Sep (S : Int → Bool) (r : List Int) : Prop := ∀ x y, nod x → nod y → S x = true → S y = false → at6 r x ≠ at6 r y
/-- Two labellings tell the nodes outside S from each other alike. -/
def Out (S : Int → Bool) (r r' : List Int) : Prop := ∀ x y, nod x → nod y → S x = false → S y = false → (at6 r x = at6 r y ↔ at6 r' x = at6 r' y)
theorem Sep.mgL {S : Int → Bool} {r : List Int} (h : Sep S r) (hr : r.length = 6) {t : Tp} (t1 : nod t.1) (t2 : nod t.2.1) (hs : S t.1 = S t.2.1) : Sep S (mgL r t) := by
  intro x y hx hy sx sy he
  rcases (mgL_iff hr hx hy).1 he with h1 | ⟨h1, h2⟩
  · exact h x y hx hy sx sy h1
  · cases hb : S t.1
    · rw [hb] at hs
      rcases h1 with h1 | h1
      · exact h _ _ hx t1 sx hb h1
      · exact h _ _ hx t2 sx hs.symm h1
    · rw [hb] at hs
      rcases h2 with h2 | h2
      · exact h _ _ t1 hy hb sy h2.symm
      · exact h _ _ t2 hy hs.symm sy h2.symm
theorem Out.both {S : Int → Bool} {r r' : List Int} (h : Out S r r') (hr : r.length = 6) (hr' : r'.length = 6) {t : Tp} (t1 : nod t.1) (t2 : nod t.2.1) (s1 : S t.1 = false) (s2 : S t.2.1 = false) : Out S (mgL r t) (mgL r' t) := by
  intro x y hx hy sx sy
  rw [mgL_iff hr hx hy, mgL_iff hr' hx hy, h x y hx hy sx sy, h x _ hx t1 sx s1, h x _ hx t2 sx s2, h y _ hy t1 sy s1, h y _ hy t2 sy s2]
theorem Out.left {S : Int → Bool} {r r' : List Int} (h : Out S r r') (hs : Sep S r) (hr : r.length = 6) {t : Tp} (t1 : nod t.1) (t2 : nod t.2.1) (s1 : S t.1 = true) (s2 : S t.2.1 = true) : Out S (mgL r t) r' := by
  intro x y hx hy sx sy
  rw [mgL_iff hr hx hy, ← h x y hx hy sx sy]
  constructor
  · rintro (h1 | ⟨h1 | h1, -⟩)
    · exact h1
    · exact absurd h1.symm (hs _ _ t1 hx s1 sx)
    · exact absurd h1.symm (hs _ _ t2 hx s2 sx)
  · exact .inl
theorem rest_sum {S : Int → Bool} {Q : List Int → Bool} (hQ : ∀ (r : List Int) (t : Tp), r.length = 6 → Sep S r → nod t.1 → nod t.2.1 → S t.1 = false → S t.2.1 = false → Q (mgL r t) = Q r) {n : List Tp} (hn : okL n) (hs : ∀ t, t ∈ n → S t.1 = false ∧ S t.2.1 = false) :
    ∀ (k : Nat) (r r' : List Int), r.length = 6 → r'.length = 6 → Sep S r → Out S r r' → sumL Q k n r = b01 (Q r) * sumL tt k n r' := by
  induction n with
  | nil =>
    intro k r r' _ _ _ _
    show (if k = 0 ∧ Q r = true then (1 : Int) else 0) = (if Q r = true then 1 else 0) * (if k = 0 ∧ true = true then 1 else 0)
    by_cases h1 : k = 0 <;> by_cases h2 : Q r = true <;> simp [h1, h2]
  | cons t n ih =>
    intro k r r' hr hr' hS hO
    obtain ⟨t1, t2, -, -, -⟩ := okL_head hn
    obtain ⟨s1, s2⟩ := hs t (List.mem_cons_self ..)
    have ih' := ih (okL_tail hn) (fun u hu => hs u (List.mem_cons_of_mem _ hu))
    rw [sumL_cons, sumL_cons, ih' k r r' hr hr' hS hO, Int.mul_add]
    congr 1
    · exact Int.mul_left_comm ..
    · have e := hO _ _ t1 t2 s1 s2
      by_cases he : at6 r t.1 = at6 r t.2.1
      · rw [if_pos he, if_pos (e.1 he), Int.mul_zero]
      · rw [if_neg he, if_neg (fun h => he (e.2 h))]
        cases k with
        | zero => simp only [sm]; rw [Int.mul_zero]
        | succ k =>
          simp only [sm]
          rw [ih' k _ _ (by rw [mgL_len]; exact hr) (by rw [mgL_len]; exact hr') (hS.mgL hr t1 t2 (s1.trans s2.symm)) (hO.both hr hr' t1 t2 s1 s2), hQ r t hr hS t1 t2 s1 s2]
theorem conv_sum {S : Int → Bool} {Q : List Int → Bool} (hQ : ∀ (r : List Int) (t : Tp), r.length = 6 → Sep S r → nod t.1 → nod t.2.1 → S t.1 = false → S t.2.1 = false → Q (mgL r t) = Q r) {n : List Tp} (hn : okL n) (hs : ∀ t, t ∈ n → S t.1 = false ∧ S t.2.1 = false) {r' : List Int} (hr' : r'.length = 6)
    {l : List Tp} (hl : okL l) (hsl : ∀ t, t ∈ l → S t.1 = true ∧ S t.2.1 = true) : ∀ (k : Nat) (r : List Int), r.length = 6 → Sep S r → Out S r r' → sumL Q k (l ++ n) r = sumTo (fun i => sumL Q i l r * sumL tt (k - i) n r') (k + 1) := by
  induction l with
  | nil =>
    intro k r hr hS hO
    rw [List.nil_append, rest_sum hQ hn hs k r r' hr hr' hS hO, sumTo_first]
    · show _ = (if 0 = 0 ∧ Q r = true then (1 : Int) else 0) * _
      unfold b01
      simp
    · intro i hi
      show (if i = 0 ∧ Q r = true then (1 : Int) else 0) * _ = 0
      rw [if_neg (fun h => hi h.1), Int.zero_mul]
  | cons t l ih =>
    intro k r hr hS hO
    obtain ⟨t1, t2, -, -, -⟩ := okL_head hl
    obtain ⟨s1, s2⟩ := hsl t (List.mem_cons_self ..)
    have ih' := ih (okL_tail hl) (fun u hu => hsl u (List.mem_cons_of_mem _ hu))
    rw [List.cons_append, sumL_cons, ih' k r hr hS hO]
    have hcong : ∀ i, sumL Q i (t :: l) r * sumL tt (k - i) n r' = t.2.2 * (sumL Q i l r * sumL tt (k - i) n r') + (if at6 r t.1 = at6 r t.2.1 then 0 else (sm Q i l (mgL r t) * sumL tt (k - i) n r')) := by
      intro i
      rw [sumL_cons]
      split
      · simp [Int.mul_assoc]
      · rw [Int.add_mul, Int.mul_assoc]
    rw [sumTo_congr (fun i _ => hcong i), sumTo_add (fun i => t.2.2 * (sumL Q i l r * sumL tt (k - i) n r')) (fun i => if at6 r t.1 = at6 r t.2.1 then 0 else (sm Q i l (mgL r t) * sumL tt (k - i) n r')), sumTo_mul t.2.2 (fun i => sumL Q i l r * sumL tt (k - i) n r')]
    congr 1
    by_cases he : at6 r t.1 = at6 r t.2.1
    · rw [if_pos he, sumTo_congr (h' := fun _ => 0) (fun i _ => if_pos he), sumTo_zero]
    · rw [if_neg he, sumTo_congr (h' := fun i => match i with | 0 => 0 | j + 1 => sumL Q j l (mgL r t) * sumL tt (k - (j + 1)) n r') (fun i _ => by
        rw [if_neg he]
        cases i with
        | zero => simp [sm]
        | succ j => simp only [sm])]
      refine Eq.trans ?_ (sumTo_shift (fun j => sumL Q j l (mgL r t) * sumL tt (k - (j + 1)) n r') k).symm
      cases k with
      | zero => rfl
      | succ k =>
        simp only [sm]
        rw [ih' k _ (by rw [mgL_len]; exact hr) (hS.mgL hr t1 t2 (s1.trans s2.symm)) (hO.left hS hr t1 t2 s1 s2)]
        exact sumTo_congr (fun i _ => by rw [Nat.add_sub_add_right])
def UU (l : List Tp) (x y : Int) : Int := if rk l = 0 then 0 else sumL (apt x y) (rk l - 1) l R0
theorem over_rk {P : List Int → Bool} {l : List Tp} (hl : okL l) {k : Nat} (h : rk l < k) : sumL P k l R0 = 0 := by
  refine sumL_over hl k R0 lab_R0 ?_
  rw [labs_R0]
  unfold rk at h
  omega
theorem span_rk {P : List Int → Bool} {l : List Tp} (hl : okL l) : sumL P (rk l) l R0 = if P (full l R0) = true then TT l else 0 := by
  have := labs_le6 (r := full l R0)
  exact sumL_span hl _ R0 lab_R0 (by rw [labs_R0]; unfold rk; omega)
theorem near_rk {l : List Tp} (h : okL l) {a : Int} (ha : nod a) : rk (near l a) = cls l a - 1 := by
  have := near_labs h ha
  unfold rk; omega
theorem tt_def (l : List Tp) (k : Nat) (r : List Int) : sumL (fun _ => true) k l r = sumL tt k l r := rfl
theorem near_factor {l : List Tp} (hl : okL l) {a : Int} (ha : nod a) : ∃ c, 1 ≤ c ∧ TT l = treesN l a * c ∧
    ∀ x y, nod x → nod y → at6 (full l R0) x = at6 (full l R0) a → at6 (full l R0) y = at6 (full l R0) a → UU l x y = twosN l a x y * c := by
  let S : Int → Bool := fun x => at6 (full l R0) x == at6 (full l R0) a
  have hS : ∀ x, S x = true ↔ at6 (full l R0) x = at6 (full l R0) a := fun x => by simp [S]
  obtain ⟨n, hn⟩ : ∃ n, l.filter (fun t => !(at6 (full l R0) t.1 == at6 (full l R0) a)) = n := ⟨_, rfl⟩
  have hperm : l.Perm (near l a ++ n) := by rw [← hn]; exact (List.filter_append_perm _ l).symm
  have hno := near_ok hl a
  have hnn : okL n := fun t ht => hl t (by rw [← hn] at ht; exact (List.mem_filter.1 ht).1)
  have hs1 : ∀ t, t ∈ near l a → S t.1 = true ∧ S t.2.1 = true := by
    intro t ht
    obtain ⟨h1, h2⟩ := List.mem_filter.1 ht
    have := full_tape hl (r := R0) rfl t h1
    refine ⟨h2, ?_⟩
    rw [hS, ← this]; exact (hS _).1 h2
  have hs2 : ∀ t, t ∈ n → S t.1 = false ∧ S t.2.1 = false := by
    intro t ht
    rw [← hn] at ht
    obtain ⟨h1, h2⟩ := List.mem_filter.1 ht
    have := full_tape hl (r := R0) rfl t h1
    have h3 : S t.1 = false := by simpa [S] using h2
    refine ⟨h3, ?_⟩
    have h4 : S t.2.1 = S t.1 := by show (_ == _) = (_ == _); rw [this]
    rw [h4]; exact h3
  have hsep : Sep S R0 := by
    intro x y hx hy sx sy he
    rw [at6_R0 hx, at6_R0 hy] at he
    rw [he, sy] at sx; cases sx
  have hout : Out S R0 R0 := fun x y _ _ _ _ => Iff.rfl
  have hconv : ∀ Q : List Int → Bool, (∀ (r : List Int) (t : Tp), r.length = 6 → Sep S r → nod t.1 → nod t.2.1 → S t.1 = false → S t.2.1 = false → Q (mgL r t) = Q r) → ∀ k, sumL Q k l R0 = sumTo (fun i => sumL Q i (near l a) R0 * sumL tt (k - i) n R0) (k + 1) := by
    intro Q hQ k
    rw [sumL_perm hperm hl k R0 lab_R0]
    exact conv_sum hQ hnn hs2 rfl hno hs1 k R0 rfl hsep hout
  have htt := hconv tt (fun _ _ _ _ _ _ _ _ => rfl)
  have hrk := near_rk hl ha
  have hT : treesN l a = sumL tt (rk (near l a)) (near l a) R0 := by unfold treesN; rw [hrk]; rfl
  have hT1 := trees_pos hl ha
  have hq1 := TT_pos hnn
  have hq : TT n = sumL tt (rk n) n R0 := rfl
  have hl1 := TT_pos hl
  have hrl : rk l = rk (near l a) + rk n := by
    have h1 : rk (near l a) + rk n ≤ rk l := by
      rcases Nat.lt_or_ge (rk l) (rk (near l a) + rk n) with h | h
      · have h2 := over_rk (P := tt) hl h
        rw [htt, conv_at (f := fun i => sumL tt i (near l a) R0) (g := fun j => sumL tt j n R0) rfl (fun i hi => over_rk hno hi) (fun j hj => over_rk hnn hj)] at h2
        rw [← hT, ← hq] at h2
        have : 1 * 1 ≤ treesN l a * TT n := Int.mul_le_mul hT1 hq1 (by omega) (by omega)
        omega
      · exact h
    rcases Nat.lt_or_ge (rk (near l a) + rk n) (rk l) with h | h
    · exfalso
      have h2 : TT l = 0 := by
        show sumL tt (rk l) l R0 = 0
        rw [htt, sumTo_congr (h' := fun _ => 0) (fun i _ => ?_), sumTo_zero]
        rcases Nat.lt_or_ge (rk (near l a)) i with h3 | h3
        · rw [over_rk hno h3, Int.zero_mul]
        · rw [over_rk hnn (by omega), Int.mul_zero]
      omega
    · omega
  refine ⟨TT n, hq1, ?_, ?_⟩
  · show sumL tt (rk l) l R0 = _
    rw [htt, conv_at (f := fun i => sumL tt i (near l a) R0) (g := fun j => sumL tt j n R0) hrl.symm (fun i hi => over_rk hno hi) (fun j hj => over_rk hnn hj), hT]
    rfl
  · intro x y hx hy ex ey
    have hQ : ∀ (r : List Int) (t : Tp), r.length = 6 → Sep S r → nod t.1 → nod t.2.1 → S t.1 = false → S t.2.1 = false → apt x y (mgL r t) = apt x y r := by
      intro r t hr hSr t1 t2 s1 s2
      unfold apt
      congr 1
      rw [Bool.eq_iff_iff, beq_iff_eq, beq_iff_eq, mgL_iff hr hx hy]
      constructor
      · rintro (h | ⟨h | h, -⟩)
        · exact h
        · exact absurd h (hSr _ _ hx t1 ((hS x).2 ex) s1)
        · exact absurd h (hSr _ _ hx t2 ((hS x).2 ex) s2)
      · exact .inl
    have hz : ∀ i, cls l a - 1 ≤ i → sumL (apt x y) i (near l a) R0 = 0 := fun i hi => part_apt hl ha hx hy ex ey hi
    unfold UU
    have e2 : twosN l a x y = if cls l a - 1 = 0 then 0 else sumL (apt x y) (cls l a - 1 - 1) (near l a) R0 := rfl
    rw [e2]
    by_cases hK : cls l a - 1 = 0
    · rw [if_pos hK, Int.zero_mul]
      split
      · rfl
      · rw [hconv _ hQ, sumTo_congr (h' := fun _ => 0) (fun i _ => by rw [hz i (by omega), Int.zero_mul]), sumTo_zero]
    · rw [if_neg hK, if_neg (by omega), hconv _ hQ, conv_at (f := fun i => sumL (apt x y) i (near l a) R0) (g := fun j => sumL tt j n R0) (p := cls l a - 1 - 1) (q := rk n) (by omega) (fun i hi => hz i (by omega)) (fun j hj => over_rk hnn hj)]
      rfl
end Go.Proofs.Ytloogollfconpaa
