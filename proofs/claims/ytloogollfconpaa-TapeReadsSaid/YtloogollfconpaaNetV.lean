/- Nets of tapes: two nodes made one, with new names; a tape taken out; trees counted: plain. No program is named. -/
import Derived.Test.YtloogollfconpaaNetL
import Derived.Test.YtloogollfconpaaNetS
set_option linter.unusedSimpArgs false
set_option linter.unusedVariables false
namespace Go.Proofs.Ytloogollfconpaa

def nw (a b x : Int) : Int := if x = b then a else if x > b then x - 1 else x
def mrgT (a b : Int) (t : Tp) : Tp := (min (nw a b t.1) (nw a b t.2.1), max (nw a b t.1) (nw a b t.2.1), t.2.2)
def mrg (a b : Int) (l : List Tp) : List Tp := (l.filter fun t => !(nw a b t.1 == nw a b t.2.1)).map (mrgT a b)
def dropW (a b : Int) : List Tp → Int
  | [] => 1
  | t :: l => (if nw a b t.1 = nw a b t.2.1 then t.2.2 else 1) * dropW a b l
theorem nw_nod {a b x : Int} (ha : nod a) (hb : nod b) (hx : nod x) : nod (nw a b x) := by
  unfold nw nod at *; split
  · exact ha
  · split <;> omega
theorem nw_lt {a b x n : Int} (ha : 0 ≤ a) (hab : a < b) (hb : b < n) (h0 : 0 ≤ x) (hx : x < n) : 0 ≤ nw a b x ∧ nw a b x < n - 1 := by
  unfold nw; split
  · omega
  · split <;> omega
theorem nw_iff {a b x y : Int} (hab : a < b) : nw a b x = nw a b y ↔ (x = y ∨ ((x = a ∨ x = b) ∧ (y = a ∨ y = b))) := by
  unfold nw; split <;> split <;> (try split) <;> (try split) <;> omega
theorem mrg_cons (a b : Int) (t : Tp) (l : List Tp) : mrg a b (t :: l) = if nw a b t.1 = nw a b t.2.1 then mrg a b l else mrgT a b t :: mrg a b l := by
  unfold mrg
  by_cases h : nw a b t.1 = nw a b t.2.1
  · rw [if_pos h, List.filter_cons_of_neg (by simpa using h)]
  · rw [if_neg h, List.filter_cons_of_pos (by simpa using h), List.map_cons]
theorem mrg_perm {a b : Int} {l l' : List Tp} (h : l.Perm l') : (mrg a b l).Perm (mrg a b l') := (h.filter _).map _
theorem mrg_self {a b o : Int} (hab : a < b) (l : List Tp) : mrg a b ((a, b, o) :: l) = mrg a b l := by
  rw [mrg_cons, if_pos]
  rw [nw_iff hab]; exact .inr ⟨.inl rfl, .inr rfl⟩
/-- One labelling of the net, the other of the net with two nodes made one. -/
def Mr (a b : Int) (r r' : List Int) : Prop := ∀ x y, nod x → nod y → (at6 r x = at6 r y ↔ at6 r' (nw a b x) = at6 r' (nw a b y))
theorem Mr.start {a b o : Int} (ha : nod a) (hb : nod b) (hab : a < b) : Mr a b (mgL R0 (a, b, o)) R0 := by
  intro x y hx hy
  rw [mgL_iff (t := (a, b, o)) rfl hx hy, at6_R0 hx, at6_R0 hy, at6_R0 (nw_nod ha hb hx), at6_R0 (nw_nod ha hb hy), nw_iff hab, at6_R0 ha, at6_R0 hb]
theorem ends_mm (p q : Int) (r : List Int) : (at6 r (min p q) = at6 r p ∧ at6 r (max p q) = at6 r q) ∨ (at6 r (min p q) = at6 r q ∧ at6 r (max p q) = at6 r p) := by
  rcases Int.le_total p q with h | h
  · left; rw [Int.min_eq_left h, Int.max_eq_right h]; exact ⟨rfl, rfl⟩
  · right; rw [Int.min_eq_right h, Int.max_eq_left h]; exact ⟨rfl, rfl⟩
theorem mrgT_nod {a b : Int} (ha : nod a) (hb : nod b) {t : Tp} (t1 : nod t.1) (t2 : nod t.2.1) : nod (mrgT a b t).1 ∧ nod (mrgT a b t).2.1 := by
  have h1 := nw_nod ha hb t1
  have h2 := nw_nod ha hb t2
  unfold mrgT nod at *
  dsimp only
  omega
theorem Mr.step {a b : Int} (ha : nod a) (hb : nod b) {r r' : List Int} (h : Mr a b r r') (hr : r.length = 6) (hr' : r'.length = 6) {t : Tp} (t1 : nod t.1) (t2 : nod t.2.1) :
    (at6 r t.1 = at6 r t.2.1 ↔ at6 r' (mrgT a b t).1 = at6 r' (mrgT a b t).2.1) ∧ Mr a b (mgL r t) (mgL r' (mrgT a b t)) := by
  have hm := ends_mm (nw a b t.1) (nw a b t.2.1) r'
  have hnd := mrgT_nod ha hb t1 t2
  constructor
  · rw [h _ _ t1 t2]
    show _ ↔ at6 r' (min _ _) = at6 r' (max _ _)
    omega
  · intro x y hx hy
    rw [mgL_iff hr hx hy, mgL_iff hr' (nw_nod ha hb hx) (nw_nod ha hb hy), h x y hx hy, h x _ hx t1, h x _ hx t2, h y _ hy t1, h y _ hy t2]
    show _ ↔ (_ ∨ ((_ = at6 r' (min _ _) ∨ _ = at6 r' (max _ _)) ∧ (_ = at6 r' (min _ _) ∨ _ = at6 r' (max _ _))))
    omega
theorem Mr.drop {a b : Int} {r r' : List Int} (h : Mr a b r r') {t : Tp} (t1 : nod t.1) (t2 : nod t.2.1) (he : nw a b t.1 = nw a b t.2.1) : at6 r t.1 = at6 r t.2.1 := (h _ _ t1 t2).2 (by rw [he])
theorem sumL_mrg {a b : Int} (ha : nod a) (hb : nod b) {P P' : List Int → Bool} (hP : ∀ r r', Mr a b r r' → P r = P' r') {l : List Tp} (hl : okL l) : ∀ (k : Nat) (r r' : List Int), r.length = 6 → r'.length = 6 → Mr a b r r' → sumL P k l r = dropW a b l * sumL P' k (mrg a b l) r' := by
  induction l with
  | nil => intro k r r' _ _ h; show (if k = 0 ∧ P r = true then (1 : Int) else 0) = 1 * if k = 0 ∧ P' r' = true then 1 else 0; rw [hP r r' h, Int.one_mul]
  | cons t l ih =>
    intro k r r' hr hr' h
    obtain ⟨t1, t2, -, -, -⟩ := okL_head hl
    have ih' := ih (okL_tail hl)
    rw [sumL_cons, mrg_cons]
    show _ = (if nw a b t.1 = nw a b t.2.1 then t.2.2 else 1) * dropW a b l * _
    by_cases he : nw a b t.1 = nw a b t.2.1
    · rw [if_pos he, if_pos he, if_pos (h.drop t1 t2 he), ih' k r r' hr hr' h, Int.add_zero, Int.mul_assoc]
    · obtain ⟨e1, e2⟩ := h.step ha hb hr hr' t1 t2
      rw [if_neg he, if_neg he, sumL_cons, ih' k r r' hr hr' h, Int.one_mul, Int.mul_add]
      have e3 : (mrgT a b t).2.2 = t.2.2 := rfl
      rw [e3]
      congr 1
      · exact Int.mul_left_comm ..
      · by_cases h1 : at6 r t.1 = at6 r t.2.1
        · rw [if_pos h1, if_pos (e1.1 h1), Int.mul_zero]
        · rw [if_neg h1, if_neg (fun h2 => h1 (e1.2 h2))]
          cases k with
          | zero => simp only [sm]; rw [Int.mul_zero]
          | succ k => simp only [sm]; exact ih' k _ _ (by rw [mgL_len]; exact hr) (by rw [mgL_len]; exact hr') e2
theorem full_mrg {a b : Int} (ha : nod a) (hb : nod b) {l : List Tp} (hl : okL l) : ∀ (r r' : List Int), r.length = 6 → r'.length = 6 → Mr a b r r' → Mr a b (full l r) (full (mrg a b l) r') := by
  induction l with
  | nil => intro r r' _ _ h; exact h
  | cons t l ih =>
    intro r r' hr hr' h
    obtain ⟨t1, t2, -, -, -⟩ := okL_head hl
    have ih' := ih (okL_tail hl)
    rw [mrg_cons]
    by_cases he : nw a b t.1 = nw a b t.2.1
    · rw [if_pos he, full_cons, mgL_same (h.drop t1 t2 he)]
      exact ih' r r' hr hr' h
    · rw [if_neg he, full_cons, full_cons]
      exact ih' _ _ (by rw [mgL_len]; exact hr) (by rw [mgL_len]; exact hr') (h.step ha hb hr hr' t1 t2).2
theorem dropW_pos {a b : Int} {l : List Tp} (hl : okL l) : 1 ≤ dropW a b l := by
  induction l with
  | nil => exact Int.le_refl _
  | cons t l ih =>
    have h1 := ih (okL_tail hl)
    have h2 := (okL_head hl).2.2.2.1
    show 1 ≤ (if nw a b t.1 = nw a b t.2.1 then t.2.2 else 1) * dropW a b l
    split
    · have : 1 * 1 ≤ t.2.2 * dropW a b l := Int.mul_le_mul h2 h1 (by omega) (by omega)
      omega
    · omega
theorem mrg_ok {a b : Int} (ha : nod a) (hb : nod b) {l : List Tp} (hl : okL l) : okL (mrg a b l) := by
  intro u hu
  obtain ⟨t, ht, rfl⟩ := List.mem_map.1 hu
  obtain ⟨h1, h2⟩ := List.mem_filter.1 ht
  obtain ⟨t1, t2, t3, t4, t5⟩ := hl t h1
  have hne : nw a b t.1 ≠ nw a b t.2.1 := by simpa using h2
  have hn := mrgT_nod ha hb t1 t2
  refine ⟨hn.1, hn.2, ?_, t4, t5⟩
  unfold mrgT; dsimp only; omega
/-! ### A tape taken out of a net, and its ends made one -/
theorem erase_perm : ∀ {l : List Tp} {i : Nat}, i < l.length → l.Perm (tpA l i :: l.eraseIdx i) := by
  intro l
  induction l with
  | nil => intro i h; exact absurd h (by simp)
  | cons t l ih =>
    intro i h
    cases i with
    | zero => exact List.Perm.refl _
    | succ i => exact ((ih (by simpa using h)).cons t).trans (List.Perm.swap ..)
theorem rk_perm {l l' : List Tp} (h : l.Perm l') (hl : okL l) : rk l = rk l' := by unfold rk; rw [full_perm h hl R0 lab_R0]
theorem TT_perm {l l' : List Tp} (h : l.Perm l') (hl : okL l) : TT l = TT l' := by unfold TT; rw [← rk_perm h hl]; exact sumL_perm h hl _ _ lab_R0
theorem UU_perm {l l' : List Tp} (h : l.Perm l') (hl : okL l) (x y : Int) : UU l x y = UU l' x y := by unfold UU; rw [← rk_perm h hl, sumL_perm h hl _ _ lab_R0]
/-- Sums with the ends of a tape made one, and the rank. -/
theorem mrg_sums {a b o : Int} (hab : a < b) {m : List Tp} (hl : okL ((a, b, o) :: m)) : rk ((a, b, o) :: m) = rk (mrg a b m) + 1 ∧ ∃ D, 1 ≤ D ∧ sumL tt (rk (mrg a b m)) m (mgL R0 (a, b, o)) = D * TT (mrg a b m) ∧
    (∀ x y, nod x → nod y → (if rk (mrg a b m) = 0 then 0 else sumL (apt x y) (rk (mrg a b m) - 1) m (mgL R0 (a, b, o))) = D * UU (mrg a b m) (nw a b x) (nw a b y)) := by
  have ht := okL_head hl
  have hm := okL_tail hl
  have ha : nod a := ht.1
  have hb : nod b := ht.2.1
  have hM := mrg_ok ha hb hm
  have hs := Mr.start (o := o) ha hb hab
  have hkey : ∀ k, sumL tt k m (mgL R0 (a, b, o)) = dropW a b m * sumL tt k (mrg a b m) R0 := fun k => sumL_mrg ha hb (fun _ _ _ => rfl) hm k _ _ (by rw [mgL_len]; rfl) rfl hs
  have hD := dropW_pos (a := a) (b := b) hm
  have hl1 := lab_R0.mgL (t := (a, b, o)) ha hb
  have h5 := labs_mgL lab_R0 (t := (a, b, o)) ha hb (by rw [at6_R0 ha, at6_R0 hb]; omega)
  rw [labs_R0] at h5
  have hf : full ((a, b, o) :: m) R0 = full m (mgL R0 (a, b, o)) := rfl
  have h6 := labs_full hm hl1
  have hrk : rk ((a, b, o) :: m) = rk (mrg a b m) + 1 := by
    have h7 := TT_pos hM
    have h8 := hkey (rk (mrg a b m))
    have h9 : rk (mrg a b m) ≤ 5 - labs (full m (mgL R0 (a, b, o))) := by
      rcases Nat.lt_or_ge (5 - labs (full m (mgL R0 (a, b, o)))) (rk (mrg a b m)) with h | h
      · rw [sumL_over hm _ _ hl1 (by omega)] at h8
        have : 1 * 1 ≤ dropW a b m * TT (mrg a b m) := Int.mul_le_mul hD h7 (by omega) (by omega)
        change 0 = dropW a b m * TT (mrg a b m) at h8
        omega
      · exact h
    have h10 : 5 - labs (full m (mgL R0 (a, b, o))) ≤ rk (mrg a b m) := by
      rcases Nat.lt_or_ge (rk (mrg a b m)) (5 - labs (full m (mgL R0 (a, b, o)))) with h | h
      · have h11 := hkey (5 - labs (full m (mgL R0 (a, b, o))))
        rw [over_rk hM h, Int.mul_zero] at h11
        have h12 := sumL_pos hm hl1
        rw [show labs (mgL R0 (a, b, o)) = 5 by omega] at h12
        change 1 ≤ sumL tt _ _ _ at h12
        omega
      · exact h
    unfold rk at *
    rw [hf]; omega
  refine ⟨hrk, dropW a b m, hD, hkey _, fun x y hx hy => ?_⟩
  unfold UU
  split
  · rw [Int.mul_zero]
  · exact sumL_mrg ha hb (fun r r' h => by unfold apt; congr 1; rw [Bool.eq_iff_iff, beq_iff_eq, beq_iff_eq]; exact h x y hx hy) hm _ _ _ (by rw [mgL_len]; rfl) rfl hs
theorem joined_mrg {a b o : Int} (hab : a < b) {m : List Tp} (hl : okL ((a, b, o) :: m)) {x y : Int} (hx : nod x) (hy : nod y) : at6 (full ((a, b, o) :: m) R0) x = at6 (full ((a, b, o) :: m) R0) y ↔ at6 (full (mrg a b m) R0) (nw a b x) = at6 (full (mrg a b m) R0) (nw a b y) := by
  have ht := okL_head hl
  exact full_mrg ht.1 ht.2.1 (okL_tail hl) _ _ (by rw [mgL_len]; rfl) rfl (Mr.start ht.1 ht.2.1 hab) x y hx hy
theorem rk_pos {l : List Tp} (hl : okL l) {a b : Int} (ha : nod a) (hb : nod b) (hne : a ≠ b) (hab : at6 (full l R0) a = at6 (full l R0) b) : 1 ≤ rk l := by
  rcases Nat.eq_zero_or_pos (rk l) with h | h
  · exfalso
    have h6 := labs_full hl lab_R0
    rw [labs_R0] at h6
    have h7 := full_still hl lab_R0 (by rw [labs_R0]; unfold rk at h; omega)
    rw [h7, at6_R0 ha, at6_R0 hb] at hab
    exact hne hab
  · exact h
theorem UU_eq {l : List Tp} {k : Nat} (h : rk l = k + 1) (x y : Int) : UU l x y = sumL (apt x y) k l R0 := by unfold UU; rw [if_neg (by omega), h]; rfl
theorem UU_nonneg {l : List Tp} (h : okL l) (x y : Int) : 0 ≤ UU l x y := by
  unfold UU; split
  · exact Int.le_refl _
  · exact sumL_nonneg h _ _
theorem UU_self (l : List Tp) (x : Int) : UU l x x = 0 := by
  unfold UU; split
  · rfl
  · exact sumL_ff (fun r => by simp [apt]) _ _ _
/-- Without a tape no resistance is less. -/
theorem less_without {t : Tp} {m : List Tp} (hl : okL (t :: m)) {a b : Int} (ha : nod a) (hb : nod b) (hab : at6 (full m R0) a = at6 (full m R0) b) : TT m * UU (t :: m) a b ≤ TT (t :: m) * UU m a b := by
  by_cases hne : a = b
  · subst hne; rw [UU_self, UU_self]; simp
  · have h1 := rk_pos (okL_tail hl) ha hb hne hab
    have h2 := rk_pos hl ha hb hne (full_cons_keep hl ha hb hab)
    obtain ⟨k', hk'⟩ : ∃ k', rk m = k' + 1 := ⟨rk m - 1, by omega⟩
    obtain ⟨k, hk⟩ : ∃ k, rk (t :: m) = k + 1 := ⟨rk (t :: m) - 1, by omega⟩
    rw [UU_eq hk, UU_eq hk']
    exact rayleigh hl hk hk' ha hb hab
/-- With the ends of a tape made one no resistance is greater. -/
theorem less_merged {a b o : Int} (hab : a < b) {m : List Tp} (hl : okL ((a, b, o) :: m)) {x y : Int} (hx : nod x) (hy : nod y) (hxy : at6 (full ((a, b, o) :: m) R0) x = at6 (full ((a, b, o) :: m) R0) y) :
    UU (mrg a b m) (nw a b x) (nw a b y) * TT ((a, b, o) :: m) ≤ UU ((a, b, o) :: m) x y * TT (mrg a b m) := by
  obtain ⟨hrk, D, hD, e1, e2⟩ := mrg_sums hab hl
  obtain ⟨hna, hnb, -, ho, -⟩ : nod a ∧ nod b ∧ a < b ∧ 1 ≤ o ∧ o ≤ 60 := okL_head hl
  have hm := okL_tail hl
  have hM := mrg_ok (a := a) (b := b) hna hnb hm
  have hR : at6 R0 a ≠ at6 R0 b := by rw [at6_R0 hna, at6_R0 hnb]; omega
  have e2' := e2 x y hx hy
  -- the sums of the whole net, by its first tape
  have hT : TT ((a, b, o) :: m) = o * sumL tt (rk (mrg a b m) + 1) m R0 + D * TT (mrg a b m) := by
    unfold TT at *
    rw [hrk, sumL_cons]
    show o * _ + (if at6 R0 a = at6 R0 b then 0 else _) = _
    rw [if_neg hR]
    simp only [sm]
    rw [e1]
  have hU : UU ((a, b, o) :: m) x y = o * sumL (apt x y) (rk (mrg a b m)) m R0 + D * UU (mrg a b m) (nw a b x) (nw a b y) := by
    rw [UU_eq hrk, sumL_cons]
    show o * _ + (if at6 R0 a = at6 R0 b then 0 else _) = _
    rw [if_neg hR, ← e2']
    cases hk : rk (mrg a b m) with
    | zero => simp [sm]
    | succ k => simp [sm]
  have hTM := TT_pos hM
  have hVn := UU_nonneg hM (nw a b x) (nw a b y)
  have hT1 := TT_pos hl
  have hSn : 0 ≤ sumL (apt x y) (rk (mrg a b m)) m R0 := sumL_nonneg hm _ _
  rcases rk_cons hl with ⟨h1, h2, h3⟩ | ⟨h1, h3⟩
  · -- the tape is no bridge
    have hk' : rk m = rk (mrg a b m) + 1 := by omega
    have hxm : at6 (full m R0) x = at6 (full m R0) y := by rw [← h2]; exact hxy
    have hray := less_without hl hx hy hxm
    have hTm : sumL tt (rk (mrg a b m) + 1) m R0 = TT m := by unfold TT; rw [hk']
    have hUm : sumL (apt x y) (rk (mrg a b m)) m R0 = UU m x y := (UU_eq hk' x y).symm
    rw [hTm] at hT
    rw [hUm] at hU hSn
    have hTm1 := TT_pos hm
    generalize TT ((a, b, o) :: m) = T at *
    generalize UU ((a, b, o) :: m) x y = U at *
    generalize TT m = T' at *
    generalize UU m x y = U' at *
    generalize TT (mrg a b m) = S at *
    generalize UU (mrg a b m) (nw a b x) (nw a b y) = V at *
    subst hT; subst hU
    -- T' (o U' + D V) ≤ (o T' + D S) U'
    have h4 : T' * (D * V) ≤ D * S * U' := by
      have a1 : T' * (o * U' + D * V) = o * T' * U' + T' * (D * V) := by rw [Int.mul_add]; congr 1; ac_rfl
      have a2 : (o * T' + D * S) * U' = o * T' * U' + D * S * U' := by rw [Int.add_mul]
      rw [a1, a2] at hray; omega
    have h5 : T' * V ≤ S * U' := by
      have a1 : T' * (D * V) = D * (T' * V) := by ac_rfl
      have a2 : D * S * U' = D * (S * U') := by ac_rfl
      rw [a1, a2] at h4
      exact Int.le_of_mul_le_mul_left h4 (by omega)
    have h6 : o * (T' * V) ≤ o * (S * U') := Int.mul_le_mul_of_nonneg_left h5 (by omega)
    have a1 : V * (o * T' + D * S) = o * (T' * V) + D * (S * V) := by rw [Int.mul_add]; congr 1 <;> ac_rfl
    have a2 : (o * U' + D * V) * S = o * (S * U') + D * (S * V) := by rw [Int.add_mul]; congr 1 <;> ac_rfl
    rw [a1, a2]; omega
  · -- the tape is a bridge
    have hz : sumL tt (rk (mrg a b m) + 1) m R0 = 0 := over_rk hm (by omega)
    rw [hz, Int.mul_zero, Int.zero_add] at hT
    generalize TT ((a, b, o) :: m) = T at *
    generalize UU ((a, b, o) :: m) x y = U at *
    generalize TT (mrg a b m) = S at *
    generalize UU (mrg a b m) (nw a b x) (nw a b y) = V at *
    generalize sumL (apt x y) (rk (mrg a b m)) m R0 = X at *
    subst hT; subst hU
    have a1 : V * (D * S) = D * V * S := by ac_rfl
    rw [a1]
    have h7 : 0 ≤ o * X := Int.mul_nonneg (by omega) hSn
    exact Int.mul_le_mul_of_nonneg_right (by omega) (by omega)
/-! ### Trees counted -/
def ohm1 (t : Tp) : Tp := (t.1, t.2.1, 1)
def cT (k : Nat) (l : List Tp) : Int := sumL tt k (l.map ohm1) R0
theorem ohm1_ok {l : List Tp} (hl : okL l) : okL (l.map ohm1) := by
  intro u hu
  obtain ⟨t, ht, rfl⟩ := List.mem_map.1 hu
  obtain ⟨t1, t2, t3, -, -⟩ := hl t ht
  exact ⟨t1, t2, t3, by show (1 : Int) ≤ 1; omega, by show (1 : Int) ≤ 60; omega⟩
theorem mrg_ohm1 (a b : Int) (l : List Tp) : mrg a b (l.map ohm1) = (mrg a b l).map ohm1 := by
  induction l with
  | nil => rfl
  | cons t l ih =>
    rw [List.map_cons, mrg_cons, mrg_cons, ih]
    show (if nw a b t.1 = nw a b t.2.1 then _ else _) = _
    split
    · rfl
    · rfl
theorem dropW_ohm1 (a b : Int) (l : List Tp) : dropW a b (l.map ohm1) = 1 := by
  induction l with
  | nil => rfl
  | cons t l ih =>
    show (if nw a b t.1 = nw a b t.2.1 then 1 else 1) * dropW a b (l.map ohm1) = 1
    rw [ih]; split <;> rfl
/-- The trees are those with a tape left out, and those with its ends made one, together. -/
theorem trees_split {l : List Tp} (hl : okL l) {i : Nat} (hi : i < l.length) (k : Nat) : cT (k + 1) l = cT (k + 1) (l.eraseIdx i) + cT k (mrg (tpA l i).1 (tpA l i).2.1 l) := by
  have hp := erase_perm hi
  have hok : okL (tpA l i :: l.eraseIdx i) := fun t ht => hl t (hp.mem_iff.2 ht)
  have hM : (mrg (tpA l i).1 (tpA l i).2.1 l).Perm (mrg (tpA l i).1 (tpA l i).2.1 (l.eraseIdx i)) := by
    have := mrg_perm (a := (tpA l i).1) (b := (tpA l i).2.1) hp
    rw [show tpA l i :: l.eraseIdx i = ((tpA l i).1, (tpA l i).2.1, (tpA l i).2.2) :: l.eraseIdx i from rfl, mrg_self (okL_head hok).2.2.1] at this
    exact this
  obtain ⟨t1, t2, t3, -, -⟩ := okL_head hok
  have hm := okL_tail hok
  generalize tpA l i = t at *
  generalize l.eraseIdx i = m at *
  unfold cT
  rw [sumL_perm (hp.map ohm1) (ohm1_ok hl) _ _ lab_R0, sumL_perm (hM.map ohm1) (ohm1_ok (mrg_ok t1 t2 hl)) _ _ lab_R0, List.map_cons, sumL_cons]
  show 1 * _ + (if at6 R0 t.1 = at6 R0 t.2.1 then 0 else _) = _
  rw [Int.one_mul, if_neg (by rw [at6_R0 t1, at6_R0 t2]; omega)]
  simp only [sm]
  congr 1
  rw [show ohm1 t = (t.1, t.2.1, 1) from rfl, sumL_mrg (P := tt) (a := t.1) (b := t.2.1) t1 t2 (P' := tt) (fun _ _ _ => rfl) (ohm1_ok hm) k _ R0 (by rw [mgL_len]; rfl) rfl (Mr.start (o := 1) t1 t2 t3), dropW_ohm1, Int.one_mul, mrg_ohm1]
theorem run_ohm1 : ∀ (l : List Tp) (s : Nat) (q : List Int × Bool), run (l.map ohm1) s q = run l s q := by
  intro l
  induction l with
  | nil => intro s q; rfl
  | cons t l ih => intro s q; show run (l.map ohm1) (s / 2) (stepR q (ohm1 t) _) = run l (s / 2) (stepR q t _); rw [ih]; rfl
theorem jk_ohm1 (l : List Tp) (s k : Nat) : jk (l.map ohm1) s k = jk l s k := by
  unfold jk
  rw [← List.map_take, run_ohm1]
theorem wgt_ohm1 : ∀ (l : List Tp) (s : Nat), wgt (l.map ohm1) s = 1 := by
  intro l
  induction l with
  | nil => intro s; rfl
  | cons t l ih => intro s; show (if s % 2 = 1 then 1 else 1) * wgt (l.map ohm1) (s / 2) = 1; rw [ih]; split <;> rfl
theorem cT_fl {l : List Tp} (hl : okL l) (hlen : l.length ≤ 10) (k : Nat) : sumW (fun s => if pcf 10 (s % 2 ^ l.length) = k then 1 else 0) (fl l l.length (2 ^ l.length)) = cT k l := by
  have h := sumW_all (P := tt) (k := k) (ohm1_ok hl) (by rw [List.length_map]; exact hlen)
  unfold cT
  rw [← h]
  have e1 : fl (l.map ohm1) (l.map ohm1).length (2 ^ (l.map ohm1).length) = fl l l.length (2 ^ l.length) := by
    rw [List.length_map]
    unfold fl
    congr 1
    funext s
    rw [jk_ohm1]
  rw [e1]
  refine sumW_congr (fun s hs => ?_)
  have hlt := fl_mem hs
  unfold addF
  rw [List.length_map, Nat.mod_eq_of_lt hlt, pcf_ten hlen hlt, wgt_ohm1]
  by_cases h : pcf l.length s = k
  · rw [if_pos h, if_pos ⟨h, rfl⟩]
  · rw [if_neg h, if_neg (fun h2 => h h2.1)]
theorem cT_bd {l : List Tp} (hl : okL l) (hlen : l.length ≤ 10) (k : Nat) : 0 ≤ cT k l ∧ cT k l ≤ 713342911662882601 := by
  have h1 := sumL_nonneg (P := tt) (ohm1_ok hl) k R0
  have h2 := sumL_le (P := tt) (ohm1_ok hl) k R0
  have h3 := pow61 (n := (l.map ohm1).length) (by rw [List.length_map]; exact hlen)
  unfold cT; omega
end Go.Proofs.Ytloogollfconpaa
