/- Nets of tapes: plain. No program is named. -/
import Derived.WalkKit
set_option linter.unusedSimpArgs false
set_option linter.unusedVariables false
namespace Go.Proofs.YthpbkbbmedpecaaDoor

abbrev Tp := Int × Int × Int
/-- The label of a node. -/
def at6 (r : List Int) (x : Int) : Int := r[x.toNat]?.getD 0
def mg (p q x : Int) : Int := if x = max p q then min p q else x
theorem mg_iff (p q x y : Int) : mg p q x = mg p q y ↔ (x = y ∨ ((x = p ∨ x = q) ∧ (y = p ∨ y = q))) := by
  unfold mg
  split <;> split <;> omega
def mgL (r : List Int) (t : Tp) : List Int := r.map (mg (at6 r t.1) (at6 r t.2.1))
theorem at6_mgL {r : List Int} {t : Tp} {x : Int} (hr : r.length = 6) (h0 : 0 ≤ x) (h1 : x < 6) : at6 (mgL r t) x = mg (at6 r t.1) (at6 r t.2.1) (at6 r x) := by
  unfold at6 mgL
  rw [List.getElem?_map, List.getElem?_eq_getElem (by omega)]; rfl
theorem mgL_len (r : List Int) (t : Tp) : (mgL r t).length = r.length := List.length_map ..
def nod (x : Int) : Prop := 0 ≤ x ∧ x < 6
def okT (t : Tp) : Prop := nod t.1 ∧ nod t.2.1 ∧ t.1 < t.2.1 ∧ 1 ≤ t.2.2 ∧ t.2.2 ≤ 60
/-- Two labellings tell the same nodes from each other. -/
def KEq (r r' : List Int) : Prop := ∀ x y, nod x → nod y → (at6 r x = at6 r y ↔ at6 r' x = at6 r' y)
theorem KEq.refl (r : List Int) : KEq r r := fun _ _ _ _ => Iff.rfl
theorem KEq.symm {r r' : List Int} (h : KEq r r') : KEq r' r := fun x y hx hy => (h x y hx hy).symm
theorem KEq.trans {r r' r'' : List Int} (h : KEq r r') (h' : KEq r' r'') : KEq r r'' := fun x y hx hy => (h x y hx hy).trans (h' x y hx hy)
theorem mgL_iff {r : List Int} {t : Tp} (hr : r.length = 6) {x y : Int} (hx : nod x) (hy : nod y) :
    at6 (mgL r t) x = at6 (mgL r t) y ↔ (at6 r x = at6 r y ∨ ((at6 r x = at6 r t.1 ∨ at6 r x = at6 r t.2.1) ∧ (at6 r y = at6 r t.1 ∨ at6 r y = at6 r t.2.1))) := by
  rw [at6_mgL hr hx.1 hx.2, at6_mgL hr hy.1 hy.2, mg_iff]
theorem KEq.mgL {r r' : List Int} {t : Tp} (hr : r.length = 6) (hr' : r'.length = 6) (h : KEq r r') (h1 : nod t.1) (h2 : nod t.2.1) : KEq (mgL r t) (mgL r' t) := by
  intro x y hx hy
  rw [mgL_iff hr hx hy, mgL_iff hr' hx hy, h x y hx hy, h x _ hx h1, h x _ hx h2, h y _ hy h1, h y _ hy h2]
def R0 : List Int := [0, 1, 2, 3, 4, 5]
theorem at6_R0 {x : Int} (h : nod x) : at6 R0 x = x := by
  obtain ⟨h0, h1⟩ := h
  have : x = 0 ∨ x = 1 ∨ x = 2 ∨ x = 3 ∨ x = 4 ∨ x = 5 := by omega
  rcases this with rfl | rfl | rfl | rfl | rfl | rfl <;> rfl

/-! ### Sets of tapes as bits -/
def bt (s i : Nat) : Bool := s / 2 ^ i % 2 == 1
theorem bt_zero (s : Nat) : bt s 0 = (s % 2 == 1) := by simp [bt]
theorem bt_succ (s i : Nat) : bt s (i + 1) = bt (s / 2) i := by
  unfold bt
  rw [Nat.pow_succ, Nat.mul_comm, ← Nat.div_div_eq_div_mul]
/-- One tape more. -/
def stepR (q : List Int × Bool) (t : Tp) (on : Bool) : List Int × Bool := if on then (mgL q.1 t, q.2 && !(at6 q.1 t.1 == at6 q.1 t.2.1)) else q
def run : List Tp → Nat → List Int × Bool → List Int × Bool
  | [], _, q => q
  | t :: l, s, q => run l (s / 2) (stepR q t (s % 2 == 1))
theorem run_snoc (l : List Tp) (t : Tp) : ∀ (s : Nat) (q : List Int × Bool), run (l ++ [t]) s q = stepR (run l s q) t (bt s l.length) := by
  induction l with
  | nil => intro s q; show stepR q t _ = stepR q t _; rw [List.length_nil, bt_zero]
  | cons u l ih => intro s q; show run (l ++ [t]) (s / 2) _ = stepR (run l (s / 2) _) t _; rw [ih, List.length_cons, bt_succ]
def jk (l : List Tp) (s k : Nat) : List Int × Bool := run (l.take k) s (R0, true)
def tpA (l : List Tp) (k : Nat) : Tp := l[k]?.getD (0, 0, 0)
theorem take_snoc {l : List Tp} {k : Nat} (h : k < l.length) : l.take (k + 1) = l.take k ++ [tpA l k] := by
  rw [List.take_succ_eq_append_getElem h]
  unfold tpA
  rw [List.getElem?_eq_getElem h]; rfl
theorem jk_succ {l : List Tp} {s k : Nat} (h : k < l.length) : jk l s (k + 1) = stepR (jk l s k) (tpA l k) (bt s k) := by
  unfold jk
  rw [take_snoc h, run_snoc, List.length_take, Nat.min_eq_left (by omega)]
theorem jk_all (l : List Tp) (s : Nat) : jk l s l.length = run l s (R0, true) := by unfold jk; rw [List.take_length]
theorem stepR_len (q : List Int × Bool) (t : Tp) (on : Bool) : (stepR q t on).1.length = q.1.length := by
  unfold stepR; split
  · exact mgL_len _ _
  · rfl
theorem run_len (l : List Tp) : ∀ (s : Nat) (q : List Int × Bool), (run l s q).1.length = q.1.length := by
  induction l with
  | nil => intro s q; rfl
  | cons t l ih => intro s q; show (run l (s / 2) _).1.length = _; rw [ih, stepR_len]
theorem run_false (l : List Tp) : ∀ (s : Nat) (r : List Int), (run l s (r, false)).2 = false := by
  induction l with
  | nil => intro s r; rfl
  | cons t l ih =>
    intro s r
    show (run l (s / 2) (stepR (r, false) t _)).2 = false
    unfold stepR
    split <;> exact ih _ _
def pcf : Nat → Nat → Nat
  | 0, _ => 0
  | n + 1, s => s % 2 + pcf n (s / 2)
/-- The product of the ohms of the tapes of a set. -/
def wgt : List Tp → Nat → Int
  | [], _ => 1
  | t :: l, s => (if s % 2 = 1 then t.2.2 else 1) * wgt l (s / 2)
theorem wgt_snoc (l : List Tp) (t : Tp) : ∀ s : Nat, wgt (l ++ [t]) s = wgt l s * (if bt s l.length = true then t.2.2 else 1) := by
  induction l with
  | nil => intro s; show (if s % 2 = 1 then t.2.2 else 1) * 1 = 1 * _; rw [List.length_nil, bt_zero]; simp
  | cons u l ih => intro s; show _ * wgt (l ++ [t]) (s / 2) = _ * wgt l (s / 2) * _; rw [ih, List.length_cons, bt_succ, Int.mul_assoc]
def sumTo (h : Nat → Int) : Nat → Int
  | 0 => 0
  | k + 1 => sumTo h k + h k
theorem sumTo_congr {h h' : Nat → Int} : ∀ {n : Nat}, (∀ s, s < n → h s = h' s) → sumTo h n = sumTo h' n := by
  intro n
  induction n with
  | zero => intro _; rfl
  | succ n ih => intro hh; show _ + _ = _ + _; rw [ih (fun s hs => hh s (by omega)), hh n (by omega)]
theorem sumTo_double (h : Nat → Int) : ∀ n, sumTo h (2 * n) = sumTo (fun s => h (2 * s)) n + sumTo (fun s => h (2 * s + 1)) n := by
  intro n
  induction n with
  | zero => rfl
  | succ n ih =>
    show sumTo h (2 * n) + h (2 * n) + h (2 * n + 1) = sumTo _ n + h (2 * n) + (sumTo _ n + h (2 * n + 1))
    rw [ih]; omega
theorem sumTo_mul (c : Int) (h : Nat → Int) : ∀ n, sumTo (fun s => c * h s) n = c * sumTo h n := by
  intro n
  induction n with
  | zero => simp [sumTo]
  | succ n ih => show _ + _ = c * (_ + _); rw [ih, Int.mul_add]
theorem sumTo_add (h h' : Nat → Int) : ∀ n, sumTo (fun s => h s + h' s) n = sumTo h n + sumTo h' n := by
  intro n
  induction n with
  | zero => rfl
  | succ n ih => show _ + (_ + _) = _ + _ + (_ + _); rw [ih]; omega
theorem sumTo_zero : ∀ n, sumTo (fun _ => 0) n = 0 := by
  intro n
  induction n with
  | zero => rfl
  | succ n ih => show _ + 0 = (0 : Int); rw [ih]; rfl
theorem sumTo_nonneg {h : Nat → Int} (hh : ∀ s, 0 ≤ h s) : ∀ n, 0 ≤ sumTo h n := by
  intro n
  induction n with
  | zero => exact Int.le_refl _
  | succ n ih => show 0 ≤ _ + _; have := hh n; omega
theorem sumTo_mono {h : Nat → Int} (hh : ∀ s, 0 ≤ h s) {k n : Nat} (hk : k ≤ n) : sumTo h k ≤ sumTo h n := by
  induction n with
  | zero => rw [show k = 0 by omega]; exact Int.le_refl _
  | succ n ih =>
    by_cases e : k = n + 1
    · rw [e]; exact Int.le_refl _
    · have := ih (by omega); have := hh n; show _ ≤ _ + _; omega
/-- What a set of tapes adds: the ohms of the tapes left out, if it has no circle, just k tapes, and its labels please P. -/
def term (P : List Int → Bool) (k : Nat) (l : List Tp) (q : List Int × Bool) (s : Nat) : Int :=
  if (run l s q).2 = true ∧ pcf l.length s = k ∧ P (run l s q).1 = true then wgt l (2 ^ l.length - 1 - s) else 0
/-- The same sum, a tape at a time. -/
def sumL (P : List Int → Bool) : Nat → List Tp → List Int → Int
  | k, [], r => if k = 0 ∧ P r = true then 1 else 0
  | k, t :: l, r => t.2.2 * sumL P k l r + (if at6 r t.1 = at6 r t.2.1 then 0 else match k with | 0 => 0 | k + 1 => sumL P k l (mgL r t))
theorem sum_term (P : List Int → Bool) : ∀ (l : List Tp) (k : Nat) (r : List Int), sumTo (term P k l (r, true)) (2 ^ l.length) = sumL P k l r := by
  intro l
  induction l with
  | nil =>
    intro k r
    show 0 + term P k [] (r, true) 0 = _
    unfold term sumL
    show 0 + (if true = true ∧ 0 = k ∧ P r = true then (1 : Int) else 0) = _
    by_cases h : k = 0 ∧ P r = true
    · rw [if_pos h, if_pos ⟨rfl, h.1.symm, h.2⟩]; rfl
    · rw [if_neg h, if_neg (fun hh => h ⟨hh.2.1.symm, hh.2.2⟩)]; rfl
  | cons t l ih =>
    intro k r
    rw [List.length_cons, Nat.pow_succ, Nat.mul_comm, sumTo_double]
    have e0 : ∀ s, s < 2 ^ l.length → term P k (t :: l) (r, true) (2 * s) = t.2.2 * term P k l (r, true) s := by
      intro s hs
      unfold term
      have h1 : run (t :: l) (2 * s) (r, true) = run l s (r, true) := by
        show run l (2 * s / 2) (stepR _ _ _) = _
        rw [show 2 * s / 2 = s by omega, show (2 * s % 2 == 1) = false by simp]; rfl
      have h2 : pcf (t :: l).length (2 * s) = pcf l.length s := by
        show 2 * s % 2 + pcf l.length (2 * s / 2) = _
        rw [show 2 * s / 2 = s by omega, show 2 * s % 2 = 0 by omega, Nat.zero_add]
      have h3 : wgt (t :: l) (2 ^ (t :: l).length - 1 - 2 * s) = t.2.2 * wgt l (2 ^ l.length - 1 - s) := by
        rw [List.length_cons, Nat.pow_succ]
        generalize 2 ^ l.length = N at *
        show (if (N * 2 - 1 - 2 * s) % 2 = 1 then t.2.2 else 1) * wgt l ((N * 2 - 1 - 2 * s) / 2) = _
        rw [if_pos (by omega), show (N * 2 - 1 - 2 * s) / 2 = N - 1 - s by omega]
      rw [h1, h2, h3]
      split
      · rfl
      · rw [Int.mul_zero]
    have e1 : ∀ s, s < 2 ^ l.length → term P k (t :: l) (r, true) (2 * s + 1) = if at6 r t.1 = at6 r t.2.1 then 0 else (match k with | 0 => 0 | k + 1 => term P k l (mgL r t, true) s) := by
      intro s hs
      unfold term
      have h1 : run (t :: l) (2 * s + 1) (r, true) = run l s (mgL r t, !(at6 r t.1 == at6 r t.2.1)) := by
        show run l ((2 * s + 1) / 2) (stepR _ _ _) = _
        rw [show (2 * s + 1) / 2 = s by omega, show ((2 * s + 1) % 2 == 1) = true by simp]; rfl
      have h2 : pcf (t :: l).length (2 * s + 1) = pcf l.length s + 1 := by
        show (2 * s + 1) % 2 + pcf l.length ((2 * s + 1) / 2) = _
        rw [show (2 * s + 1) / 2 = s by omega, show (2 * s + 1) % 2 = 1 by omega, Nat.add_comm]
      have h3 : wgt (t :: l) (2 ^ (t :: l).length - 1 - (2 * s + 1)) = wgt l (2 ^ l.length - 1 - s) := by
        rw [List.length_cons, Nat.pow_succ]
        generalize 2 ^ l.length = N at *
        show (if (N * 2 - 1 - (2 * s + 1)) % 2 = 1 then t.2.2 else 1) * wgt l ((N * 2 - 1 - (2 * s + 1)) / 2) = _
        rw [if_neg (by omega), show (N * 2 - 1 - (2 * s + 1)) / 2 = N - 1 - s by omega, Int.one_mul]
      rw [h1, h2, h3]
      by_cases hab : at6 r t.1 = at6 r t.2.1
      · rw [if_pos hab, show (!(at6 r t.1 == at6 r t.2.1)) = false by simp [hab], run_false]
        simp
      · rw [if_neg hab, show (!(at6 r t.1 == at6 r t.2.1)) = true by simp [hab]]
        cases k with
        | zero => rw [if_neg (by omega)]
        | succ k => simp only [Nat.add_right_cancel_iff]
    rw [sumTo_congr e0, sumTo_congr e1, sumTo_mul, ih]
    show _ = t.2.2 * sumL P k l r + _
    congr 1
    by_cases hab : at6 r t.1 = at6 r t.2.1
    · rw [if_pos hab]
      simp only [if_pos hab]
      exact sumTo_zero _
    · rw [if_neg hab]
      simp only [if_neg hab]
      cases k with
      | zero => exact sumTo_zero _
      | succ k => exact ih k (mgL r t)
/-! ### Bounds -/
def okL (l : List Tp) : Prop := ∀ t, t ∈ l → okT t
theorem wgt_bd {l : List Tp} (h : okL l) : ∀ s, 1 ≤ wgt l s ∧ wgt l s ≤ 60 ^ l.length := by
  induction l with
  | nil => intro s; exact ⟨Int.le_refl _, Int.le_refl _⟩
  | cons t l ih =>
    intro s
    have h1 := ih (fun u hu => h u (List.mem_cons_of_mem _ hu)) (s / 2)
    have h2 := h t (List.mem_cons_self ..)
    obtain ⟨-, -, -, h3, h4⟩ := h2
    rw [List.length_cons, Int.pow_succ]
    show 1 ≤ (if s % 2 = 1 then t.2.2 else 1) * wgt l (s / 2) ∧ (if s % 2 = 1 then t.2.2 else 1) * wgt l (s / 2) ≤ _
    generalize hc : (if s % 2 = 1 then t.2.2 else 1) = c
    have hc1 : 1 ≤ c ∧ c ≤ 60 := by rw [← hc]; split <;> omega
    generalize wgt l (s / 2) = x at *
    generalize (60 : Int) ^ l.length = N at *
    constructor
    · have : 1 * 1 ≤ c * x := Int.mul_le_mul hc1.1 h1.1 (by omega) (by omega)
      omega
    · rw [Int.mul_comm N 60]
      exact Int.mul_le_mul hc1.2 h1.2 (by omega) (by omega)
theorem sumL_nonneg {P : List Int → Bool} {l : List Tp} (h : okL l) : ∀ k r, 0 ≤ sumL P k l r := by
  induction l with
  | nil => intro k r; show 0 ≤ (if _ then (1 : Int) else 0); split <;> omega
  | cons t l ih =>
    intro k r
    have ih' := ih (fun u hu => h u (List.mem_cons_of_mem _ hu))
    obtain ⟨-, -, -, h3, h4⟩ := h t (List.mem_cons_self ..)
    have h5 : 0 ≤ t.2.2 * sumL P k l r := Int.mul_nonneg (by omega) (ih' _ _)
    show 0 ≤ t.2.2 * sumL P k l r + _
    split
    · omega
    · cases k with
      | zero => simpa using h5
      | succ k => have := ih' k (mgL r t); show 0 ≤ _ + sumL P k l (mgL r t); omega
theorem sumL_le {P : List Int → Bool} {l : List Tp} (h : okL l) : ∀ k r, sumL P k l r ≤ 61 ^ l.length := by
  induction l with
  | nil => intro k r; show (if _ then (1 : Int) else 0) ≤ 1; split <;> omega
  | cons t l ih =>
    intro k r
    have hl : okL l := fun u hu => h u (List.mem_cons_of_mem _ hu)
    have ih' := ih hl
    obtain ⟨-, -, -, h3, h4⟩ := h t (List.mem_cons_self ..)
    rw [List.length_cons, Int.pow_succ]
    have h6 := sumL_nonneg (P := P) hl k r
    have h5 : t.2.2 * sumL P k l r ≤ 60 * 61 ^ l.length := Int.mul_le_mul h4 (ih' _ _) h6 (by omega)
    have h7 : 0 ≤ (61 : Int) ^ l.length := by have := ih' k r; omega
    show t.2.2 * sumL P k l r + _ ≤ _
    split
    · omega
    · cases k with
      | zero => show _ + 0 ≤ _; omega
      | succ k => have := ih' k (mgL r t); show _ + sumL P k l (mgL r t) ≤ _; omega
theorem term_nonneg {P : List Int → Bool} {k : Nat} {l : List Tp} {q : List Int × Bool} (h : okL l) (s : Nat) : 0 ≤ term P k l q s := by
  unfold term
  split
  · have := (wgt_bd h (2 ^ l.length - 1 - s)).1; omega
  · omega
theorem pow61 {n : Nat} (h : n ≤ 10) : (61 : Int) ^ n ≤ 713342911662882601 := by
  have : n = 0 ∨ n = 1 ∨ n = 2 ∨ n = 3 ∨ n = 4 ∨ n = 5 ∨ n = 6 ∨ n = 7 ∨ n = 8 ∨ n = 9 ∨ n = 10 := by omega
  rcases this with rfl | rfl | rfl | rfl | rfl | rfl | rfl | rfl | rfl | rfl | rfl <;> decide
/-- Partial sums stay small. -/
theorem part_bd {P : List Int → Bool} {k : Nat} {l : List Tp} (h : okL l) (hl : l.length ≤ 10) {r : List Int} {j : Nat} (hj : j ≤ 2 ^ l.length) :
    0 ≤ sumTo (term P k l (r, true)) j ∧ sumTo (term P k l (r, true)) j ≤ 713342911662882601 := by
  refine ⟨sumTo_nonneg (term_nonneg h) _, ?_⟩
  have h1 := sumTo_mono (term_nonneg (P := P) (k := k) (q := (r, true)) h) hj
  rw [sum_term] at h1
  have h2 := sumL_le (P := P) h k r
  have h3 := pow61 hl
  omega
end Go.Proofs.YthpbkbbmedpecaaDoor
