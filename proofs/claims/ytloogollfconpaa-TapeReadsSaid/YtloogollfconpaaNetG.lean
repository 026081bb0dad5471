/- Two small nets that have nodes in common: plain. No program is named. -/
import Derived.Test.YtloogollfconpaaNetP
set_option linter.unusedSimpArgs false
set_option linter.unusedVariables false
namespace Go.Proofs.Ytloogollfconpaa

/-- The labellings of a net of n nodes, where n is at most three. -/
def LL (n : Int) : List (List Int) :=
  if n = 1 then [R0] else if n = 2 then [R0, [0, 0, 2, 3, 4, 5]] else [R0, [0, 0, 2, 3, 4, 5], [0, 1, 0, 3, 4, 5], [0, 1, 1, 3, 4, 5], [0, 0, 0, 3, 4, 5]]
def N3 : List Int := [1, 2, 3]
def sg (c nx x : Int) : Int := if c ≤ x then x + nx - c else x
def sh (c nx : Int) (t : Tp) : Tp := (sg c nx t.1, sg c nx t.2.1, t.2.2)
def ends3 : List (Int × Int) := [(0, 1), (0, 2), (1, 2)]
/-- The labelling of both nets together. -/
def gl (c nx : Int) (r1 r2 : List Int) : List Int :=
  ends3.foldl (fun r e => if at6 r2 e.1 = at6 r2 e.2 then mgL r (sg c nx e.1, sg c nx e.2, 0) else r) ([0, 1, 2, 3, 4, 5].map fun v => if v < nx then at6 r1 v else v)
/-- A tape of a net of n nodes. -/
def inN (n : Int) (t : Tp) : Prop := 0 ≤ t.1 ∧ t.1 < t.2.1 ∧ t.2.1 < n
theorem in3 {n : Int} {t : Tp} (hn : n ∈ N3) (h : inN n t) : ((t.1, t.2.1) ∈ ends3 ∧ t.2.1 < n) := by
  obtain ⟨a, b, o⟩ := t
  obtain ⟨h1, h2, h3⟩ := h
  have : n = 1 ∨ n = 2 ∨ n = 3 := by simpa [N3] using hn
  dsimp only at *
  refine ⟨?_, h3⟩
  rcases (by omega : (a = 0 ∧ b = 1) ∨ (a = 0 ∧ b = 2) ∨ (a = 1 ∧ b = 2)) with ⟨rfl, rfl⟩ | ⟨rfl, rfl⟩ | ⟨rfl, rfl⟩ <;> decide
theorem LL_R0 {n : Int} : R0 ∈ LL n := by 
  unfold LL
  split
  · simp
  · split <;> simp
theorem mgL_ohm (r : List Int) (t : Tp) : mgL r t = mgL r (t.1, t.2.1, 0) := rfl
theorem LL_mgL {n : Int} {r : List Int} {t : Tp} (hn : n ∈ N3) (hr : r ∈ LL n) (ht : inN n t) : mgL r t ∈ LL n := by
  have key : ∀ n ∈ N3, ∀ r ∈ LL n, ∀ e ∈ ends3, e.2 < n → mgL r (e.1, e.2, 0) ∈ LL n := by decide +kernel
  have := in3 hn ht
  rw [mgL_ohm]; exact key n hn r hr _ this.1 this.2
theorem LL_full {n : Int} (hn : n ∈ N3) {l : List Tp} (hl : ∀ t ∈ l, inN n t) : ∀ {r : List Int}, r ∈ LL n → full l r ∈ LL n := by
  induction l with
  | nil => intro r h; exact h
  | cons t l ih => intro r h; exact ih (fun u hu => hl u (List.mem_cons_of_mem _ hu)) (LL_mgL hn h (hl t (List.mem_cons_self ..)))
/-! ### The finite facts -/
def C12 : List Int := [1, 2]
theorem gl_R0 {c n : Int} (hc : c ∈ C12) (hn : n ∈ N3) (h : c ≤ n) : gl c n R0 R0 = R0 := by
  have key : ∀ c ∈ C12, ∀ n ∈ N3, gl c n R0 R0 = R0 := by decide +kernel
  exact key c hc n hn
/-- A tape of the first net, before any of the second. -/
theorem gl_X {c n : Int} {r : List Int} {t : Tp} (hc : c ∈ C12) (hn : n ∈ N3) (hcn : c ≤ n) (hr : r ∈ LL n) (ht : inN n t) :
    (at6 (gl c n r R0) t.1 = at6 (gl c n r R0) t.2.1 ↔ at6 r t.1 = at6 r t.2.1) ∧ mgL (gl c n r R0) t = gl c n (mgL r t) R0 := by
  have key : ∀ c ∈ C12, ∀ n ∈ N3, c ≤ n → ∀ r ∈ LL n, ∀ e ∈ ends3, e.2 < n → ((at6 (gl c n r R0) e.1 = at6 (gl c n r R0) e.2 ↔ at6 r e.1 = at6 r e.2) ∧ mgL (gl c n r R0) (e.1, e.2, 0) = gl c n (mgL r (e.1, e.2, 0)) R0) := by decide +kernel
  have := in3 hn ht
  have h := key c hc n hn hcn r hr _ this.1 this.2
  exact h
/-- What the second net must have joined already. -/
def okY (c : Int) (r r2 : List Int) : Prop := c = 2 → at6 r 0 = at6 r 1 → at6 r2 0 = at6 r2 1
instance (c : Int) (r r2 : List Int) : Decidable (okY c r r2) := by unfold okY; infer_instance
theorem gl_Y {c n m : Int} {r r2 : List Int} {t : Tp} (hc : c ∈ C12) (hn : n ∈ N3) (hm : m ∈ N3) (hcn : c ≤ n) (hcm : c ≤ m) (hr : r ∈ LL n) (hr2 : r2 ∈ LL m) (hk : okY c r r2) (ht : inN m t) :
    (at6 (gl c n r r2) (sg c n t.1) = at6 (gl c n r r2) (sg c n t.2.1) ↔ at6 r2 t.1 = at6 r2 t.2.1) ∧ mgL (gl c n r r2) (sh c n t) = gl c n r (mgL r2 t) := by
  have key : ∀ c ∈ C12, ∀ n ∈ N3, ∀ m ∈ N3, c ≤ n → c ≤ m → ∀ r ∈ LL n, ∀ r2 ∈ LL m, okY c r r2 → ∀ e ∈ ends3, e.2 < m → ((at6 (gl c n r r2) (sg c n e.1) = at6 (gl c n r r2) (sg c n e.2) ↔ at6 r2 e.1 = at6 r2 e.2) ∧ mgL (gl c n r r2) (sg c n e.1, sg c n e.2, 0) = gl c n r (mgL r2 (e.1, e.2, 0))) := by decide +kernel
  have := in3 hm ht
  have h := key c hc n hn m hm hcn hcm r hr r2 hr2 hk _ this.1 this.2
  exact h
theorem okY_mgL {c n m : Int} {r r2 : List Int} {t : Tp} (hc : c ∈ C12) (hn : n ∈ N3) (hm : m ∈ N3) (hr : r ∈ LL n) (hr2 : r2 ∈ LL m) (hk : okY c r r2) (ht : inN m t) : okY c r (mgL r2 t) := by
  have key : ∀ m ∈ N3, ∀ r2 ∈ LL m, ∀ e ∈ ends3, e.2 < m → at6 r2 0 = at6 r2 1 → at6 (mgL r2 (e.1, e.2, 0)) 0 = at6 (mgL r2 (e.1, e.2, 0)) 1 := by decide +kernel
  have := in3 hm ht
  intro h1 h2
  exact key m hm r2 hr2 _ this.1 this.2 (hk h1 h2)
/-! ### Sums of both nets -/
theorem sumTo_one {h : Nat → Int} {p : Nat} : ∀ {n : Nat}, p < n → (∀ i, i < n → i ≠ p → h i = 0) → sumTo h n = h p := by
  intro n
  induction n with
  | zero => intro h1; omega
  | succ n ih =>
    intro h1 h2
    show sumTo h n + h n = h p
    by_cases hp : p = n
    · subst hp
      rw [sumTo_congr (h' := fun _ => 0) (fun s hs => h2 s (by omega) (by omega)), sumTo_zero, Int.zero_add]
    · rw [ih (by omega) (fun i hi => h2 i (by omega)), h2 n (by omega) (fun h => hp h.symm), Int.add_zero]
theorem sumTo_shift (f : Nat → Int) : ∀ n, sumTo (fun i => match i with | 0 => 0 | j + 1 => f j) (n + 1) = sumTo f n := by
  intro n
  induction n with
  | zero => rfl
  | succ n ih => show sumTo _ (n + 1) + f n = sumTo f n + f n; rw [ih]
theorem sumTo_first {h : Nat → Int} (n : Nat) (h0 : ∀ i, i ≠ 0 → h i = 0) : sumTo h (n + 1) = h 0 := sumTo_one (by omega) (fun i _ hi => h0 i hi)
/-- The sum over the second net. -/
theorem sumL_Y {P Q : List Int → Bool} {c n m : Int} {r : List Int} (hc : c ∈ C12) (hn : n ∈ N3) (hm : m ∈ N3) (hcn : c ≤ n) (hcm : c ≤ m) (hr : r ∈ LL n)
    (hPQ : ∀ r2 ∈ LL m, okY c r r2 → P (gl c n r r2) = Q r2) {l : List Tp} (hl : ∀ t ∈ l, inN m t) : ∀ (k : Nat) (r2 : List Int), r2 ∈ LL m → okY c r r2 → sumL P k (l.map (sh c n)) (gl c n r r2) = sumL Q k l r2 := by
  induction l with
  | nil => intro k r2 h1 h2; show (if k = 0 ∧ P _ = true then (1 : Int) else 0) = if k = 0 ∧ Q r2 = true then 1 else 0; rw [hPQ r2 h1 h2]
  | cons t l ih =>
    intro k r2 h1 h2
    have ht := hl t (List.mem_cons_self ..)
    have hl' : ∀ t ∈ l, inN m t := fun u hu => hl u (List.mem_cons_of_mem _ hu)
    obtain ⟨e1, e2⟩ := gl_Y hc hn hm hcn hcm hr h1 h2 ht
    rw [List.map_cons, sumL_cons, sumL_cons, ih hl' k r2 h1 h2]
    show t.2.2 * _ + (if at6 (gl c n r r2) (sg c n t.1) = at6 (gl c n r r2) (sg c n t.2.1) then 0 else _) = _
    by_cases he : at6 r2 t.1 = at6 r2 t.2.1
    · rw [if_pos he, if_pos (e1.2 he)]
    · rw [if_neg he, if_neg (fun h => he (e1.1 h)), e2]
      cases k with
      | zero => rfl
      | succ k => simp only [sm]; rw [ih hl' k _ (LL_mgL hm h1 ht) (okY_mgL hc hn hm hr h1 h2 ht)]
/-- The sum over the first net, where the rest depends on one thing alone. -/
theorem sumL_X {P J : List Int → Bool} {A B : Nat → Int} {c n : Int} {l' : List Tp} (hc : c ∈ C12) (hn : n ∈ N3) (hcn : c ≤ n)
    (hQ : ∀ r ∈ LL n, ∀ j, sumL P j l' (gl c n r R0) = if J r = true then A j else B j) {l : List Tp} (hl : ∀ t ∈ l, inN n t) : ∀ (k : Nat) (r : List Int), r ∈ LL n →
    sumL P k (l ++ l') (gl c n r R0) = sumTo (fun i => sumL J i l r * A (k - i) + sumL (fun r => !J r) i l r * B (k - i)) (k + 1) := by
  induction l with
  | nil =>
    intro k r hr
    rw [List.nil_append, hQ r hr k, sumTo_first]
    · show _ = (if 0 = 0 ∧ J r = true then (1 : Int) else 0) * A (k - 0) + (if 0 = 0 ∧ (!J r) = true then 1 else 0) * B (k - 0)
      by_cases hJ : J r = true
      · simp [hJ]
      · simp [hJ]
    · intro i hi
      show (if i = 0 ∧ J r = true then (1 : Int) else 0) * A (k - i) + (if i = 0 ∧ (!J r) = true then 1 else 0) * B (k - i) = 0
      simp [hi]
  | cons t l ih =>
    intro k r hr
    have ht := hl t (List.mem_cons_self ..)
    have hl' : ∀ t ∈ l, inN n t := fun u hu => hl u (List.mem_cons_of_mem _ hu)
    obtain ⟨e1, e2⟩ := gl_X hc hn hcn hr ht
    rw [List.cons_append, sumL_cons, ih hl' k r hr]
    have hcong : ∀ i, sumL J i (t :: l) r * A (k - i) + sumL (fun r => !J r) i (t :: l) r * B (k - i) =
        t.2.2 * (sumL J i l r * A (k - i) + sumL (fun r => !J r) i l r * B (k - i)) + (if at6 r t.1 = at6 r t.2.1 then 0 else (sm J i l (mgL r t) * A (k - i) + sm (fun r => !J r) i l (mgL r t) * B (k - i))) := by
      intro i
      rw [sumL_cons, sumL_cons]
      split
      · simp [Int.mul_add, Int.mul_assoc]
      · simp only [Int.add_mul, Int.mul_add, Int.mul_assoc]; omega
    rw [sumTo_congr (fun i _ => hcong i), sumTo_add (fun i => t.2.2 * (sumL J i l r * A (k - i) + sumL (fun r => !J r) i l r * B (k - i))) (fun i => if at6 r t.1 = at6 r t.2.1 then 0 else (sm J i l (mgL r t) * A (k - i) + sm (fun r => !J r) i l (mgL r t) * B (k - i))),
      sumTo_mul t.2.2 (fun i => sumL J i l r * A (k - i) + sumL (fun r => !J r) i l r * B (k - i))]
    congr 1
    by_cases he : at6 r t.1 = at6 r t.2.1
    · rw [if_pos (e1.2 he), sumTo_congr (h' := fun _ => 0) (fun i _ => if_pos he), sumTo_zero]
    · rw [if_neg (fun h => he (e1.1 h)), e2, sumTo_congr (h' := fun i => match i with | 0 => 0 | j + 1 => sumL J j l (mgL r t) * A (k - (j + 1)) + sumL (fun r => !J r) j l (mgL r t) * B (k - (j + 1))) (fun i _ => by
        rw [if_neg he]
        cases i with
        | zero => simp [sm]
        | succ j => simp only [sm]), sumTo_shift (fun j => sumL J j l (mgL r t) * A (k - (j + 1)) + sumL (fun r => !J r) j l (mgL r t) * B (k - (j + 1)))]
      cases k with
      | zero => rfl
      | succ k =>
        simp only [sm]
        rw [ih hl' k _ (LL_mgL hn hr ht)]
        exact sumTo_congr (fun i _ => by rw [Nat.add_sub_add_right])
end Go.Proofs.Ytloogollfconpaa
