/- Plans: the longest chain by both roads; what chains have. No program is named. -/
import Derived.Test.YtgijekhlbkfanaaJobL
set_option linter.unusedSimpArgs false
set_option linter.unusedVariables false
namespace Go.Proofs.Ytgijekhlbkfanaa

theorem ord_ind {l : List Tk} (h : okP l) {P : Nat → Prop} (step : ∀ i, i < l.length → (∀ a ∈ afs l i, P a) → P i) : ∀ i, i < l.length → P i := by
  have key : ∀ (n : Nat) (pre post : List Nat), pre.length = n → ord l = pre ++ post → ∀ i ∈ pre, P i := by
    intro n
    induction n with
    | zero => intro pre post hn _ i hi; rw [List.eq_nil_of_length_eq_zero hn] at hi; cases hi
    | succ n ih =>
      intro pre post hn e
      rcases List.eq_nil_or_concat pre with rfl | ⟨pre, j, rfl⟩
      · simp at hn
      · rw [List.concat_eq_append] at e hn ⊢
        have e' : ord l = pre ++ j :: post := by rw [e]; simp
        have hp := ih pre (j :: post) (by simpa using hn) e'
        intro i hi
        rcases List.mem_append.1 hi with hi | hi
        · exact hp i hi
        · rw [List.mem_singleton.1 hi]
          exact step j (ord_lt (by rw [e']; simp)) fun a ha => hp a ((topo_ord l pre j post e').2 a ha)
  exact fun i hi => key _ (ord l) [] rfl (by simp) i (ord_all h hi)
theorem ord_ind_up {l : List Tk} (h : okP l) {P : Nat → Prop} (step : ∀ i, i < l.length → (∀ j, j < l.length → i ∈ afs l j → P j) → P i) : ∀ i, i < l.length → P i := by
  have key : ∀ (post pre : List Nat), ord l = pre ++ post → ∀ i ∈ post, P i := by
    intro post
    induction post with
    | nil => intro pre _ i hi; cases hi
    | cons i post ih =>
      intro pre e
      have hk := ih (pre ++ [i]) (by rw [e]; simp)
      have hil : i < l.length := ord_lt (by rw [e]; simp)
      have hT' : topo l (pre ++ (i :: post)) := e ▸ topo_ord l
      intro j hj
      rcases List.mem_cons.1 hj with rfl | hj
      · refine step j hil fun q hq hjq => ?_
        have h3 : q ∈ j :: post := topo_up hT' (e ▸ ord_all h hq) (List.mem_cons_self ..) hjq
        rcases List.mem_cons.1 h3 with rfl | h3
        · exact absurd hjq (afs_self h hil)
        · exact hk q h3
      · exact hk j hj
  exact fun i hi => key (ord l) [] (by simp) i (ord_all h hi)

/-! ### earliest and latest days beside each other -/
theorem ear_le {l : List Tk} (h : okP l) {i a : Nat} (hi : i < l.length) (ha : a ∈ afs l i) : gI (ear l) a + dyA l a ≤ gI (ear l) i := by
  rw [(ear_is h).at_ i hi]; exact (mxs_spec (l := l) (o := ear l) (as := afs l i) (m := 0)).2.1 a ha
theorem ear_some {l : List Tk} (h : okP l) {i : Nat} (hi : i < l.length) : gI (ear l) i = 0 ∨ ∃ a ∈ afs l i, gI (ear l) i = gI (ear l) a + dyA l a := by
  rw [(ear_is h).at_ i hi]; exact (mxs_spec (l := l) (o := ear l) (as := afs l i) (m := 0)).2.2
theorem ear_pos {l : List Tk} (h : okP l) (i : Nat) : 0 ≤ gI (ear l) i := (ear_bd h i).1
theorem ear_end {l : List Tk} {i : Nat} (hi : i < l.length) : gI (ear l) i + dyA l i ≤ lenV l := (ends_spec l (ear l)).2.1 i hi
theorem ear_lat {l : List Tk} (h : okP l) : ∀ i, i < l.length → gI (ear l) i ≤ gI (latP l) i :=
  ord_ind_up h fun i hi ih => by
    have hL := latP_is h
    rcases hL.some i hi with h1 | ⟨j, hj, hij, h1⟩
    · have := ear_end hi; omega
    · have h2 := ih j hj hij
      have h3 := ear_le h hj hij
      omega
/-- What comes from a task on. -/
def tlV (l : List Tk) (i : Nat) : Int := lenV l - gI (latP l) i
theorem tlV_pos {l : List Tk} (h : okP l) {i : Nat} (hi : i < l.length) : dyA l i ≤ tlV l i ∧ 1 ≤ tlV l i := by
  have h1 := (latP_is h).le i hi
  have h2 := dy_bd h hi
  unfold tlV; omega
/-- The first task of the plan that lies in no slack. -/
theorem lat_zero {l : List Tk} (h : okP l) : ∃ i, i < l.length ∧ gI (latP l) i = 0 := by
  have hL := latP_is h
  have key : ∀ i, i < l.length → gI (latP l) i = gI (ear l) i → ∃ i, i < l.length ∧ gI (latP l) i = 0 := by
    refine ord_ind h fun i hi ih he => ?_
    rcases ear_some h hi with h1 | ⟨a, ha, h1⟩
    · exact ⟨i, hi, by omega⟩
    · have hal := afs_lt h hi ha
      have h2 := hL.lt a hal i hi ha
      have h3 := ear_lat h a hal
      exact ih a ha (by omega)
  obtain ⟨_, _, h3⟩ := ends_spec l (ear l)
  rcases h3 with h3 | ⟨i, hi, h3⟩
  · exfalso
    have h4 := (dy_bd h h.pos).1
    have h5 := ear_end (l := l) h.pos
    have h6 := ear_pos h 0
    have : lenV l = 0 := h3
    omega
  · refine key i hi ?_
    have h4 := hL.le i hi
    have h5 := ear_lat h i hi
    have : lenV l = gI (ear l) i + dyA l i := h3
    omega

/-! ### the first of the greatest -/
def rbM (T : Nat → Int) : Option Nat → Int
  | none => 0
  | some j => T j
def rbN (T : Nat → Int) (p : Nat → Bool) : Nat → Option Nat
  | 0 => none
  | k + 1 => if p k && decide (rbM T (rbN T p k) < T k) then some k else rbN T p k
theorem rbN_spec (T : Nat → Int) (p : Nat → Bool) : ∀ k, (rbN T p k = none → ∀ j, j < k → p j = true → T j ≤ 0) ∧ ∀ q, rbN T p k = some q → (q < k ∧ p q = true ∧ 0 < T q) ∧ (∀ j, j < k → p j = true → T j ≤ T q) ∧ ∀ j, j < q → p j = true → T j < T q
  | 0 => ⟨fun _ j hj => by omega, fun q hq => (by cases hq)⟩
  | k + 1 => by
    obtain ⟨h1, h2⟩ := rbN_spec T p k
    rw [rbN]
    split
    · rename_i hc
      simp only [Bool.and_eq_true, decide_eq_true_eq] at hc
      have hp := hc.1
      have hl := hc.2
      clear hc
      refine ⟨fun h => (by cases h), fun q hq => ?_⟩
      injection hq with hq
      subst hq
      cases hr : rbN T p k with
      | none =>
        have h3 := h1 hr
        rw [hr] at hl
        have hl' : 0 < T k := hl
        refine ⟨⟨by omega, hp, hl'⟩, fun j hj hpj => ?_, fun j hj hpj => ?_⟩
        · by_cases e : j = k
          · subst e; omega
          · have := h3 j (by omega) hpj; omega
        · have := h3 j hj hpj; omega
      | some q =>
        obtain ⟨⟨g1, g2, g3⟩, g4, g5⟩ := h2 q hr
        rw [hr] at hl
        have hl' : T q < T k := hl
        refine ⟨⟨by omega, hp, by omega⟩, fun j hj hpj => ?_, fun j hj hpj => ?_⟩
        · by_cases e : j = k
          · subst e; omega
          · have := g4 j (by omega) hpj; omega
        · have := g4 j hj hpj; omega
    · rename_i hc
      simp only [Bool.and_eq_true, decide_eq_true_eq, not_and] at hc
      refine ⟨fun h j hj hpj => ?_, fun q hq => ?_⟩
      · by_cases e : j = k
        · subst e; have := hc hpj; rw [h] at this; exact Int.not_lt.1 this
        · exact h1 h j (by omega) hpj
      · obtain ⟨⟨g1, g2, g3⟩, g4, g5⟩ := h2 q hq
        refine ⟨⟨by omega, g2, g3⟩, fun j hj hpj => ?_, g5⟩
        by_cases e : j = k
        · subst e; have := hc hpj; rw [hq] at this; exact Int.not_lt.1 this
        · exact g4 j (by omega) hpj
theorem rbN_find {T : Nat → Int} {p : Nat → Bool} {n : Nat} {m : Int} (hm : ∀ j, j < n → p j = true → T j ≤ m) (hx : (∃ j, j < n ∧ p j = true ∧ T j = m) ∨ ∀ j, j < n → p j = false) (hpos : ∀ j, j < n → p j = true → 0 < T j) :
    rbN T p n = (List.range n).find? fun j => p j && decide (T j = m) := by
  obtain ⟨h1, h2⟩ := rbN_spec T p n
  cases hr : rbN T p n with
  | none =>
    symm
    rw [List.find?_eq_none]
    intro j hj
    have hj' := List.mem_range.1 hj
    cases hp : p j
    · simp
    · have := h1 hr j hj' hp
      have := hpos j hj' hp
      omega
  | some q =>
    obtain ⟨⟨g1, g2, g3⟩, g4, g5⟩ := h2 q hr
    symm
    have hq : T q = m := by
      rcases hx with ⟨j, hj, hp, e⟩ | hx
      · have := g4 j hj hp; have := hm q g1 g2; omega
      · rw [hx q g1] at g2; cases g2
    rw [List.find?_range_eq_some]
    refine ⟨by simp [g2, hq], List.mem_range.2 g1, fun j hj => ?_⟩
    cases hp : p j
    · simp
    · have := g5 j hj hp
      simp; omega

/-! ### the chain -/
def nxS (l : List Tk) (i : Nat) : Option Nat := (List.range l.length).find? fun j => (afs l j).contains i && decide (tlV l j = tlV l i - dyA l i)
def chn (l : List Tk) : Nat → Nat → List Nat
  | 0, i => [i]
  | n + 1, i => i :: match nxS l i with
    | none => []
    | some j => chn l n j
def chX (l : List Tk) (i : Nat) : List Nat := chn l (tlV l i).toNat i
def chO (l : List Tk) : Option Nat → List Nat
  | none => []
  | some j => chX l j
def chS (l : List Tk) : Option Nat := (List.range l.length).find? fun i => decide (tlV l i = lenV l)
def chnV (l : List Tk) : List Nat := chO l (chS l)
theorem nxS_some {l : List Tk} {i j : Nat} (h : nxS l i = some j) : j < l.length ∧ i ∈ afs l j ∧ tlV l j = tlV l i - dyA l i := by
  unfold nxS at h
  have h1 := List.find?_some h
  simp only [Bool.and_eq_true, List.contains_iff_mem, decide_eq_true_eq] at h1
  exact ⟨List.mem_range.1 (List.mem_of_find?_eq_some h), h1.1, h1.2⟩
theorem chn_enough {l : List Tk} (h : okP l) : ∀ i, i < l.length → ∀ n, (tlV l i).toNat ≤ n → chn l n i = chX l i :=
  ord_ind_up h fun i hi ih n hn => by
    have hp := (tlV_pos h hi).2
    have hd := (dy_bd h hi).1
    unfold chX
    obtain ⟨t, ht⟩ : ∃ t, (tlV l i).toNat = t + 1 := ⟨(tlV l i).toNat - 1, by omega⟩
    obtain ⟨m, rfl⟩ : ∃ m, n = m + 1 := ⟨n - 1, by omega⟩
    rw [ht]
    show (i :: match nxS l i with | none => [] | some j => chn l m j) = (i :: match nxS l i with | none => [] | some j => chn l t j)
    cases hs : nxS l i with
    | none => rfl
    | some j =>
      obtain ⟨h1, h2, h3⟩ := nxS_some hs
      show i :: chn l m j = i :: chn l t j
      rw [ih j h1 h2 m (by omega), ih j h1 h2 t (by omega)]
theorem chX_eq {l : List Tk} (h : okP l) {i : Nat} (hi : i < l.length) : chX l i = i :: chO l (nxS l i) := by
  have hp := (tlV_pos h hi).2
  have hd := (dy_bd h hi).1
  obtain ⟨t, ht⟩ : ∃ t, (tlV l i).toNat = t + 1 := ⟨(tlV l i).toNat - 1, by omega⟩
  have e : chX l i = i :: match nxS l i with | none => [] | some j => chn l t j := by unfold chX; rw [ht]; rfl
  rw [e]
  cases hs : nxS l i with
  | none => rfl
  | some j =>
    obtain ⟨h1, h2, h3⟩ := nxS_some hs
    show i :: chn l t j = i :: chX l j
    rw [chn_enough h j h1 t (by omega)]
/-- The reference's road: the first of the greatest that follow. -/
theorem rb_nxS {l : List Tk} (h : okP l) {i : Nat} (hi : i < l.length) : rbN (tlV l) (fun j => (afs l j).contains i) l.length = nxS l i := by
  have hL := latP_is h
  refine rbN_find (fun j hj hp => ?_) ?_ fun j hj _ => by have := (tlV_pos h hj).2; omega
  · have := hL.lt i hi j hj (List.contains_iff_mem.1 hp)
    unfold tlV; omega
  · rcases hL.some i hi with h1 | ⟨j, hj, hij, h1⟩
    · right
      intro j hj
      rw [Bool.eq_false_iff]
      intro hp
      have h2 := hL.lt i hi j hj (List.contains_iff_mem.1 hp)
      have h3 := hL.le j hj
      have h4 := (dy_bd h hj).1
      omega
    · exact .inl ⟨j, hj, List.contains_iff_mem.2 hij, by unfold tlV; omega⟩
theorem rb_chS {l : List Tk} (h : okP l) : rbN (tlV l) (fun _ => true) l.length = chS l := by
  have hL := latP_is h
  have := rbN_find (T := tlV l) (p := fun _ => true) (n := l.length) (m := lenV l) (fun j hj _ => by
    have h1 := ear_lat h j hj; have h2 := ear_pos h j; unfold tlV; omega) (.inl (by
    obtain ⟨i, hi, e⟩ := lat_zero h
    exact ⟨i, hi, rfl, by unfold tlV; omega⟩)) fun j hj _ => by have := (tlV_pos h hj).2; omega
  rw [this]
  unfold chS
  congr 1
theorem rbM_nxS {l : List Tk} (h : okP l) {i : Nat} (hi : i < l.length) : rbM (tlV l) (nxS l i) + dyA l i = tlV l i := by
  cases hs : nxS l i with
  | some j =>
    obtain ⟨h1, h2, h3⟩ := nxS_some hs
    show tlV l j + dyA l i = _
    omega
  | none =>
    show 0 + dyA l i = tlV l i
    rcases (latP_is h).some i hi with h1 | ⟨j, hj, hij, h1⟩
    · unfold tlV; omega
    · exfalso
      unfold nxS at hs
      have := List.find?_eq_none.1 hs j (List.mem_range.2 hj)
      apply this
      simp only [Bool.and_eq_true, List.contains_iff_mem, decide_eq_true_eq]
      exact ⟨hij, by unfold tlV; omega⟩
/-- The program's road: the first task without slack that begins on a day. -/
def pcN (l : List Tk) (c : Option Nat) (f : Int) : Option Nat := (List.range l.length).find? fun j => (match c with | none => true | some i => (afs l j).contains i) && (decide (gI (ear l) j = f) && decide (gI (latP l) j = f))
theorem find_congr {n : Nat} {p q : Nat → Bool} (h : ∀ j, j < n → p j = q j) : (List.range n).find? p = (List.range n).find? q := by
  induction n with
  | zero => rfl
  | succ n ih =>
    rw [List.range_succ, List.find?_append, List.find?_append, ih fun j hj => h j (by omega)]
    simp [List.find?, h n (by omega)]
theorem pc_nxS {l : List Tk} (h : okP l) {i : Nat} (hi : i < l.length) (hc : gI (ear l) i = gI (latP l) i) : pcN l (some i) (gI (ear l) i + dyA l i) = nxS l i := by
  unfold pcN nxS
  refine find_congr fun j hj => ?_
  rw [Bool.eq_iff_iff]
  simp only [Bool.and_eq_true, List.contains_iff_mem, decide_eq_true_eq]
  unfold tlV
  constructor
  · rintro ⟨h1, h2, h3⟩; exact ⟨h1, by omega⟩
  · rintro ⟨h1, h2⟩
    have h3 := ear_le h hj h1
    have h4 := ear_lat h j hj
    exact ⟨h1, by omega, by omega⟩
theorem pc_chS {l : List Tk} (h : okP l) : pcN l none 0 = chS l := by
  unfold pcN chS
  refine find_congr fun j hj => ?_
  rw [Bool.eq_iff_iff]
  simp only [Bool.and_eq_true, decide_eq_true_eq, true_and]
  unfold tlV
  have h4 := ear_lat h j hj
  have h5 := ear_pos h j
  constructor
  · intro h2; omega
  · intro h2; exact ⟨by omega, by omega⟩
theorem pc_crit {l : List Tk} {c : Option Nat} {f : Int} {j : Nat} (h : pcN l c f = some j) : j < l.length ∧ gI (ear l) j = f ∧ gI (latP l) j = f := by
  unfold pcN at h
  have h1 := List.find?_some h
  simp only [Bool.and_eq_true, decide_eq_true_eq] at h1
  exact ⟨List.mem_range.1 (List.mem_of_find?_eq_some h), h1.2.1, h1.2.2⟩

/-! ### chains -/
def sumD (l : List Tk) (c : List Nat) : Int := c.foldr (fun i s => dyA l i + s) 0
theorem sumD_cons (l : List Tk) (i : Nat) (c : List Nat) : sumD l (i :: c) = dyA l i + sumD l c := rfl
theorem sumD_app (l : List Tk) : ∀ (a b : List Nat), sumD l (a ++ b) = sumD l a + sumD l b
  | [], b => by simp [sumD]
  | i :: a, b => by rw [List.cons_append, sumD_cons, sumD_cons, sumD_app l a b]; omega
/-- Each follows the one ahead of it. -/
def lnk (l : List Tk) : List Nat → Prop
  | [] => True
  | [i] => i < l.length
  | i :: j :: r => i < l.length ∧ i ∈ afs l j ∧ lnk l (j :: r)
theorem lnk_lt {l : List Tk} : ∀ {c : List Nat}, lnk l c → ∀ i ∈ c, i < l.length
  | [], _, i, hi => by cases hi
  | [j], h, i, hi => by rw [List.mem_singleton.1 hi]; exact h
  | j :: k :: r, h, i, hi => by
    rcases List.mem_cons.1 hi with rfl | hi
    · exact h.1
    · exact lnk_lt h.2.2 i hi
theorem lnk_tail {l : List Tk} (h : okP l) : ∀ {c : List Nat} {i : Nat}, lnk l (i :: c) → sumD l (i :: c) ≤ tlV l i
  | [], i, hc => by have := (tlV_pos h hc).1; simp [sumD]; omega
  | j :: r, i, hc => by
    have h1 := lnk_tail h hc.2.2
    have hjl := lnk_lt hc.2.2 j (List.mem_cons_self ..)
    have h2 := (latP_is h).lt i hc.1 j hjl hc.2.1
    rw [sumD_cons]
    unfold tlV at *; omega
theorem lnk_head {l : List Tk} (h : okP l) : ∀ {xs : List Nat} {x i : Nat} {ys : List Nat}, lnk l (x :: (xs ++ i :: ys)) → gI (ear l) x + dyA l x + sumD l xs ≤ gI (ear l) i
  | [], x, i, ys, hc => by
    have hil := lnk_lt hc.2.2 i (List.mem_cons_self ..)
    have := ear_le h hil hc.2.1
    simp [sumD]; omega
  | y :: xs, x, i, ys, hc => by
    have hyl := lnk_lt hc.2.2 y (List.mem_cons_self ..)
    have h1 := ear_le h hyl hc.2.1
    have h2 := lnk_head h (xs := xs) (x := y) (i := i) (ys := ys) hc.2.2
    rw [sumD_cons]; omega
theorem lnk_drop {l : List Tk} : ∀ {xs ys : List Nat}, lnk l (xs ++ ys) → lnk l ys
  | [], ys, h => h
  | [x], [], h => trivial
  | [x], y :: ys, h => h.2.2
  | x :: x' :: xs, ys, h => lnk_drop (xs := x' :: xs) h.2.2
theorem lnk_sum {l : List Tk} (h : okP l) {xs ys : List Nat} {i : Nat} (hc : lnk l (xs ++ i :: ys)) : sumD l (xs ++ i :: ys) ≤ gI (ear l) i + tlV l i := by
  have h1 := lnk_tail h (lnk_drop hc)
  rw [sumD_app]
  cases xs with
  | nil => have := ear_pos h i; simp [sumD] at *; omega
  | cons x xs =>
    have h2 := lnk_head h hc
    have h3 := ear_pos h x
    rw [sumD_cons (c := xs)]; omega
theorem lnk_le {l : List Tk} (h : okP l) {c : List Nat} (hc : lnk l c) : sumD l c ≤ lenV l := by
  cases c with
  | nil => have := (lenV_bd h).1; simpa [sumD] using this
  | cons i c =>
    have h1 := lnk_tail h hc
    have hil := lnk_lt hc i (List.mem_cons_self ..)
    have h2 := ear_lat h i hil
    have h3 := ear_pos h i
    unfold tlV at h1; omega
/-- A task of a longest chain has no slack. -/
theorem lnk_crit {l : List Tk} (h : okP l) {c : List Nat} (hc : lnk l c) (hs : sumD l c = lenV l) {i : Nat} (hi : i ∈ c) : gI (latP l) i = gI (ear l) i := by
  obtain ⟨xs, ys, rfl⟩ := List.append_of_mem hi
  have h1 := lnk_sum h hc
  have h2 := ear_lat h i (lnk_lt hc i hi)
  unfold tlV at h1; omega
theorem chX_lnk {l : List Tk} (h : okP l) : ∀ i, i < l.length → lnk l (chX l i) ∧ sumD l (chX l i) = tlV l i ∧ ∃ r, chX l i = i :: r :=
  ord_ind_up h fun i hi ih => by
    rw [chX_eq h hi]
    have hm := rbM_nxS h hi
    cases hs : nxS l i with
    | none =>
      rw [hs] at hm
      have hm' : 0 + dyA l i = tlV l i := hm
      exact ⟨hi, by show dyA l i + 0 = _; omega, _, rfl⟩
    | some j =>
      rw [hs] at hm
      have hm' : tlV l j + dyA l i = tlV l i := hm
      obtain ⟨h1, h2, h3⟩ := nxS_some hs
      obtain ⟨g1, g2, r, g3⟩ := ih j h1 h2
      show lnk l (i :: chX l j) ∧ _ ∧ _
      refine ⟨?_, by show sumD l (i :: chX l j) = _; rw [sumD_cons]; omega, _, rfl⟩
      rw [g3] at g1 ⊢
      exact ⟨hi, h2, g1⟩
theorem chS_some {l : List Tk} (h : okP l) : ∃ i, chS l = some i ∧ i < l.length ∧ tlV l i = lenV l := by
  cases hs : chS l with
  | none =>
    exfalso
    obtain ⟨i, hi, e⟩ := lat_zero h
    unfold chS at hs
    have := List.find?_eq_none.1 hs i (List.mem_range.2 hi)
    apply this
    simp only [decide_eq_true_eq]
    unfold tlV; omega
  | some i =>
    unfold chS at hs
    have h1 := List.find?_some hs
    exact ⟨i, rfl, List.mem_range.1 (List.mem_of_find?_eq_some hs), by simpa using h1⟩
theorem chV_spec {l : List Tk} (h : okP l) : lnk l (chnV l) ∧ sumD l (chnV l) = lenV l ∧ chnV l ≠ [] := by
  obtain ⟨i, e, hi, hm⟩ := chS_some h
  obtain ⟨g1, g2, r, g3⟩ := chX_lnk h i hi
  unfold chnV
  rw [e]
  show lnk l (chX l i) ∧ sumD l (chX l i) = _ ∧ chX l i ≠ []
  exact ⟨g1, by omega, by rw [g3]; exact List.cons_ne_nil _ _⟩
/-- No task stands in a chain twice. -/
theorem lnk_nodup {l : List Tk} (h : okP l) : ∀ {c : List Nat}, lnk l c → c.Nodup ∧ ∀ i r, c = i :: r → ∀ j ∈ r, gI (ear l) i < gI (ear l) j
  | [], _ => ⟨List.nodup_nil, fun i r e => by cases e⟩
  | [i], _ => ⟨by simp, fun a r e => by injection e with e1 e2; subst e2; intro j hj; cases hj⟩
  | i :: j :: r, hc => by
    obtain ⟨h1, h2⟩ := lnk_nodup h hc.2.2
    have hjl := lnk_lt hc.2.2 j (List.mem_cons_self ..)
    have h3 := ear_le h hjl hc.2.1
    have h4 := (dy_bd h hc.1).1
    have key : ∀ q ∈ j :: r, gI (ear l) i < gI (ear l) q := fun q hq => by
      rcases List.mem_cons.1 hq with rfl | hq
      · omega
      · have := h2 j r rfl q hq; omega
    exact ⟨List.nodup_cons.2 ⟨fun hh => by have := key i hh; omega, h1⟩, fun a s e => by injection e with e1 e2; subst e1 e2; exact key⟩
theorem lnk_len {l : List Tk} (h : okP l) {c : List Nat} (hc : lnk l c) : c.length ≤ l.length := nodup_len (lnk_nodup h hc).1 (lnk_lt hc)
end Go.Proofs.Ytgijekhlbkfanaa
