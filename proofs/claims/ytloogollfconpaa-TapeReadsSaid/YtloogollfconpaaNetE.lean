/- Nets of tapes: sums over sublists; a tape picked out of a list; independent lists: plain. No program is named. -/
import Derived.Test.YtloogollfconpaaNetP
set_option linter.unusedSimpArgs false
set_option linter.unusedVariables false
namespace Go.Proofs.Ytloogollfconpaa

def lsum {α : Type} (f : α → Int) : List α → Int
  | [] => 0
  | x :: l => f x + lsum f l
section
variable {α β : Type}
theorem lsum_cons (f : α → Int) (x : α) (l : List α) : lsum f (x :: l) = f x + lsum f l := rfl
theorem lsum_app (f : α → Int) : ∀ l m : List α, lsum f (l ++ m) = lsum f l + lsum f m := by
  intro l m
  induction l with
  | nil => show _ = 0 + _; rw [Int.zero_add]; rfl
  | cons x l ih => show f x + lsum f (l ++ m) = f x + lsum f l + _; rw [ih, Int.add_assoc]
theorem lsum_map (f : β → Int) (g : α → β) : ∀ l : List α, lsum f (l.map g) = lsum (fun x => f (g x)) l := by
  intro l
  induction l with
  | nil => rfl
  | cons x l ih => show f (g x) + lsum f (l.map g) = _; rw [ih]; rfl
theorem lsum_add (f g : α → Int) : ∀ l : List α, lsum (fun x => f x + g x) l = lsum f l + lsum g l := by
  intro l
  induction l with
  | nil => rfl
  | cons x l ih => show f x + g x + lsum _ l = f x + lsum f l + (g x + lsum g l); rw [ih]; omega
theorem lsum_sub (f g : α → Int) : ∀ l : List α, lsum (fun x => f x - g x) l = lsum f l - lsum g l := by
  intro l
  induction l with
  | nil => rfl
  | cons x l ih => show f x - g x + lsum _ l = f x + lsum f l - (g x + lsum g l); rw [ih]; omega
theorem lsum_mul (c : Int) (f : α → Int) : ∀ l : List α, lsum (fun x => c * f x) l = c * lsum f l := by
  intro l
  induction l with
  | nil => show (0 : Int) = c * 0; simp
  | cons x l ih => show c * f x + lsum _ l = c * (f x + lsum f l); rw [ih, Int.mul_add]
theorem lsum_congr {f g : α → Int} : ∀ {l : List α}, (∀ x, x ∈ l → f x = g x) → lsum f l = lsum g l := by
  intro l
  induction l with
  | nil => intro _; rfl
  | cons x l ih => intro h; show f x + lsum f l = g x + lsum g l; rw [h x (List.mem_cons_self ..), ih (fun y hy => h y (List.mem_cons_of_mem _ hy))]
theorem lsum_zero {f : α → Int} {l : List α} (h : ∀ x, x ∈ l → f x = 0) : lsum f l = 0 := by
  rw [lsum_congr (g := fun _ => 0 * 0) (fun x hx => by rw [h x hx]; rfl), lsum_mul, Int.zero_mul]
theorem lsum_nonneg {f : α → Int} : ∀ {l : List α}, (∀ x, x ∈ l → 0 ≤ f x) → 0 ≤ lsum f l := by
  intro l
  induction l with
  | nil => intro _; exact Int.le_refl _
  | cons x l ih => intro h; have h1 := h x (List.mem_cons_self ..); have h2 := ih (fun y hy => h y (List.mem_cons_of_mem _ hy)); show 0 ≤ f x + lsum f l; omega
end
/-- Each element with all others. -/
def picks {α : Type} : List α → List (α × List α)
  | [] => []
  | t :: l => (t, l) :: (picks l).map (fun p => (p.1, t :: p.2))
/-- All sublists, each with the product of the ohms of the tapes that are left out. -/
def subs : List Tp → List (List Tp × Int)
  | [] => [([], 1)]
  | t :: l => (subs l).map (fun p => (p.1, t.2.2 * p.2)) ++ (subs l).map (fun p => (t :: p.1, p.2))
theorem subs_cons (h : List Tp × Int → Int) (t : Tp) (l : List Tp) : lsum h (subs (t :: l)) = lsum (fun q => h (q.1, t.2.2 * q.2)) (subs l) + lsum (fun q => h (t :: q.1, q.2)) (subs l) := by
  show lsum h ((subs l).map _ ++ (subs l).map _) = _
  rw [lsum_app, lsum_map, lsum_map]
theorem picks_cons {α : Type} (h : α × List α → Int) (t : α) (l : List α) : lsum h (picks (t :: l)) = h (t, l) + lsum (fun p => h (p.1, t :: p.2)) (picks l) := by
  show h (t, l) + lsum h ((picks l).map _) = _
  rw [lsum_map]
theorem exch : ∀ (l : List Tp) (h : Tp → List Tp → Int → Int), lsum (fun p => lsum (fun q => h p.1 q.1 q.2) (subs p.2)) (picks l) = lsum (fun q => lsum (fun p => h p.1 p.2 q.2) (picks q.1)) (subs l) := by
  intro l
  induction l with
  | nil => intro h; rfl
  | cons t l ih =>
    intro h
    rw [picks_cons, subs_cons]
    simp only [subs_cons, picks_cons]
    rw [lsum_add, lsum_add, ih (fun e F w => h e F (t.2.2 * w)), ih (fun e F w => h e (t :: F) w)]
    omega
theorem picks_perm {α : Type} : ∀ {l : List α} {p : α × List α}, p ∈ picks l → l.Perm (p.1 :: p.2) := by
  intro l
  induction l with
  | nil => intro p h; cases h
  | cons t l ih =>
    intro p h
    rcases List.mem_cons.1 h with rfl | h
    · exact List.Perm.refl _
    · obtain ⟨p', hp', rfl⟩ := List.mem_map.1 h
      exact ((ih hp').cons t).trans (List.Perm.swap ..)
theorem picks_split {α : Type} : ∀ {l : List α} {t : α}, t ∈ l → ∃ P1 G P2, picks l = P1 ++ (t, G) :: P2 ∧ (∀ p ∈ P1, t ∈ p.2) ∧ (∀ p ∈ P2, t ∈ p.2) := by
  intro l
  induction l with
  | nil => intro t h; cases h
  | cons u l ih =>
    intro t h
    rcases List.mem_cons.1 h with rfl | h
    · refine ⟨[], l, (picks l).map (fun p => (p.1, t :: p.2)), rfl, fun p hp => (by cases hp), fun p hp => ?_⟩
      obtain ⟨p', hp', rfl⟩ := List.mem_map.1 hp
      exact List.mem_cons_self ..
    · obtain ⟨P1, G, P2, e, h1, h2⟩ := ih h
      refine ⟨(u, l) :: P1.map (fun p => (p.1, u :: p.2)), u :: G, P2.map (fun p => (p.1, u :: p.2)), ?_, ?_, ?_⟩
      · show (u, l) :: (picks l).map _ = _
        rw [e, List.map_append, List.map_cons]; rfl
      · intro p hp
        rcases List.mem_cons.1 hp with rfl | hp
        · exact h
        · obtain ⟨p', hp', rfl⟩ := List.mem_map.1 hp
          exact List.mem_cons_of_mem _ (h1 p' hp')
      · intro p hp
        obtain ⟨p', hp', rfl⟩ := List.mem_map.1 hp
        exact List.mem_cons_of_mem _ (h2 p' hp')
theorem picks_len {α : Type} {l : List α} {p : α × List α} (h : p ∈ picks l) : p.2.length + 1 = l.length := by
  have := (picks_perm h).length_eq
  rw [List.length_cons] at this; omega
theorem subs_perm : ∀ {l : List Tp} {q : List Tp × Int}, q ∈ subs l → ∃ m, l.Perm (q.1 ++ m) := by
  intro l
  induction l with
  | nil =>
    intro q h
    rcases List.mem_cons.1 h with rfl | h
    · exact ⟨[], List.Perm.refl _⟩
    · cases h
  | cons t l ih =>
    intro q h
    rcases List.mem_append.1 h with h | h
    · obtain ⟨q', hq', rfl⟩ := List.mem_map.1 h
      obtain ⟨m, hm⟩ := ih hq'
      exact ⟨t :: m, (hm.cons t).trans List.perm_middle.symm⟩
    · obtain ⟨q', hq', rfl⟩ := List.mem_map.1 h
      obtain ⟨m, hm⟩ := ih hq'
      exact ⟨m, hm.cons t⟩
theorem subs_ok {l : List Tp} (h : okL l) {q : List Tp × Int} (hq : q ∈ subs l) : okL q.1 := by
  obtain ⟨m, hm⟩ := subs_perm hq
  exact fun t ht => h t (hm.mem_iff.2 (List.mem_append_left _ ht))
theorem subs_pos : ∀ {l : List Tp}, okL l → ∀ {q : List Tp × Int}, q ∈ subs l → 1 ≤ q.2 := by
  intro l
  induction l with
  | nil =>
    intro _ q h
    rcases List.mem_cons.1 h with rfl | h
    · exact Int.le_refl _
    · cases h
  | cons t l ih =>
    intro hl q h
    have ht := (okL_head hl).2.2.2.1
    rcases List.mem_append.1 h with h | h
    · obtain ⟨q', hq', rfl⟩ := List.mem_map.1 h
      have h1 := ih (okL_tail hl) hq'
      have : 1 * 1 ≤ t.2.2 * q'.2 := Int.mul_le_mul ht h1 (by omega) (by omega)
      show 1 ≤ t.2.2 * q'.2; omega
    · obtain ⟨q', hq', rfl⟩ := List.mem_map.1 h
      have h1 := ih (okL_tail hl) hq'
      exact h1
/-! ### Independent lists -/
def ind : List Tp → List Int → Bool
  | [], _ => true
  | t :: l, r => apt t.1 t.2.1 r && ind l (mgL r t)
theorem labs_mgL_le {r : List Int} (h : Lab r) {t : Tp} (h1 : nod t.1) (h2 : nod t.2.1) : (apt t.1 t.2.1 r = true ∧ labs (mgL r t) + 1 = labs r) ∨ (apt t.1 t.2.1 r = false ∧ labs (mgL r t) = labs r ∧ mgL r t = r) := by
  by_cases he : at6 r t.1 = at6 r t.2.1
  · right; rw [mgL_same he]; refine ⟨?_, rfl, rfl⟩; unfold apt; rw [he]; simp
  · left; exact ⟨apt_iff.2 he, labs_mgL h h1 h2 he⟩
theorem ind_labs : ∀ {l : List Tp}, okL l → ∀ {r : List Int}, Lab r → labs r ≤ labs (full l r) + l.length ∧ (ind l r = true ↔ labs (full l r) + l.length = labs r) := by
  intro l
  induction l with
  | nil => intro _ r _; exact ⟨Nat.le_refl _, by show true = true ↔ labs r + 0 = labs r; simp⟩
  | cons t l ih =>
    intro hl r hr
    obtain ⟨t1, t2, -, -, -⟩ := okL_head hl
    obtain ⟨h1, h2⟩ := ih (okL_tail hl) (hr.mgL t1 t2)
    rw [full_cons, List.length_cons]
    rcases labs_mgL_le hr t1 t2 with ⟨h3, h4⟩ | ⟨h3, h4, -⟩
    · refine ⟨by omega, ?_⟩
      show (apt t.1 t.2.1 r && ind l (mgL r t)) = true ↔ _
      rw [h3, Bool.true_and, h2]; omega
    · refine ⟨by omega, ?_⟩
      show (apt t.1 t.2.1 r && ind l (mgL r t)) = true ↔ _
      rw [h3, Bool.false_and]
      constructor
      · intro h; cases h
      · intro h; omega
theorem ind_pick {F : List Tp} (hF : okL F) {r : List Int} (hr : Lab r) {p : Tp × List Tp} (hp : p ∈ picks F) : full F r = mgL (full p.2 r) p.1 ∧ (ind F r = true ↔ (ind p.2 r = true ∧ apt p.1.1 p.1.2.1 (full p.2 r) = true)) := by
  have hm := picks_perm hp
  have hok : okL (p.1 :: p.2) := fun t ht => hF t (hm.mem_iff.2 ht)
  obtain ⟨t1, t2, -, -, -⟩ := okL_head hok
  have h1 := full_perm hm hF r hr
  rw [full_cons, full_mgL (okL_tail hok) t1 t2 hr] at h1
  refine ⟨h1, ?_⟩
  have h2 := ind_labs hF hr
  have h3 := ind_labs (okL_tail hok) hr
  have h4 := labs_mgL_le (hr.full (okL_tail hok)) t1 t2
  have h5 := picks_len hp
  rw [h2.2, h3.2, h1]
  rcases h4 with ⟨h6, h7⟩ | ⟨h6, h7, -⟩
  · rw [h6]
    constructor
    · intro h; exact ⟨by omega, rfl⟩
    · rintro ⟨h, -⟩; omega
  · rw [h6]
    constructor
    · intro h; omega
    · rintro ⟨-, h⟩; cases h
theorem full_still : ∀ {l : List Tp}, okL l → ∀ {r : List Int}, Lab r → labs (full l r) = labs r → full l r = r := by
  intro l
  induction l with
  | nil => intro _ r _ _; rfl
  | cons t l ih =>
    intro hl r hr h
    obtain ⟨t1, t2, -, -, -⟩ := okL_head hl
    rw [full_cons] at h ⊢
    have h1 := labs_full (okL_tail hl) (hr.mgL t1 t2)
    rcases labs_mgL_le hr t1 t2 with ⟨-, h4⟩ | ⟨-, h4, h5⟩
    · omega
    · rw [h5] at h ⊢; exact ih (okL_tail hl) hr h
theorem full_app' (l l' : List Tp) (r : List Int) : full (l ++ l') r = full l' (full l r) := List.foldl_append ..
/-- A sublist of full rank joins what the list joins. -/
theorem full_span {l : List Tp} (hl : okL l) {q : List Tp × Int} (hq : q ∈ subs l) (h : labs (full q.1 R0) = labs (full l R0)) : full q.1 R0 = full l R0 := by
  obtain ⟨m, hm⟩ := subs_perm hq
  have hok : okL (q.1 ++ m) := fun t ht => hl t (hm.mem_iff.2 ht)
  have h1 := full_perm hm hl R0 lab_R0
  rw [full_app'] at h1
  have h2 : okL m := fun t ht => hok t (List.mem_append_right _ ht)
  rw [h1] at h ⊢
  exact (full_still h2 (lab_R0.full (subs_ok hl hq)) h.symm).symm
/-- What is the same at both ends of each tape is the same at all nodes of one label. -/
theorem full_inv {h : Int → Int} : ∀ {l : List Tp}, okL l → (∀ t, t ∈ l → h t.1 = h t.2.1) → ∀ {r : List Int}, r.length = 6 → (∀ x y, nod x → nod y → at6 r x = at6 r y → h x = h y) → ∀ x y, nod x → nod y → at6 (full l r) x = at6 (full l r) y → h x = h y := by
  intro l
  induction l with
  | nil => intro _ _ r _ h1; exact h1
  | cons t l ih =>
    intro hl ht r hr h1
    obtain ⟨t1, t2, -, -, -⟩ := okL_head hl
    have e := ht t (List.mem_cons_self ..)
    refine ih (okL_tail hl) (fun u hu => ht u (List.mem_cons_of_mem _ hu)) (r := mgL r t) (by rw [mgL_len]; exact hr) (fun x y hx hy hxy => ?_)
    rcases (mgL_iff hr hx hy).1 hxy with h2 | ⟨h2, h3⟩
    · exact h1 x y hx hy h2
    · have hx' : h x = h t.1 := by
        rcases h2 with h2 | h2
        · exact h1 _ _ hx t1 h2
        · rw [h1 _ _ hx t2 h2, e]
      have hy' : h y = h t.1 := by
        rcases h3 with h3 | h3
        · exact h1 _ _ hy t1 h3
        · rw [h1 _ _ hy t2 h3, e]
      rw [hx', hy']
/-! ### The same sums over sublists -/
def pin (P : List Int → Bool) (k : Nat) (r : List Int) (q : List Tp × Int) : Int := if q.1.length = k ∧ ind q.1 r = true ∧ P (full q.1 r) = true then q.2 else 0
theorem sumL_subs (P : List Int → Bool) : ∀ (l : List Tp) (k : Nat) (r : List Int), sumL P k l r = lsum (pin P k r) (subs l) := by
  intro l
  induction l with
  | nil =>
    intro k r
    show (if k = 0 ∧ P r = true then (1 : Int) else 0) = (if 0 = k ∧ true = true ∧ P r = true then (1 : Int) else 0) + 0
    by_cases h : k = 0 ∧ P r = true
    · rw [if_pos h, if_pos ⟨h.1.symm, rfl, h.2⟩]; rfl
    · rw [if_neg h, if_neg (fun h2 => h ⟨h2.1.symm, h2.2.2⟩)]; rfl
  | cons t l ih =>
    intro k r
    rw [sumL_cons, subs_cons, ih]
    congr 1
    · rw [← lsum_mul]
      refine lsum_congr (fun q _ => ?_)
      unfold pin
      split
      · rfl
      · simp
    · by_cases he : at6 r t.1 = at6 r t.2.1
      · rw [if_pos he]
        refine (lsum_zero (fun q _ => ?_)).symm
        unfold pin
        rw [if_neg]
        rintro ⟨-, h2, -⟩
        have : apt t.1 t.2.1 r = false := by unfold apt; rw [he]; simp
        change (apt t.1 t.2.1 r && _) = true at h2
        rw [this] at h2; cases h2
      · rw [if_neg he]
        have ha : apt t.1 t.2.1 r = true := apt_iff.2 he
        cases k with
        | zero =>
          refine (lsum_zero (fun q _ => ?_)).symm
          unfold pin
          rw [if_neg]
          rintro ⟨h1, -⟩
          simp at h1
        | succ k =>
          show sumL P k l (mgL r t) = _
          rw [ih]
          refine lsum_congr (fun q _ => ?_)
          unfold pin
          have e : ind (t :: q.1) r = ind q.1 (mgL r t) := by show (apt t.1 t.2.1 r && _) = _; rw [ha]; rfl
          simp only [List.length_cons, Nat.add_right_cancel_iff, e, full_cons]
end Go.Proofs.Ytloogollfconpaa
