/- Plans: the listed schedule, plain. No program is named. -/
import Derived.Test.YtgijekhlbkfanaaJobC
set_option linter.unusedSimpArgs false
set_option linter.unusedVariables false
namespace Go.Proofs.Ytgijekhlbkfanaa

def mnA (l : List Tk) (i : Nat) : Int := (tkA l i).mn
def sN (f : Nat → Int) : Nat → Int
  | 0 => 0
  | k + 1 => sN f k + f k
theorem sN_congr {f g : Nat → Int} : ∀ {n : Nat}, (∀ k, k < n → f k = g k) → sN f n = sN g n
  | 0, _ => rfl
  | n + 1, h => by show sN f n + f n = sN g n + g n; rw [sN_congr fun k hk => h k (by omega), h n (by omega)]
theorem sN_le {f g : Nat → Int} : ∀ {n : Nat}, (∀ k, k < n → f k ≤ g k) → sN f n ≤ sN g n
  | 0, _ => Int.le_refl _
  | n + 1, h => by show sN f n + f n ≤ sN g n + g n; have := sN_le (n := n) fun k hk => h k (by omega); have := h n (by omega); omega
theorem sN_zero {f : Nat → Int} {n : Nat} (h : ∀ k, k < n → f k = 0) : sN f n = 0 := by
  rw [sN_congr h]
  induction n with
  | zero => rfl
  | succ n ih => show sN _ n + 0 = 0; rw [ih fun k hk => h k (by omega)]; rfl
theorem sN_nonneg {f : Nat → Int} {n : Nat} (h : ∀ k, k < n → 0 ≤ f k) : 0 ≤ sN f n := by
  have := sN_le (f := fun _ => 0) (g := f) (n := n) h
  rw [sN_zero (n := n) (fun _ _ => rfl)] at this; exact this
theorem sN_add (f g : Nat → Int) : ∀ n, sN (fun k => f k + g k) n = sN f n + sN g n
  | 0 => rfl
  | n + 1 => by show sN _ n + (f n + g n) = sN f n + f n + (sN g n + g n); rw [sN_add f g n]; omega
theorem sN_mul (c : Int) (f : Nat → Int) : ∀ n, sN (fun k => c * f k) n = c * sN f n
  | 0 => by show (0:Int) = c * 0; omega
  | n + 1 => by show sN _ n + c * f n = c * (sN f n + f n); rw [sN_mul c f n, Int.mul_add]
theorem sN_one (f : Nat → Int) {i n : Nat} (hi : i < n) (hb : ∀ k, k < n → 0 ≤ f k) : f i ≤ sN f n := by
  induction n with
  | zero => omega
  | succ n ih =>
    show f i ≤ sN f n + f n
    by_cases h : i = n
    · subst h; have := sN_nonneg (n := i) (f := f) (fun k hk => hb k (by omega)); omega
    · have := ih (by omega) (fun k hk => hb k (by omega)); have := hb n (by omega); omega
theorem sN_upd {f g : Nat → Int} {i : Nat} {d : Int} {n : Nat} (hi : i < n) (h : ∀ k, k ≠ i → g k = f k) (h2 : g i = f i + d) : sN g n = sN f n + d := by
  induction n with
  | zero => omega
  | succ n ih =>
    show sN g n + g n = sN f n + f n + d
    by_cases e : i = n
    · subst e; rw [sN_congr (fun k (hk : k < i) => h k (by omega)), h2]; omega
    · rw [ih (by omega), h n (fun hh => e hh.symm)]; omega
theorem sN_swap (f : Nat → Nat → Int) (m : Nat) : ∀ n, sN (fun j => sN (fun e => f e j) m) n = sN (fun e => sN (f e) n) m
  | 0 => by
    show (0 : Int) = sN (fun e => 0) m
    rw [sN_zero (fun _ _ => rfl)]
  | n + 1 => by
    show sN _ n + sN (fun e => f e n) m = sN (fun e => sN (f e) n + f e n) m
    rw [sN_swap f m n, ← sN_add]
/-- Days of a stretch, one by one. -/
theorem sN_stretch {o dy c : Int} (hc : 0 ≤ o) (hd : 0 ≤ dy) : ∀ (D : Nat), o + dy ≤ D → sN (fun e => if o ≤ (e : Int) ∧ (e : Int) < o + dy then c else 0) D = c * dy := by
  have key : ∀ D : Nat, sN (fun e => if o ≤ (e : Int) ∧ (e : Int) < o + dy then c else 0) D = c * (if (D : Int) ≤ o then 0 else if (D : Int) ≤ o + dy then D - o else dy) := by
    intro D
    induction D with
    | zero => show (0:Int) = c * (if ((0 : Nat) : Int) ≤ o then 0 else _); rw [if_pos (by omega)]; simp
    | succ D ih =>
      show sN _ D + (if o ≤ (D : Int) ∧ (D : Int) < o + dy then c else 0) = _
      rw [ih]
      by_cases h1 : ((D + 1 : Nat) : Int) ≤ o
      · rw [if_pos (show (D : Int) ≤ o by omega), if_neg (by omega), if_pos h1]; simp
      · rw [if_neg h1]
        by_cases h2 : ((D + 1 : Nat) : Int) ≤ o + dy
        · rw [if_pos h2, if_pos (show o ≤ (D : Int) ∧ (D : Int) < o + dy by omega)]
          by_cases h3 : (D : Int) ≤ o
          · rw [if_pos h3]
            have : ((D + 1 : Nat) : Int) - o = 1 := by omega
            rw [this]; omega
          · rw [if_neg h3, if_pos (show (D : Int) ≤ o + dy by omega)]
            have : ((D + 1 : Nat) : Int) - o = (D - o) + 1 := by omega
            rw [this, Int.mul_add]; omega
        · rw [if_neg h2, if_neg (show ¬ (o ≤ (D : Int) ∧ (D : Int) < o + dy) by omega)]
          by_cases h3 : (D : Int) ≤ o
          · have h4 : dy = 0 := by omega
            rw [if_pos h3, h4]; simp
          · rw [if_neg h3]
            by_cases h5 : (D : Int) ≤ o + dy
            · rw [if_pos h5]
              have : (D : Int) - o = dy := by omega
              rw [this]; omega
            · rw [if_neg h5]; omega
  intro D hD
  rw [key D]
  by_cases h1 : (D : Int) ≤ o
  · have : dy = 0 := by omega
    rw [if_pos h1, this]
  · rw [if_neg h1]
    by_cases h2 : (D : Int) ≤ o + dy
    · rw [if_pos h2]
      have : (D : Int) - o = dy := by omega
      rw [this]
    · rw [if_neg h2]

/-! ### a day of the listing -/
/-- Men of those that began and have not ended. -/
def rnF (l : List Tk) (out : List Int) (B : List Nat) (d : Int) (k : Nat) : Int := if B.contains k && decide (d < gI out k + dyA l k) then mnA l k else 0
def runL (l : List Tk) (out : List Int) (B : List Nat) (d : Int) : Int := sN (rnF l out B d) l.length
def rdD (l : List Tk) (out : List Int) (B : List Nat) (d : Int) (i : Nat) : Bool := !B.contains i && (afs l i).all fun a => B.contains a && decide (gI out a + dyA l a ≤ d)
abbrev Sc := List Int × List Nat
def stR (l : List Tk) (most d : Int) (s : Sc) (i : Nat) : Sc := if rdD l s.1 s.2 d i && decide (mnA l i + runL l s.1 s.2 d ≤ most) then (s.1.set i d, s.2 ++ [i]) else s
def dayR (l : List Tk) (most : Int) (tr : List Nat) (d : Int) (s : Sc) : Sc := tr.foldl (stR l most d) s
def schK (l : List Tk) (most : Int) (tr : List Nat) : Nat → Sc
  | 0 => (List.replicate l.length 0, [])
  | d + 1 => dayR l most tr d (schK l most tr d)
structure Day (l : List Tk) (most d : Int) (s : Sc) (pre : List Nat) (t : Sc) : Prop where
  len : t.1.length = s.1.length
  nd : t.2.Nodup
  lt : ∀ i ∈ t.2, i < l.length
  old : ∀ i ∈ s.2, i ∈ t.2
  keep : ∀ i, i ∉ t.2 ∨ i ∈ s.2 → gI t.1 i = gI s.1 i
  new : ∀ i ∈ t.2, i ∉ s.2 → i ∈ pre ∧ gI t.1 i = d ∧ (∀ a ∈ afs l i, a ∈ s.2 ∧ gI s.1 a + dyA l a ≤ d)
  busy : runL l t.1 t.2 d ≤ most
theorem rdD_iff {l : List Tk} {out : List Int} {B : List Nat} {d : Int} {i : Nat} : rdD l out B d i = true ↔ i ∉ B ∧ ∀ a ∈ afs l i, a ∈ B ∧ gI out a + dyA l a ≤ d := by
  unfold rdD; simp
theorem Day.rd {l : List Tk} {most d : Int} {s t : Sc} {pre : List Nat} (h : Day l most d s pre t) (hP : okP l) {i : Nat} (hi : i < l.length) (hp : i ∉ pre) : rdD l t.1 t.2 d i = rdD l s.1 s.2 d i := by
  rw [Bool.eq_iff_iff, rdD_iff, rdD_iff]
  constructor
  · rintro ⟨h1, h2⟩
    refine ⟨fun h3 => h1 (h.old i h3), fun a ha => ?_⟩
    obtain ⟨h3, h4⟩ := h2 a ha
    by_cases h5 : a ∈ s.2
    · exact ⟨h5, by rw [← h.keep a (.inr h5)]; exact h4⟩
    · have h6 := h.new a h3 h5
      have h7 := (dy_bd hP (h.lt a h3)).1
      have := h6.2.1
      omega
  · rintro ⟨h1, h2⟩
    refine ⟨fun h3 => ?_, fun a ha => ?_⟩
    · exact hp (h.new i h3 h1).1
    · obtain ⟨h3, h4⟩ := h2 a ha
      exact ⟨h.old a h3, by rw [h.keep a (.inr h3)]; exact h4⟩
theorem runL_add {l : List Tk} (hP : okP l) {out : List Int} {B : List Nat} {d : Int} {i : Nat} (hl : out.length = l.length) (hi : i < l.length) (hB : i ∉ B) : runL l (out.set i d) (B ++ [i]) d = runL l out B d + mnA l i := by
  have hd := (dy_bd hP hi).1
  refine sN_upd hi (fun k hk => ?_) ?_
  · unfold rnF
    rw [gI_set_other (i := i) (j := k) (fun e => hk e.symm)]
    have : (B ++ [i]).contains k = B.contains k := by simp [hk]
    rw [this]
  · unfold rnF
    rw [gI_set_same (by omega)]
    have h1 : (B ++ [i]).contains i = true := by simp
    have h2 : B.contains i = false := by simpa using hB
    rw [h1, h2, if_pos (by simp; omega), if_neg (by simp)]
    omega
theorem mnA_bd {l : List Tk} (h : okP l) {i : Nat} (hi : i < l.length) : 1 ≤ mnA l i ∧ mnA l i ≤ 16 := (okTk_spec (h.each i hi)).2.2
theorem Day.step {l : List Tk} {most d : Int} {s t : Sc} {pre : List Nat} (h : Day l most d s pre t) (hP : okP l) (hs : s.1.length = l.length) {i : Nat} (hi : i < l.length) (hp : i ∉ pre) : Day l most d s (pre ++ [i]) (stR l most d t i) := by
  unfold stR
  split
  · rename_i hc
    rw [Bool.and_eq_true, decide_eq_true_eq] at hc
    obtain ⟨hr, hm⟩ := hc
    rw [h.rd hP hi hp] at hr
    obtain ⟨hr1, hr2⟩ := rdD_iff.1 hr
    have hni : i ∉ t.2 := fun hh => hp (h.new i hh hr1).1
    refine ⟨by rw [List.length_set]; exact h.len, ?_, ?_, ?_, ?_, ?_, ?_⟩
    · rw [List.nodup_append]; exact ⟨h.nd, by simp, fun a ha b hb e => by rw [List.mem_singleton.1 hb] at e; exact hni (e ▸ ha)⟩
    · intro j hj
      rcases List.mem_append.1 hj with hj | hj
      · exact h.lt j hj
      · rw [List.mem_singleton.1 hj]; exact hi
    · exact fun j hj => List.mem_append_left _ (h.old j hj)
    · intro j hj
      have hji : i ≠ j := fun e => by
        subst e
        rcases hj with hj | hj
        · exact hj (by simp)
        · exact hr1 hj
      show gI (t.1.set i d) j = _
      rw [gI_set_other hji]
      exact h.keep j (hj.imp (fun a b => a (List.mem_append_left _ b)) id)
    · intro j hj hjs
      rcases List.mem_append.1 hj with hj | hj
      · obtain ⟨a1, a2, a3⟩ := h.new j hj hjs
        refine ⟨List.mem_append_left _ a1, ?_, a3⟩
        show gI (t.1.set i d) j = d
        rw [gI_set_other (i := i) (j := j) (fun e => hni (by rw [e]; exact hj))]
        exact a2
      · rw [List.mem_singleton.1 hj]
        refine ⟨by simp, gI_set_same (by rw [h.len]; omega), hr2⟩
    · show runL l (t.1.set i d) (t.2 ++ [i]) d ≤ most
      rw [runL_add hP (by rw [h.len]; exact hs) hi hni]
      omega
  · refine ⟨h.len, h.nd, h.lt, h.old, h.keep, fun j hj hjs => ?_, h.busy⟩
    obtain ⟨a1, a2, a3⟩ := h.new j hj hjs
    exact ⟨List.mem_append_left _ a1, a2, a3⟩
theorem Day.fold {l : List Tk} {most d : Int} {s : Sc} (hP : okP l) (hs : s.1.length = l.length) : ∀ {post pre : List Nat} {t : Sc}, (pre ++ post).Nodup → (∀ i ∈ post, i < l.length) → Day l most d s pre t → Day l most d s (pre ++ post) (post.foldl (stR l most d) t)
  | [], pre, t, _, _, h => by rw [List.append_nil]; exact h
  | i :: post, pre, t, hn, hl, h => by
    have hp : i ∉ pre := fun hh => by
      rw [List.nodup_append] at hn
      exact hn.2.2 i hh i (List.mem_cons_self ..) rfl
    have h1 := h.step hP hs (hl i (List.mem_cons_self ..)) hp
    have h2 := Day.fold hP hs (post := post) (pre := pre ++ [i]) (by simpa using hn) (fun j hj => hl j (List.mem_cons_of_mem _ hj)) h1
    simpa using h2
structure Inv (l : List Tk) (most : Int) (d : Nat) (s : Sc) : Prop where
  len : s.1.length = l.length
  nd : s.2.Nodup
  lt : ∀ i ∈ s.2, i < l.length
  early : ∀ i ∈ s.2, 0 ≤ gI s.1 i ∧ gI s.1 i < d
  zero : ∀ i, i ∉ s.2 → gI s.1 i = 0
  aft : ∀ i ∈ s.2, ∀ a ∈ afs l i, a ∈ s.2 ∧ gI s.1 a + dyA l a ≤ gI s.1 i
/-- Men at work on a day. -/
def mnF (l : List Tk) (out : List Int) (B : List Nat) (e : Int) (k : Nat) : Int := if B.contains k && decide (gI out k ≤ e ∧ e < gI out k + dyA l k) then mnA l k else 0
def menB (l : List Tk) (out : List Int) (B : List Nat) (e : Int) : Int := sN (mnF l out B e) l.length
structure Inv2 (l : List Tk) (most : Int) (d : Nat) (s : Sc) : Prop where
  crew : ∀ e : Nat, e < d → menB l s.1 s.2 e ≤ most
  busy : ∀ e : Nat, e < d → ∃ j, j ∈ s.2 ∧ gI s.1 j ≤ e ∧ e < gI s.1 j + dyA l j
theorem contains_iff {B : List Nat} {k : Nat} : B.contains k = true ↔ k ∈ B := by simp
theorem runL_men {l : List Tk} {out : List Int} {B : List Nat} {d : Int} (h : ∀ i ∈ B, gI out i ≤ d) : runL l out B d = menB l out B d := by
  refine sN_congr fun k hk => ?_
  unfold rnF mnF
  by_cases hB : k ∈ B
  · have := h k hB
    by_cases h2 : d < gI out k + dyA l k
    · rw [if_pos (by simp [hB, h2]), if_pos (by simp [hB, h2, this])]
    · rw [if_neg (by simp [h2]), if_neg (by simp [h2])]
  · rw [if_neg (by simp [hB]), if_neg (by simp [hB])]
theorem Inv.zeroth (l : List Tk) (most : Int) : Inv l most 0 (List.replicate l.length 0, []) :=
  ⟨by simp, List.nodup_nil, fun i h => (by cases h), fun i h => (by cases h), fun i _ => gI_replicate _ _, fun i h => (by cases h)⟩
theorem Inv2.zeroth (l : List Tk) (most : Int) : Inv2 l most 0 (List.replicate l.length 0, []) := ⟨fun e h => by omega, fun e h => by omega⟩
structure isTr (l : List Tk) (tr : List Nat) : Prop where
  nd : tr.Nodup
  mem : ∀ i, i ∈ tr ↔ i < l.length
theorem Inv.run_le {l : List Tk} {most : Int} {d : Nat} {s : Sc} (hP : okP l) (h : Inv l most d s) (h2 : Inv2 l most d s) (hm : 0 ≤ most) : runL l s.1 s.2 d ≤ most := by
  cases d with
  | zero =>
    have : runL l s.1 s.2 (0 : Nat) = 0 := sN_zero fun k hk => by
      have hB : k ∉ s.2 := fun hh => by have := h.early k hh; omega
      unfold rnF; rw [if_neg (by simp [hB])]
    rw [this]; exact hm
  | succ d =>
    refine Int.le_trans (sN_le fun k hk => ?_) (h2.crew d (by omega))
    have hmn := (mnA_bd hP hk).1
    unfold rnF mnF
    by_cases hB : k ∈ s.2
    · have := h.early k hB
      by_cases h4 : ((d + 1 : Nat) : Int) < gI s.1 k + dyA l k
      · rw [if_pos (by simp only [Bool.and_eq_true, contains_iff, decide_eq_true_eq]; exact ⟨hB, h4⟩), if_pos (by simp only [Bool.and_eq_true, contains_iff, decide_eq_true_eq]; exact ⟨hB, by omega, by omega⟩)]; exact Int.le_refl _
      · rw [if_neg (by simp only [Bool.and_eq_true, contains_iff, decide_eq_true_eq]; exact fun hh => h4 hh.2)]
        split
        · omega
        · omega
    · rw [if_neg (by simp [hB]), if_neg (by simp [hB])]; exact Int.le_refl _
theorem Day.begin {l : List Tk} {most : Int} {d : Nat} {s : Sc} (hP : okP l) (h : Inv l most d s) (h2 : Inv2 l most d s) (hm : 0 ≤ most) : Day l most d s [] s :=
  ⟨rfl, h.nd, h.lt, fun i hi => hi, fun i _ => rfl, fun i hi hn => absurd hi hn, h.run_le hP h2 hm⟩
theorem Day.all {l : List Tk} {most : Int} {d : Nat} {s : Sc} {tr : List Nat} (hP : okP l) (hT : isTr l tr) (h : Inv l most d s) (h2 : Inv2 l most d s) (hm : 0 ≤ most) : Day l most d s tr (dayR l most tr d s) := by
  have := Day.fold (post := tr) (pre := []) hP h.len (by simpa using hT.nd) (fun i hi => (hT.mem i).1 hi) (Day.begin hP h h2 hm)
  unfold dayR; simpa using this
theorem Inv.next {l : List Tk} {most : Int} {d : Nat} {s t : Sc} {pre : List Nat} (hP : okP l) (h : Inv l most d s) (hD : Day l most d s pre t) : Inv l most (d + 1) t := by
  refine ⟨hD.len.trans h.len, hD.nd, hD.lt, fun i hi => ?_, fun i hi => ?_, fun i hi a ha => ?_⟩
  · by_cases hs : i ∈ s.2
    · rw [hD.keep i (.inr hs)]; have := h.early i hs; omega
    · rw [(hD.new i hi hs).2.1]; omega
  · rw [hD.keep i (.inl hi)]; exact h.zero i fun hh => hi (hD.old i hh)
  · by_cases hs : i ∈ s.2
    · obtain ⟨h1, h2⟩ := h.aft i hs a ha
      refine ⟨hD.old a h1, ?_⟩
      rw [hD.keep a (.inr h1), hD.keep i (.inr hs)]; exact h2
    · obtain ⟨-, h1, h2⟩ := hD.new i hi hs
      obtain ⟨h3, h4⟩ := h2 a ha
      refine ⟨hD.old a h3, ?_⟩
      rw [hD.keep a (.inr h3), h1]; exact h4
theorem stR_grow {l : List Tk} {most d : Int} {s : Sc} {i j : Nat} (h : j ∈ s.2) : j ∈ (stR l most d s i).2 := by
  unfold stR; split
  · exact List.mem_append_left _ h
  · exact h
theorem fold_grow {l : List Tk} {most d : Int} {j : Nat} : ∀ {tr : List Nat} {s : Sc}, j ∈ s.2 → j ∈ (tr.foldl (stR l most d) s).2
  | [], s, h => h
  | i :: tr, s, h => fold_grow (tr := tr) (stR_grow h)
/-- On a day that is not the last one something goes on. -/
theorem day_busy {l : List Tk} {most : Int} {d : Nat} {s : Sc} {tr : List Nat} (hP : okP l) (hT : isTr l tr) (h : Inv l most d s) (h2 : Inv2 l most d s) (hm : ∀ i, i < l.length → mnA l i ≤ most) (hs : s.2.length < l.length) :
    ∃ j, j ∈ (dayR l most tr d s).2 ∧ gI (dayR l most tr d s).1 j ≤ d ∧ (d : Int) < gI (dayR l most tr d s).1 j + dyA l j := by
  have hm0 : 0 ≤ most := by have := hm 0 hP.pos; have := (mnA_bd hP hP.pos).1; omega
  have hD := Day.all hP hT h h2 hm0
  have hI := h.next hP hD
  apply Classical.byContradiction
  intro hno
  have hend : ∀ j ∈ (dayR l most tr d s).2, gI (dayR l most tr d s).1 j + dyA l j ≤ d := fun j hj => by
    apply Classical.byContradiction
    intro hh
    exact hno ⟨j, hj, by have := (hI.early j hj).2; omega, by omega⟩
  have hsame : ∀ j ∈ (dayR l most tr d s).2, j ∈ s.2 := fun j hj => by
    apply Classical.byContradiction
    intro hh
    have h3 := (hD.new j hj hh).2.1
    have h4 := hend j hj
    have h5 := (dy_bd hP (hD.lt j hj)).1
    omega
  have hall : ∀ i, i < l.length → i ∈ s.2 := by
    refine ord_ind hP fun i hi ih => ?_
    apply Classical.byContradiction
    intro hn
    apply hn
    apply hsame
    obtain ⟨pre, post, hsp⟩ := List.append_of_mem ((hT.mem i).2 hi)
    have hnd := hT.nd
    rw [hsp] at hnd
    have hDp := Day.fold (post := pre) (pre := []) (most := most) (d := d) (s := s) (t := s) hP h.len (by simpa using (List.nodup_append.1 hnd).1) (fun j hj => (hT.mem j).1 (by rw [hsp]; exact List.mem_append_left _ hj)) (Day.begin hP h h2 hm0)
    rw [List.nil_append] at hDp
    generalize hq : pre.foldl (stR l most d) s = q at hDp
    have hfin : dayR l most tr d s = post.foldl (stR l most d) (stR l most d q i) := by
      unfold dayR; rw [hsp, List.foldl_append, hq]; rfl
    have hqs : ∀ j ∈ q.2, j ∈ s.2 := fun j hj => hsame j (by rw [hfin]; exact fold_grow (stR_grow hj))
    rw [hfin]
    apply fold_grow
    have hip : i ∉ pre := fun hh => (List.nodup_append.1 hnd).2.2 i hh i (List.mem_cons_self ..) rfl
    have hr : rdD l q.1 q.2 d i = true := by
      rw [hDp.rd hP hi hip, rdD_iff]
      refine ⟨hn, fun a ha => ⟨ih a ha, ?_⟩⟩
      have h3 := hend a (hD.old a (ih a ha))
      rw [hD.keep a (.inr (ih a ha))] at h3
      exact h3
    have hrun : runL l q.1 q.2 d = 0 := sN_zero fun k hk => by
      unfold rnF
      by_cases hB : k ∈ q.2
      · have hks := hqs k hB
        have h3 := hend k (hD.old k hks)
        rw [hD.keep k (.inr hks)] at h3
        rw [hDp.keep k (.inr hks), if_neg (by simp; omega)]
      · rw [if_neg (by simp [hB])]
    unfold stR
    rw [if_pos (by rw [hr, hrun]; have := hm i hi; simp; omega)]
    simp
  have : l.length ≤ s.2.length := by
    have := nodup_len (n := s.2.length) (xs := List.range l.length) List.nodup_range
    have h3 : (List.range l.length).length ≤ s.2.length := List.Nodup.length_le_of_subset List.nodup_range (fun x hx => hall x (List.mem_range.1 hx))
    simpa using h3
  omega
theorem Inv2.next {l : List Tk} {most : Int} {d : Nat} {s : Sc} {tr : List Nat} (hP : okP l) (hT : isTr l tr) (h : Inv l most d s) (h2 : Inv2 l most d s) (hm : ∀ i, i < l.length → mnA l i ≤ most) (hs : s.2.length < l.length) : Inv2 l most (d + 1) (dayR l most tr d s) := by
  have hm0 : 0 ≤ most := by have := hm 0 hP.pos; have := (mnA_bd hP hP.pos).1; omega
  have hD := Day.all hP hT h h2 hm0
  have hI := h.next hP hD
  have hkeep : ∀ e : Nat, e < d → ∀ k, mnF l (dayR l most tr d s).1 (dayR l most tr d s).2 e k = mnF l s.1 s.2 e k := fun e he k => by
    unfold mnF
    by_cases hk : k ∈ s.2
    · have h3 := hD.old k hk
      rw [hD.keep k (.inr hk), contains_iff.2 hk, contains_iff.2 h3]
    · rw [show s.2.contains k = false by simpa using hk]
      by_cases h3 : k ∈ (dayR l most tr d s).2
      · rw [(hD.new k h3 hk).2.1, if_neg (by simp; omega), if_neg (by simp)]
      · rw [show (dayR l most tr d s).2.contains k = false by simpa using h3]; rfl
  refine ⟨fun e he => ?_, fun e he => ?_⟩
  · by_cases h3 : e = d
    · subst h3
      rw [← runL_men fun i hi => by have := (hI.early i hi).2; omega]
      exact hD.busy
    · have := h2.crew e (by omega)
      unfold menB
      rw [sN_congr fun k _ => hkeep e (by omega) k]
      exact this
  · by_cases h3 : e = d
    · subst h3; exact day_busy hP hT h h2 hm hs
    · obtain ⟨j, a1, a2, a3⟩ := h2.busy e (by omega)
      exact ⟨j, hD.old j a1, by rw [hD.keep j (.inr a1)]; exact a2, by rw [hD.keep j (.inr a1)]; exact a3⟩
end Go.Proofs.Ytgijekhlbkfanaa
