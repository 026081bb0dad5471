/- Joined by merge.py from: SchM SchN JobA5 JobA6 JobA2. -/
import Derived.Test.YtgijekhlbkfanaaJobC
import Derived.Test.YtgijekhlbkfanaaJobQ5
import Derived.Test.YtgijekhlbkfanaaJobP
import Derived.BigQuiet
set_option linter.unusedSimpArgs false
set_option linter.unusedVariables false
namespace Go.Proofs.Ytgijekhlbkfanaa

def mnA (l : List Tk) (i : Nat) : Int := (tkA l i).mn
def sN (f : Nat → Int) : Nat → Int
  | 0 => 0
  | k + 1 => sN f k + f k
theorem sN_congr {f g : Nat → Int} : ∀ {n : Nat}, (∀ k, k < n → f k = g k) → sN f n = sN g n
  | 0, _ => rfl
  | n + 1, h => by show sN f n + f n = sN g n + g n; rw [sN_congr fun k hk => h k (by omega), h n (by omega)]
theorem sN_le {f g : Nat → Int} : ∀ {n : Nat}, (∀ k, k < n → f k ≤ g k) → sN f n ≤ sN g n
  | 0, _ => Int.le_refl _
  | n + 1, h => by show sN f n + f n ≤ sN g n + g n; have := sN_le (n := n) fun k hk => h k (by omega); have := h n (by omega); omega
theorem sN_zero {f : Nat → Int} {n : Nat} (h : ∀ k, k < n → f k = 0) : sN f n = 0 := by
  rw [sN_congr h]
  induction n with
  | zero => rfl
  | succ n ih => show sN _ n + 0 = 0; rw [ih fun k hk => h k (by omega)]; rfl
theorem sN_nonneg {f : Nat → Int} {n : Nat} (h : ∀ k, k < n → 0 ≤ f k) : 0 ≤ sN f n := by
  have := sN_le (f := fun _ => 0) (g := f) (n := n) h
  rw [sN_zero (n := n) (fun _ _ => rfl)] at this; exact this
theorem sN_add (f g : Nat → Int) : ∀ n, sN (fun k => f k + g k) n = sN f n + sN g n
  | 0 => rfl
  | n + 1 => by show sN _ n + (f n + g n) = sN f n + f n + (sN g n + g n); rw [sN_add f g n]; omega
theorem sN_mul (c : Int) (f : Nat → Int) : ∀ n, sN (fun k => c * f k) n = c * sN f n
  | 0 => by show (0:Int) = c * 0; omega
  | n + 1 => by show sN _ n + c * f n = c * (sN f n + f n); rw [sN_mul c f n, Int.mul_add]
theorem sN_one (f : Nat → Int) {i n : Nat} (hi : i < n) (hb : ∀ k, k < n → 0 ≤ f k) : f i ≤ sN f n := by
  induction n with
  | zero => omega
  | succ n ih =>
    show f i ≤ sN f n + f n
    by_cases h : i = n
    · subst h; have := sN_nonneg (n := i) (f := f) (fun k hk => hb k (by omega)); omega
    · have := ih (by omega) (fun k hk => hb k (by omega)); have := hb n (by omega); omega
theorem sN_upd {f g : Nat → Int} {i : Nat} {d : Int} {n : Nat} (hi : i < n) (h : ∀ k, k ≠ i → g k = f k) (h2 : g i = f i + d) : sN g n = sN f n + d := by
  induction n with
  | zero => omega
  | succ n ih =>
    show sN g n + g n = sN f n + f n + d
    by_cases e : i = n
    · subst e; rw [sN_congr (fun k (hk : k < i) => h k (by omega)), h2]; omega
    · rw [ih (by omega), h n (fun hh => e hh.symm)]; omega
theorem sN_swap (f : Nat → Nat → Int) (m : Nat) : ∀ n, sN (fun j => sN (fun e => f e j) m) n = sN (fun e => sN (f e) n) m
  | 0 => by
    show (0 : Int) = sN (fun e => 0) m
    rw [sN_zero (fun _ _ => rfl)]
  | n + 1 => by
    show sN _ n + sN (fun e => f e n) m = sN (fun e => sN (f e) n + f e n) m
    rw [sN_swap f m n, ← sN_add]
/-- Days of a stretch, one by one. -/
theorem sN_stretch {o dy c : Int} (hc : 0 ≤ o) (hd : 0 ≤ dy) : ∀ (D : Nat), o + dy ≤ D → sN (fun e => if o ≤ (e : Int) ∧ (e : Int) < o + dy then c else 0) D = c * dy := by
  have key : ∀ D : Nat, sN (fun e => if o ≤ (e : Int) ∧ (e : Int) < o + dy then c else 0) D = c * (if (D : Int) ≤ o then 0 else if (D : Int) ≤ o + dy then D - o else dy) := by
    intro D
    induction D with
    | zero => show (0:Int) = c * (if ((0 : Nat) : Int) ≤ o then 0 else _); rw [if_pos (by omega)]; simp
    | succ D ih =>
      show sN _ D + (if o ≤ (D : Int) ∧ (D : Int) < o + dy then c else 0) = _
      rw [ih]
      by_cases h1 : ((D + 1 : Nat) : Int) ≤ o
      · rw [if_pos (show (D : Int) ≤ o by omega), if_neg (by omega), if_pos h1]; simp
      · rw [if_neg h1]
        by_cases h2 : ((D + 1 : Nat) : Int) ≤ o + dy
        · rw [if_pos h2, if_pos (show o ≤ (D : Int) ∧ (D : Int) < o + dy by omega)]
          by_cases h3 : (D : Int) ≤ o
          · rw [if_pos h3]
            have : ((D + 1 : Nat) : Int) - o = 1 := by omega
            rw [this]; omega
          · rw [if_neg h3, if_pos (show (D : Int) ≤ o + dy by omega)]
            have : ((D + 1 : Nat) : Int) - o = (D - o) + 1 := by omega
            rw [this, Int.mul_add]; omega
        · rw [if_neg h2, if_neg (show ¬ (o ≤ (D : Int) ∧ (D : Int) < o + dy) by omega)]
          by_cases h3 : (D : Int) ≤ o
          · have h4 : dy = 0 := by omega
            rw [if_pos h3, h4]; simp
          · rw [if_neg h3]
            by_cases h5 : (D : Int) ≤ o + dy
            · rw [if_pos h5]
              have : (D : Int) - o = dy := by omega
              rw [this]; omega
            · rw [if_neg h5]; omega
  intro D hD
  rw [key D]
  by_cases h1 : (D : Int) ≤ o
  · have : dy = 0 := by omega
    rw [if_pos h1, this]
  · rw [if_neg h1]
    by_cases h2 : (D : Int) ≤ o + dy
    · rw [if_pos h2]
      have : (D : Int) - o = dy := by omega
      rw [this]
    · rw [if_neg h2]

/-! ### a day of the listing -/
/-- Men of those that began and have not ended. -/
def rnF (l : List Tk) (out : List Int) (B : List Nat) (d : Int) (k : Nat) : Int := if B.contains k && decide (d < gI out k + dyA l k) then mnA l k else 0
def runL (l : List Tk) (out : List Int) (B : List Nat) (d : Int) : Int := sN (rnF l out B d) l.length
def rdD (l : List Tk) (out : List Int) (B : List Nat) (d : Int) (i : Nat) : Bool := !B.contains i && (afs l i).all fun a => B.contains a && decide (gI out a + dyA l a ≤ d)
abbrev Sc := List Int × List Nat
def stR (l : List Tk) (most d : Int) (s : Sc) (i : Nat) : Sc := if rdD l s.1 s.2 d i && decide (mnA l i + runL l s.1 s.2 d ≤ most) then (s.1.set i d, s.2 ++ [i]) else s
def dayR (l : List Tk) (most : Int) (tr : List Nat) (d : Int) (s : Sc) : Sc := tr.foldl (stR l most d) s
def schK (l : List Tk) (most : Int) (tr : List Nat) : Nat → Sc
  | 0 => (List.replicate l.length 0, [])
  | d + 1 => dayR l most tr d (schK l most tr d)
structure Day (l : List Tk) (most d : Int) (s : Sc) (pre : List Nat) (t : Sc) : Prop where
  len : t.1.length = s.1.length
  nd : t.2.Nodup
  lt : ∀ i ∈ t.2, i < l.length
  old : ∀ i ∈ s.2, i ∈ t.2
  keep : ∀ i, i ∉ t.2 ∨ i ∈ s.2 → gI t.1 i = gI s.1 i
  new : ∀ i ∈ t.2, i ∉ s.2 → i ∈ pre ∧ gI t.1 i = d ∧ (∀ a ∈ afs l i, a ∈ s.2 ∧ gI s.1 a + dyA l a ≤ d)
  busy : runL l t.1 t.2 d ≤ most
theorem rdD_iff {l : List Tk} {out : List Int} {B : List Nat} {d : Int} {i : Nat} : rdD l out B d i = true ↔ i ∉ B ∧ ∀ a ∈ afs l i, a ∈ B ∧ gI out a + dyA l a ≤ d := by
  unfold rdD; simp
theorem Day.rd {l : List Tk} {most d : Int} {s t : Sc} {pre : List Nat} (h : Day l most d s pre t) (hP : okP l) {i : Nat} (hi : i < l.length) (hp : i ∉ pre) : rdD l t.1 t.2 d i = rdD l s.1 s.2 d i := by
  rw [Bool.eq_iff_iff, rdD_iff, rdD_iff]
  constructor
  · rintro ⟨h1, h2⟩
    refine ⟨fun h3 => h1 (h.old i h3), fun a ha => ?_⟩
    obtain ⟨h3, h4⟩ := h2 a ha
    by_cases h5 : a ∈ s.2
    · exact ⟨h5, by rw [← h.keep a (.inr h5)]; exact h4⟩
    · have h6 := h.new a h3 h5
      have h7 := (dy_bd hP (h.lt a h3)).1
      have := h6.2.1
      omega
  · rintro ⟨h1, h2⟩
    refine ⟨fun h3 => ?_, fun a ha => ?_⟩
    · exact hp (h.new i h3 h1).1
    · obtain ⟨h3, h4⟩ := h2 a ha
      exact ⟨h.old a h3, by rw [h.keep a (.inr h3)]; exact h4⟩
theorem runL_add {l : List Tk} (hP : okP l) {out : List Int} {B : List Nat} {d : Int} {i : Nat} (hl : out.length = l.length) (hi : i < l.length) (hB : i ∉ B) : runL l (out.set i d) (B ++ [i]) d = runL l out B d + mnA l i := by
  have hd := (dy_bd hP hi).1
  refine sN_upd hi (fun k hk => ?_) ?_
  · unfold rnF
    rw [gI_set_other (i := i) (j := k) (fun e => hk e.symm)]
    have : (B ++ [i]).contains k = B.contains k := by simp [hk]
    rw [this]
  · unfold rnF
    rw [gI_set_same (by omega)]
    have h1 : (B ++ [i]).contains i = true := by simp
    have h2 : B.contains i = false := by simpa using hB
    rw [h1, h2, if_pos (by simp; omega), if_neg (by simp)]
    omega
theorem mnA_bd {l : List Tk} (h : okP l) {i : Nat} (hi : i < l.length) : 1 ≤ mnA l i ∧ mnA l i ≤ 16 := (okTk_spec (h.each i hi)).2.2
theorem Day.step {l : List Tk} {most d : Int} {s t : Sc} {pre : List Nat} (h : Day l most d s pre t) (hP : okP l) (hs : s.1.length = l.length) {i : Nat} (hi : i < l.length) (hp : i ∉ pre) : Day l most d s (pre ++ [i]) (stR l most d t i) := by
  unfold stR
  split
  · rename_i hc
    rw [Bool.and_eq_true, decide_eq_true_eq] at hc
    obtain ⟨hr, hm⟩ := hc
    rw [h.rd hP hi hp] at hr
    obtain ⟨hr1, hr2⟩ := rdD_iff.1 hr
    have hni : i ∉ t.2 := fun hh => hp (h.new i hh hr1).1
    refine ⟨by rw [List.length_set]; exact h.len, ?_, ?_, ?_, ?_, ?_, ?_⟩
    · rw [List.nodup_append]; exact ⟨h.nd, by simp, fun a ha b hb e => by rw [List.mem_singleton.1 hb] at e; exact hni (e ▸ ha)⟩
    · intro j hj
      rcases List.mem_append.1 hj with hj | hj
      · exact h.lt j hj
      · rw [List.mem_singleton.1 hj]; exact hi
    · exact fun j hj => List.mem_append_left _ (h.old j hj)
    · intro j hj
      have hji : i ≠ j := fun e => by
        subst e
        rcases hj with hj | hj
        · exact hj (by simp)
        · exact hr1 hj
      show gI (t.1.set i d) j = _
      rw [gI_set_other hji]
      exact h.keep j (hj.imp (fun a b => a (List.mem_append_left _ b)) id)
    · intro j hj hjs
      rcases List.mem_append.1 hj with hj | hj
      · obtain ⟨a1, a2, a3⟩ := h.new j hj hjs
        refine ⟨List.mem_append_left _ a1, ?_, a3⟩
        show gI (t.1.set i d) j = d
        rw [gI_set_other (i := i) (j := j) (fun e => hni (by rw [e]; exact hj))]
        exact a2
      · rw [List.mem_singleton.1 hj]
        refine ⟨by simp, gI_set_same (by rw [h.len]; omega), hr2⟩
    · show runL l (t.1.set i d) (t.2 ++ [i]) d ≤ most
      rw [runL_add hP (by rw [h.len]; exact hs) hi hni]
      omega
  · refine ⟨h.len, h.nd, h.lt, h.old, h.keep, fun j hj hjs => ?_, h.busy⟩
    obtain ⟨a1, a2, a3⟩ := h.new j hj hjs
    exact ⟨List.mem_append_left _ a1, a2, a3⟩
theorem Day.fold {l : List Tk} {most d : Int} {s : Sc} (hP : okP l) (hs : s.1.length = l.length) : ∀ {post pre : List Nat} {t : Sc}, (pre ++ post).Nodup → (∀ i ∈ post, i < l.length) → Day l most d s pre t → Day l most d s (pre ++ post) (post.foldl (stR l most d) t)
  | [], pre, t, _, _, h => by rw [List.append_nil]; exact h
  | i :: post, pre, t, hn, hl, h => by
    have hp : i ∉ pre := fun hh => by
      rw [List.nodup_append] at hn
      exact hn.2.2 i hh i (List.mem_cons_self ..) rfl
    have h1 := h.step hP hs (hl i (List.mem_cons_self ..)) hp
    have h2 := Day.fold hP hs (post := post) (pre := pre ++ [i]) (by simpa using hn) (fun j hj => hl j (List.mem_cons_of_mem _ hj)) h1
    simpa using h2
structure Inv (l : List Tk) (most : Int) (d : Nat) (s : Sc) : Prop where
  len : s.1.length = l.length
  nd : s.2.Nodup
  lt : ∀ i ∈ s.2, i < l.length
  early : ∀ i ∈ s.2, 0 ≤ gI s.1 i ∧ gI s.1 i < d
  zero : ∀ i, i ∉ s.2 → gI s.1 i = 0
  aft : ∀ i ∈ s.2, ∀ a ∈ afs l i, a ∈ s.2 ∧ gI s.1 a + dyA l a ≤ gI s.1 i
/-- Men at work on a day. -/
def mnF (l : List Tk) (out : List Int) (B : List Nat) (e : Int) (k : Nat) : Int := if B.contains k && decide (gI out k ≤ e ∧ e < gI out k + dyA l k) then mnA l k else 0
def menB (l : List Tk) (out : List Int) (B : List Nat) (e : Int) : Int := sN (mnF l out B e) l.length
structure Inv2 (l : List Tk) (most : Int) (d : Nat) (s : Sc) : Prop where
  crew : ∀ e : Nat, e < d → menB l s.1 s.2 e ≤ most
  busy : ∀ e : Nat, e < d → ∃ j, j ∈ s.2 ∧ gI s.1 j ≤ e ∧ e < gI s.1 j + dyA l j
theorem contains_iff {B : List Nat} {k : Nat} : B.contains k = true ↔ k ∈ B := by simp
theorem runL_men {l : List Tk} {out : List Int} {B : List Nat} {d : Int} (h : ∀ i ∈ B, gI out i ≤ d) : runL l out B d = menB l out B d := by
  refine sN_congr fun k hk => ?_
  unfold rnF mnF
  by_cases hB : k ∈ B
  · have := h k hB
    by_cases h2 : d < gI out k + dyA l k
    · rw [if_pos (by simp [hB, h2]), if_pos (by simp [hB, h2, this])]
    · rw [if_neg (by simp [h2]), if_neg (by simp [h2])]
  · rw [if_neg (by simp [hB]), if_neg (by simp [hB])]
theorem Inv.zeroth (l : List Tk) (most : Int) : Inv l most 0 (List.replicate l.length 0, []) :=
  ⟨by simp, List.nodup_nil, fun i h => (by cases h), fun i h => (by cases h), fun i _ => gI_replicate _ _, fun i h => (by cases h)⟩
theorem Inv2.zeroth (l : List Tk) (most : Int) : Inv2 l most 0 (List.replicate l.length 0, []) := ⟨fun e h => by omega, fun e h => by omega⟩
structure isTr (l : List Tk) (tr : List Nat) : Prop where
  nd : tr.Nodup
  mem : ∀ i, i ∈ tr ↔ i < l.length
theorem Inv.run_le {l : List Tk} {most : Int} {d : Nat} {s : Sc} (hP : okP l) (h : Inv l most d s) (h2 : Inv2 l most d s) (hm : 0 ≤ most) : runL l s.1 s.2 d ≤ most := by
  cases d with
  | zero =>
    have : runL l s.1 s.2 (0 : Nat) = 0 := sN_zero fun k hk => by
      have hB : k ∉ s.2 := fun hh => by have := h.early k hh; omega
      unfold rnF; rw [if_neg (by simp [hB])]
    rw [this]; exact hm
  | succ d =>
    refine Int.le_trans (sN_le fun k hk => ?_) (h2.crew d (by omega))
    have hmn := (mnA_bd hP hk).1
    unfold rnF mnF
    by_cases hB : k ∈ s.2
    · have := h.early k hB
      by_cases h4 : ((d + 1 : Nat) : Int) < gI s.1 k + dyA l k
      · rw [if_pos (by simp only [Bool.and_eq_true, contains_iff, decide_eq_true_eq]; exact ⟨hB, h4⟩), if_pos (by simp only [Bool.and_eq_true, contains_iff, decide_eq_true_eq]; exact ⟨hB, by omega, by omega⟩)]; exact Int.le_refl _
      · rw [if_neg (by simp only [Bool.and_eq_true, contains_iff, decide_eq_true_eq]; exact fun hh => h4 hh.2)]
        split
        · omega
        · omega
    · rw [if_neg (by simp [hB]), if_neg (by simp [hB])]; exact Int.le_refl _
theorem Day.begin {l : List Tk} {most : Int} {d : Nat} {s : Sc} (hP : okP l) (h : Inv l most d s) (h2 : Inv2 l most d s) (hm : 0 ≤ most) : Day l most d s [] s :=
  ⟨rfl, h.nd, h.lt, fun i hi => hi, fun i _ => rfl, fun i hi hn => absurd hi hn, h.run_le hP h2 hm⟩
theorem Day.all {l : List Tk} {most : Int} {d : Nat} {s : Sc} {tr : List Nat} (hP : okP l) (hT : isTr l tr) (h : Inv l most d s) (h2 : Inv2 l most d s) (hm : 0 ≤ most) : Day l most d s tr (dayR l most tr d s) := by
  have := Day.fold (post := tr) (pre := []) hP h.len (by simpa using hT.nd) (fun i hi => (hT.mem i).1 hi) (Day.begin hP h h2 hm)
  unfold dayR; simpa using this
theorem Inv.next {l : List Tk} {most : Int} {d : Nat} {s t : Sc} {pre : List Nat} (hP : okP l) (h : Inv l most d s) (hD : Day l most d s pre t) : Inv l most (d + 1) t := by
  refine ⟨hD.len.trans h.len, hD.nd, hD.lt, fun i hi => ?_, fun i hi => ?_, fun i hi a ha => ?_⟩
  · by_cases hs : i ∈ s.2
    · rw [hD.keep i (.inr hs)]; have := h.early i hs; omega
    · rw [(hD.new i hi hs).2.1]; omega
  · rw [hD.keep i (.inl hi)]; exact h.zero i fun hh => hi (hD.old i hh)
  · by_cases hs : i ∈ s.2
    · obtain ⟨h1, h2⟩ := h.aft i hs a ha
      refine ⟨hD.old a h1, ?_⟩
      rw [hD.keep a (.inr h1), hD.keep i (.inr hs)]; exact h2
    · obtain ⟨-, h1, h2⟩ := hD.new i hi hs
      obtain ⟨h3, h4⟩ := h2 a ha
      refine ⟨hD.old a h3, ?_⟩
      rw [hD.keep a (.inr h3), h1]; exact h4
theorem stR_grow {l : List Tk} {most d : Int} {s : Sc} {i j : Nat} (h : j ∈ s.2) : j ∈ (stR l most d s i).2 := by
  unfold stR; split
  · exact List.mem_append_left _ h
  · exact h
theorem fold_grow {l : List Tk} {most d : Int} {j : Nat} : ∀ {tr : List Nat} {s : Sc}, j ∈ s.2 → j ∈ (tr.foldl (stR l most d) s).2
  | [], s, h => h
  | i :: tr, s, h => fold_grow (tr := tr) (stR_grow h)
/-- On a day that is not the last one something goes on. -/
theorem day_busy {l : List Tk} {most : Int} {d : Nat} {s : Sc} {tr : List Nat} (hP : okP l) (hT : isTr l tr) (h : Inv l most d s) (h2 : Inv2 l most d s) (hm : ∀ i, i < l.length → mnA l i ≤ most) (hs : s.2.length < l.length) :
    ∃ j, j ∈ (dayR l most tr d s).2 ∧ gI (dayR l most tr d s).1 j ≤ d ∧ (d : Int) < gI (dayR l most tr d s).1 j + dyA l j := by
  have hm0 : 0 ≤ most := by have := hm 0 hP.pos; have := (mnA_bd hP hP.pos).1; omega
  have hD := Day.all hP hT h h2 hm0
  have hI := h.next hP hD
  apply Classical.byContradiction
  intro hno
  have hend : ∀ j ∈ (dayR l most tr d s).2, gI (dayR l most tr d s).1 j + dyA l j ≤ d := fun j hj => by
    apply Classical.byContradiction
    intro hh
    exact hno ⟨j, hj, by have := (hI.early j hj).2; omega, by omega⟩
  have hsame : ∀ j ∈ (dayR l most tr d s).2, j ∈ s.2 := fun j hj => by
    apply Classical.byContradiction
    intro hh
    have h3 := (hD.new j hj hh).2.1
    have h4 := hend j hj
    have h5 := (dy_bd hP (hD.lt j hj)).1
    omega
  have hall : ∀ i, i < l.length → i ∈ s.2 := by
    refine ord_ind hP fun i hi ih => ?_
    apply Classical.byContradiction
    intro hn
    apply hn
    apply hsame
    obtain ⟨pre, post, hsp⟩ := List.append_of_mem ((hT.mem i).2 hi)
    have hnd := hT.nd
    rw [hsp] at hnd
    have hDp := Day.fold (post := pre) (pre := []) (most := most) (d := d) (s := s) (t := s) hP h.len (by simpa using (List.nodup_append.1 hnd).1) (fun j hj => (hT.mem j).1 (by rw [hsp]; exact List.mem_append_left _ hj)) (Day.begin hP h h2 hm0)
    rw [List.nil_append] at hDp
    generalize hq : pre.foldl (stR l most d) s = q at hDp
    have hfin : dayR l most tr d s = post.foldl (stR l most d) (stR l most d q i) := by
      unfold dayR; rw [hsp, List.foldl_append, hq]; rfl
    have hqs : ∀ j ∈ q.2, j ∈ s.2 := fun j hj => hsame j (by rw [hfin]; exact fold_grow (stR_grow hj))
    rw [hfin]
    apply fold_grow
    have hip : i ∉ pre := fun hh => (List.nodup_append.1 hnd).2.2 i hh i (List.mem_cons_self ..) rfl
    have hr : rdD l q.1 q.2 d i = true := by
      rw [hDp.rd hP hi hip, rdD_iff]
      refine ⟨hn, fun a ha => ⟨ih a ha, ?_⟩⟩
      have h3 := hend a (hD.old a (ih a ha))
      rw [hD.keep a (.inr (ih a ha))] at h3
      exact h3
    have hrun : runL l q.1 q.2 d = 0 := sN_zero fun k hk => by
      unfold rnF
      by_cases hB : k ∈ q.2
      · have hks := hqs k hB
        have h3 := hend k (hD.old k hks)
        rw [hD.keep k (.inr hks)] at h3
        rw [hDp.keep k (.inr hks), if_neg (by simp; omega)]
      · rw [if_neg (by simp [hB])]
    unfold stR
    rw [if_pos (by rw [hr, hrun]; have := hm i hi; simp; omega)]
    simp
  have : l.length ≤ s.2.length := by
    have := nodup_len (n := s.2.length) (xs := List.range l.length) List.nodup_range
    have h3 : (List.range l.length).length ≤ s.2.length := List.Nodup.length_le_of_subset List.nodup_range (fun x hx => hall x (List.mem_range.1 hx))
    simpa using h3
  omega
theorem Inv2.next {l : List Tk} {most : Int} {d : Nat} {s : Sc} {tr : List Nat} (hP : okP l) (hT : isTr l tr) (h : Inv l most d s) (h2 : Inv2 l most d s) (hm : ∀ i, i < l.length → mnA l i ≤ most) (hs : s.2.length < l.length) : Inv2 l most (d + 1) (dayR l most tr d s) := by
  have hm0 : 0 ≤ most := by have := hm 0 hP.pos; have := (mnA_bd hP hP.pos).1; omega
  have hD := Day.all hP hT h h2 hm0
  have hI := h.next hP hD
  have hkeep : ∀ e : Nat, e < d → ∀ k, mnF l (dayR l most tr d s).1 (dayR l most tr d s).2 e k = mnF l s.1 s.2 e k := fun e he k => by
    unfold mnF
    by_cases hk : k ∈ s.2
    · have h3 := hD.old k hk
      rw [hD.keep k (.inr hk), contains_iff.2 hk, contains_iff.2 h3]
    · rw [show s.2.contains k = false by simpa using hk]
      by_cases h3 : k ∈ (dayR l most tr d s).2
      · rw [(hD.new k h3 hk).2.1, if_neg (by simp; omega), if_neg (by simp)]
      · rw [show (dayR l most tr d s).2.contains k = false by simpa using h3]; rfl
  refine ⟨fun e he => ?_, fun e he => ?_⟩
  · by_cases h3 : e = d
    · subst h3
      rw [← runL_men fun i hi => by have := (hI.early i hi).2; omega]
      exact hD.busy
    · have := h2.crew e (by omega)
      unfold menB
      rw [sN_congr fun k _ => hkeep e (by omega) k]
      exact this
  · by_cases h3 : e = d
    · subst h3; exact day_busy hP hT h h2 hm hs
    · obtain ⟨j, a1, a2, a3⟩ := h2.busy e (by omega)
      exact ⟨j, hD.old j a1, by rw [hD.keep j (.inr a1)]; exact a2, by rw [hD.keep j (.inr a1)]; exact a3⟩
end Go.Proofs.Ytgijekhlbkfanaa

namespace Go.Proofs.Ytgijekhlbkfanaa

/-! ### the turn -/
def lexL (late : List Int) (a b : Nat) : Prop := gI late a < gI late b ∨ (gI late a = gI late b ∧ a < b)
theorem lexL.irr {late : List Int} {a : Nat} : ¬ lexL late a a := by unfold lexL; omega
theorem lexL.tr {late : List Int} {a b c : Nat} (h : lexL late a b) (k : lexL late b c) : lexL late a c := by unfold lexL at *; omega
theorem sorted_one {late : List Int} : ∀ {xs ys : List Nat}, xs.Pairwise (lexL late) → ys.Pairwise (lexL late) → (∀ x, x ∈ xs ↔ x ∈ ys) → xs = ys
  | [], [], _, _, _ => rfl
  | [], y :: ys, _, _, h => by have := (h y).2 (List.mem_cons_self ..); cases this
  | x :: xs, [], _, _, h => by have := (h x).1 (List.mem_cons_self ..); cases this
  | x :: xs, y :: ys, hx, hy, h => by
    obtain ⟨hx1, hx2⟩ := List.pairwise_cons.1 hx
    obtain ⟨hy1, hy2⟩ := List.pairwise_cons.1 hy
    have hxy : x = y := by
      rcases List.mem_cons.1 ((h x).1 (List.mem_cons_self ..)) with e | h1
      · exact e
      · rcases List.mem_cons.1 ((h y).2 (List.mem_cons_self ..)) with e | h2
        · exact e.symm
        · exact absurd ((hy1 x h1).tr (hx1 y h2)) lexL.irr
    subst hxy
    congr 1
    refine sorted_one hx2 hy2 fun z => ⟨fun hz => ?_, fun hz => ?_⟩
    · rcases List.mem_cons.1 ((h z).1 (List.mem_cons_of_mem _ hz)) with e | h1
      · exact absurd (e ▸ hx1 z hz) lexL.irr
      · exact h1
    · rcases List.mem_cons.1 ((h z).2 (List.mem_cons_of_mem _ hz)) with e | h1
      · exact absurd (e ▸ hy1 z hz) lexL.irr
      · exact h1
/-- A new last one is put into its place. -/
def insV (late : List Int) : List Nat → Nat → List Nat
  | [], x => [x]
  | y :: r, x => if gI late x < gI late y then insV late r x ++ [y] else (y :: r).reverse ++ [x]
def isortV (late : List Int) (xs : List Nat) : List Nat := xs.foldl (fun acc x => insV late acc.reverse x) []
theorem insV_mem {late : List Int} : ∀ {r : List Nat} {x z : Nat}, z ∈ insV late r x ↔ z ∈ r ∨ z = x
  | [], x, z => by simp [insV]
  | y :: r, x, z => by
    rw [insV]
    split
    · rw [List.mem_append, insV_mem, List.mem_singleton, List.mem_cons]
      constructor
      · rintro ((h | h) | h)
        · exact .inl (.inr h)
        · exact .inr h
        · exact .inl (.inl h)
      · rintro ((h | h) | h)
        · exact .inr h
        · exact .inl (.inl h)
        · exact .inl (.inr h)
    · rw [List.mem_append, List.mem_reverse, List.mem_singleton]
theorem insV_len {late : List Int} : ∀ (r : List Nat) (x : Nat), (insV late r x).length = r.length + 1
  | [], x => rfl
  | y :: r, x => by
    rw [insV]
    split
    · rw [List.length_append, insV_len]; rfl
    · simp
theorem insV_sorted {late : List Int} : ∀ {r : List Nat} {x : Nat}, r.reverse.Pairwise (lexL late) → (∀ y ∈ r, y < x) → (insV late r x).Pairwise (lexL late)
  | [], x, _, _ => by simp [insV]
  | y :: r, x, h, hb => by
    rw [List.reverse_cons, List.pairwise_append] at h
    obtain ⟨h1, -, h3⟩ := h
    rw [insV]
    split
    · rename_i hl
      rw [List.pairwise_append]
      refine ⟨insV_sorted h1 fun z hz => hb z (List.mem_cons_of_mem _ hz), by simp, fun a ha b hb' => ?_⟩
      rw [List.mem_singleton.1 hb']
      rcases insV_mem.1 ha with h4 | h4
      · exact h3 a (by simpa using h4) y (by simp)
      · rw [h4]; exact .inl hl
    · rename_i hl
      rw [List.reverse_cons, List.pairwise_append]
      refine ⟨by rw [List.pairwise_append]; exact ⟨h1, by simp, h3⟩, by simp, fun a ha b hb' => ?_⟩
      rw [List.mem_singleton.1 hb']
      have hax : a < x := hb a (by simp at ha ⊢; exact ha.symm)
      have hyx := hb y (List.mem_cons_self ..)
      rcases List.mem_append.1 ha with h4 | h4
      · have := h3 a h4 y (by simp)
        unfold lexL at *; omega
      · rw [List.mem_singleton.1 h4]; unfold lexL; omega
theorem isort_key {late : List Int} : ∀ {xs acc : List Nat}, xs.Pairwise (· < ·) → acc.Pairwise (lexL late) → (∀ y ∈ acc, ∀ x ∈ xs, y < x) → (xs.foldl (fun acc x => insV late acc.reverse x) acc).Pairwise (lexL late) ∧ ∀ z, z ∈ xs.foldl (fun acc x => insV late acc.reverse x) acc ↔ z ∈ acc ∨ z ∈ xs
  | [], acc, _, h, _ => ⟨h, fun z => by simp⟩
  | x :: xs, acc, hx, h, hb => by
    obtain ⟨h1, h2⟩ := List.pairwise_cons.1 hx
    obtain ⟨h3, h4⟩ := isort_key (xs := xs) (acc := insV late acc.reverse x) h2 (insV_sorted (by rw [List.reverse_reverse]; exact h) fun y hy => hb y (by simpa using hy) x (List.mem_cons_self ..)) (fun y hy z hz => by
      rcases insV_mem.1 hy with h5 | h5
      · exact hb y (by simpa using h5) z (List.mem_cons_of_mem _ hz)
      · rw [h5]; exact h1 z hz)
    refine ⟨h3, fun z => ?_⟩
    rw [List.foldl_cons, h4 z, insV_mem, List.mem_reverse, List.mem_cons, or_assoc]
theorem isortV_len (late : List Int) (xs : List Nat) : (isortV late xs).length = xs.length := by
  have : ∀ (xs acc : List Nat), (xs.foldl (fun acc x => insV late acc.reverse x) acc).length = acc.length + xs.length := by
    intro xs
    induction xs with
    | nil => intro acc; rfl
    | cons x xs ih => intro acc; rw [List.foldl_cons, ih, insV_len, List.length_reverse, List.length_cons]; omega
  have := this xs []
  unfold isortV; rw [this]; simp
theorem isortV_is {late : List Int} {xs ys : List Nat} (hx : xs.Pairwise (· < ·)) (hy : ys.Pairwise (lexL late)) (h : ∀ z, z ∈ ys ↔ z ∈ xs) : isortV late xs = ys := by
  obtain ⟨h1, h2⟩ := isort_key (late := late) (xs := xs) (acc := []) hx List.Pairwise.nil (fun y hy => by cases hy)
  refine sorted_one h1 hy fun z => ?_
  show z ∈ xs.foldl _ [] ↔ _
  rw [h2 z, h z]; simp
/-- Day by day the tasks whose latest day it is. -/
def trnA (late : List Int) (n : Nat) (d : Nat) (j : Nat) : List Nat := (List.range j).filter fun i => decide (gI late i = (d : Int))
def trnK (late : List Int) (n : Nat) : Nat → List Nat
  | 0 => []
  | d + 1 => trnK late n d ++ trnA late n d n
theorem trnA_next (late : List Int) (n d j : Nat) : trnA late n d (j + 1) = if gI late j = (d : Int) then trnA late n d j ++ [j] else trnA late n d j := by
  unfold trnA; rw [List.range_succ, List.filter_append]
  by_cases h : gI late j = (d : Int)
  · rw [if_pos h]; simp [h]
  · rw [if_neg h]; simp [h]
theorem trnK_mem {late : List Int} {n : Nat} : ∀ {d z : Nat}, z ∈ trnK late n d ↔ z < n ∧ 0 ≤ gI late z ∧ gI late z < d
  | 0, z => ⟨fun h => (by cases h), fun h => (by omega)⟩
  | d + 1, z => by
    rw [trnK, List.mem_append, trnK_mem]
    unfold trnA
    rw [List.mem_filter, List.mem_range, decide_eq_true_eq]
    omega
theorem range_lt (n : Nat) : (List.range n).Pairwise (· < ·) := List.pairwise_lt_range
theorem trnK_sorted {late : List Int} {n : Nat} : ∀ d : Nat, (trnK late n d).Pairwise (lexL late)
  | 0 => List.Pairwise.nil
  | d + 1 => by
    rw [trnK, List.pairwise_append]
    refine ⟨trnK_sorted d, ?_, fun a ha b hb => ?_⟩
    · unfold trnA
      have h1 : ((List.range n).filter fun i => decide (gI late i = (d : Int))).Pairwise (· < ·) := (range_lt n).filter _
      refine List.Pairwise.imp_of_mem (fun {a b} ha hb hab => ?_) h1
      rw [List.mem_filter, decide_eq_true_eq] at ha hb
      exact .inr ⟨by omega, hab⟩
    · unfold trnA at hb
      rw [List.mem_filter, decide_eq_true_eq] at hb
      have := trnK_mem.1 ha
      exact .inl (by omega)
def trn (l : List Tk) : List Nat := trnK (latP l) l.length (endsV l (latP l) + 1).toNat
theorem lat_pos {l : List Tk} (h : okP l) {i : Nat} (hi : i < l.length) : 0 ≤ gI (latP l) i := Int.le_trans (ear_pos h i) (ear_lat h i hi)
theorem trn_is {l : List Tk} (h : okP l) : isTr l (trn l) := by
  have hs := trnK_sorted (late := latP l) (n := l.length) (endsV l (latP l) + 1).toNat
  refine ⟨?_, fun i => ?_⟩
  · exact hs.imp fun {a b} hab e => by subst e; exact lexL.irr hab
  · unfold trn; rw [trnK_mem]
    constructor
    · exact fun hh => hh.1
    · intro hi
      have h1 := (ends_spec l (latP l)).2.1 i hi
      have h2 := (dy_bd h hi).1
      have h3 := lat_pos h hi
      have h4 := (ends_spec l (latP l)).1
      exact ⟨hi, h3, by omega⟩
theorem trn_sorted (l : List Tk) : (trn l).Pairwise (lexL (latP l)) := trnK_sorted _
/-- The program's free tasks, sorted, are the turn's. -/
theorem free_sorted {l : List Tk} (h : okP l) (p : Nat → Bool) : isortV (latP l) ((List.range l.length).filter p) = (trn l).filter p := by
  refine isortV_is ((range_lt _).filter _) ((trn_sorted l).filter _) fun z => ?_
  rw [List.mem_filter, List.mem_filter, (trn_is h).mem, List.mem_range]
def stP (l : List Tk) (d : Int) (q : Int × Sc) (i : Nat) : Int × Sc := if mnA l i ≤ q.1 then (q.1 - mnA l i, q.2.1.set i d, q.2.2 ++ [i]) else q
theorem dayP_fold {l : List Tk} {most d : Int} {s : Sc} (hP : okP l) (hs : s.1.length = l.length) : ∀ {post pre : List Nat} {t : Sc}, (pre ++ post).Nodup → (∀ i ∈ post, i < l.length) → Day l most d s pre t →
    (post.filter (rdD l s.1 s.2 d)).foldl (stP l d) (most - runL l t.1 t.2 d, t) = (most - runL l (post.foldl (stR l most d) t).1 (post.foldl (stR l most d) t).2 d, post.foldl (stR l most d) t)
  | [], pre, t, _, _, h => rfl
  | i :: post, pre, t, hn, hl, h => by
    have hp : i ∉ pre := fun hh => by
      rw [List.nodup_append] at hn
      exact hn.2.2 i hh i (List.mem_cons_self ..) rfl
    have hi := hl i (List.mem_cons_self ..)
    have h1 := h.step hP hs hi hp
    have h2 := dayP_fold hP hs (post := post) (pre := pre ++ [i]) (by simpa using hn) (fun j hj => hl j (List.mem_cons_of_mem _ hj)) h1
    rw [List.foldl_cons, ← h2, List.filter_cons]
    have hr := h.rd hP hi hp
    by_cases hq : rdD l s.1 s.2 d i = true
    · rw [if_pos hq, List.foldl_cons]
      rw [hq] at hr
      congr 1
      have hni : i ∉ t.2 := fun hh => (rdD_iff.1 hr).1 hh
      unfold stP stR
      rw [hr, Bool.true_and]
      by_cases hm : mnA l i + runL l t.1 t.2 d ≤ most
      · rw [if_pos (show mnA l i ≤ most - runL l t.1 t.2 d by omega), if_pos (by simpa using hm)]
        show (_, _) = (most - runL l (t.1.set i d) (t.2 ++ [i]) d, (t.1.set i d, t.2 ++ [i]))
        rw [runL_add hP (by rw [h.len]; exact hs) hi hni]
        congr 1
        omega
      · rw [if_neg (show ¬ mnA l i ≤ most - runL l t.1 t.2 d by omega), if_neg (by simpa using hm)]
    · have hq' : rdD l s.1 s.2 d i = false := by simpa using hq
      rw [if_neg hq]
      rw [hq'] at hr
      have : stR l most d t i = t := by unfold stR; rw [hr]; rfl
      rw [this]
theorem dayP_eq {l : List Tk} {most : Int} {d : Nat} {s : Sc} (hP : okP l) (h : Inv l most d s) (h2 : Inv2 l most d s) (hm : 0 ≤ most) :
    ((isortV (latP l) ((List.range l.length).filter (rdD l s.1 s.2 d))).foldl (stP l d) (most - runL l s.1 s.2 d, s)).2 = dayR l most (trn l) d s := by
  rw [free_sorted hP]
  have hT := trn_is hP
  rw [dayP_fold hP h.len (pre := []) (by simpa using hT.nd) (fun i hi => (hT.mem i).1 hi) (Day.begin hP h h2 hm)]
  rfl

/-! ### the whole listing -/
def totD (l : List Tk) : Int := sN (dyA l) l.length
structure Run (l : List Tk) (most : Int) (d : Nat) : Prop where
  inv : Inv l most d (schK l most (trn l) d)
  inv2 : Inv2 l most d (schK l most (trn l) d)
theorem Run.zeroth (l : List Tk) (most : Int) : Run l most 0 := ⟨Inv.zeroth l most, Inv2.zeroth l most⟩
theorem Run.next {l : List Tk} {most : Int} {d : Nat} (hP : okP l) (hm : ∀ i, i < l.length → mnA l i ≤ most) (h : Run l most d) (hs : (schK l most (trn l) d).2.length < l.length) : Run l most (d + 1) := by
  have hm0 : 0 ≤ most := by have := hm 0 hP.pos; have := (mnA_bd hP hP.pos).1; omega
  have hT := trn_is hP
  exact ⟨h.inv.next hP (Day.all hP hT h.inv h.inv2 hm0), h.inv2.next hP hT h.inv hm hs⟩
theorem sN_mono {f : Nat → Int} {m n : Nat} (h : m ≤ n) (hf : ∀ k, 0 ≤ f k) : sN f m ≤ sN f n := by
  induction n with
  | zero => rw [show m = 0 by omega]; exact Int.le_refl _
  | succ n ih =>
    by_cases e : m = n + 1
    · rw [e]; exact Int.le_refl _
    · have := ih (by omega)
      have := hf n
      show sN f m ≤ sN f n + f n
      omega
/-- Days on which something goes on are no more than all days of work. -/
theorem busy_days {l : List Tk} (hP : okP l) {out : List Int} (h0 : ∀ j, j < l.length → 0 ≤ gI out j) {D : Nat} (h : ∀ e : Nat, e < D → ∃ j, j < l.length ∧ gI out j ≤ e ∧ (e : Int) < gI out j + dyA l j) : (D : Int) ≤ totD l := by
  obtain ⟨M, hM1, hM2⟩ : ∃ M : Nat, D ≤ M ∧ ∀ j, j < l.length → gI out j + dyA l j ≤ M := by
    refine ⟨D + (endsV l out).toNat, by omega, fun j hj => ?_⟩
    have := (ends_spec l out).2.1 j hj
    have := (ends_spec l out).1
    omega
  have h1 : (D : Int) ≤ sN (fun e => sN (fun j => if gI out j ≤ (e : Int) ∧ (e : Int) < gI out j + dyA l j then 1 else 0) l.length) D := by
    have : sN (fun _ => (1 : Int)) D = D := by
      induction D with
      | zero => rfl
      | succ D ih =>
        show sN _ D + 1 = _
        have : ∀ n : Nat, sN (fun _ => (1 : Int)) n = n := fun n => by
          induction n with
          | zero => rfl
          | succ n ih => show sN _ n + 1 = _; rw [ih]; omega
        rw [this]; omega
    rw [← this]
    rw [show sN (fun _ => (1 : Int)) D = (D : Int) from this]
    rw [← this]
    refine sN_le fun e he => ?_
    obtain ⟨j, hj, hb⟩ := h e he
    have := sN_one (fun j => if gI out j ≤ (e : Int) ∧ (e : Int) < gI out j + dyA l j then (1 : Int) else 0) hj (fun k _ => by (try dsimp only); split <;> omega)
    (try dsimp only at this)
    rw [if_pos hb] at this
    exact this
  refine Int.le_trans h1 (Int.le_trans (sN_mono hM1 fun e => sN_nonneg fun k _ => by (try dsimp only); split <;> omega) ?_)
  rw [← sN_swap]
  refine sN_le fun j hj => ?_
  have := sN_stretch (c := 1) (h0 j hj) (show 0 ≤ dyA l j by have := (dy_bd hP hj).1; omega) M (hM2 j hj)
  rw [Int.one_mul] at this
  exact Int.le_of_eq this
theorem Run.bd {l : List Tk} {most : Int} {d : Nat} (hP : okP l) (h : Run l most d) : (d : Int) ≤ totD l := by
  refine busy_days hP (out := (schK l most (trn l) d).1) (fun j hj => ?_) fun e he => ?_
  · by_cases hB : j ∈ (schK l most (trn l) d).2
    · exact (h.inv.early j hB).1
    · rw [h.inv.zero j hB]; exact Int.le_refl _
  · obtain ⟨j, h1, h2, h3⟩ := h.inv2.busy e he
    exact ⟨j, h.inv.lt j h1, h2, h3⟩
theorem Inv.full {l : List Tk} {most : Int} {d : Nat} {s : Sc} (h : Inv l most d s) (hf : ¬ s.2.length < l.length) {i : Nat} (hi : i < l.length) : i ∈ s.2 := by
  apply Classical.byContradiction
  intro hn
  have : (i :: s.2).length ≤ l.length := nodup_len (List.nodup_cons.2 ⟨hn, h.nd⟩) fun x hx => by
    rcases List.mem_cons.1 hx with rfl | hx
    · exact hi
    · exact h.lt x hx
  rw [List.length_cons] at this
  omega
theorem Inv.len_le {l : List Tk} {most : Int} {d : Nat} {s : Sc} (h : Inv l most d s) : s.2.length ≤ l.length := nodup_len h.nd h.lt
theorem full_stay {l : List Tk} {most d : Int} {s : Sc} (hf : ∀ i, i < l.length → i ∈ s.2) : ∀ {tr : List Nat}, (∀ i ∈ tr, i < l.length) → tr.foldl (stR l most d) s = s
  | [], _ => rfl
  | i :: tr, h => by
    have : stR l most d s i = s := by
      unfold stR rdD
      rw [contains_iff.2 (hf i (h i (List.mem_cons_self ..)))]
      rfl
    rw [List.foldl_cons, this]
    exact full_stay hf fun j hj => h j (List.mem_cons_of_mem _ hj)
theorem schK_stay {l : List Tk} {most : Int} {d : Nat} (hP : okP l) (hf : ∀ i, i < l.length → i ∈ (schK l most (trn l) d).2) : ∀ m, schK l most (trn l) (d + m) = schK l most (trn l) d
  | 0 => rfl
  | m + 1 => by
    show dayR l most (trn l) (d + m : Nat) (schK l most (trn l) (d + m)) = _
    rw [schK_stay hP hf m]
    exact full_stay hf fun i hi => ((trn_is hP).mem i).1 hi
/-- The schedule that is listed. -/
def LST (l : List Tk) (most : Int) : List Int := (schK l most (trn l) (totD l).toNat).1
theorem sch_done {l : List Tk} {most : Int} {d : Nat} (hP : okP l) (h : Run l most d) (hf : ¬ (schK l most (trn l) d).2.length < l.length) : (schK l most (trn l) d).1 = LST l most := by
  have h1 := h.bd hP
  have := schK_stay hP (fun i hi => h.inv.full hf hi) ((totD l).toNat - d)
  unfold LST
  rw [← this]
  congr 2
  omega
/-- There is a day on which all have begun. -/
theorem sch_ends {l : List Tk} {most : Int} (hP : okP l) (hm : ∀ i, i < l.length → mnA l i ≤ most) : ∃ D, Run l most D ∧ ¬ (schK l most (trn l) D).2.length < l.length := by
  apply Classical.byContradiction
  intro hno
  have key : ∀ d, Run l most d := by
    intro d
    induction d with
    | zero => exact Run.zeroth l most
    | succ d ih => exact ih.next hP hm (Classical.byContradiction fun hh => hno ⟨d, ih, hh⟩)
  have := (key ((totD l).toNat + 1)).bd hP
  omega
/-- Men at work on a day. -/
def menV (l : List Tk) (days : List Int) (e : Int) : Int := sN (fun k => if gI days k ≤ e ∧ e < gI days k + dyA l k then mnA l k else 0) l.length
structure Lst (l : List Tk) (most : Int) (out : List Int) : Prop where
  len : out.length = l.length
  pos : ∀ i, i < l.length → 0 ≤ gI out i ∧ gI out i ≤ totD l
  aft : ∀ i, i < l.length → ∀ a ∈ afs l i, gI out a + dyA l a ≤ gI out i
  crew : ∀ e : Int, menV l out e ≤ most
  busy : ∀ e : Int, 0 ≤ e → e < endsV l out → 1 ≤ menV l out e
theorem menV_one {l : List Tk} (hP : okP l) {out : List Int} {e : Int} {j : Nat} (hj : j < l.length) (h : gI out j ≤ e ∧ e < gI out j + dyA l j) : 1 ≤ menV l out e := by
  have h1 := (mnA_bd hP hj).1
  have := sN_one (fun k => if gI out k ≤ e ∧ e < gI out k + dyA l k then mnA l k else 0) hj (fun k hk => by have := (mnA_bd hP hk).1; (try dsimp only); split <;> omega)
  (try dsimp only at this)
  rw [if_pos h] at this
  unfold menV
  omega
theorem LST_is {l : List Tk} {most : Int} (hP : okP l) (hm : ∀ i, i < l.length → mnA l i ≤ most) : Lst l most (LST l most) := by
  obtain ⟨D, hR, hf⟩ := sch_ends hP hm
  rw [← sch_done hP hR hf]
  have hfull := fun i (hi : i < l.length) => hR.inv.full hf hi
  have hbd := hR.bd hP
  have hmen : ∀ e : Int, menB l (schK l most (trn l) D).1 (schK l most (trn l) D).2 e = menV l (schK l most (trn l) D).1 e := fun e => sN_congr fun k hk => by
    unfold mnF
    rw [contains_iff.2 (hfull k hk)]
    by_cases h : gI (schK l most (trn l) D).1 k ≤ e ∧ e < gI (schK l most (trn l) D).1 k + dyA l k
    · rw [if_pos h, if_pos (by simpa using h)]
    · rw [if_neg h, if_neg (by simpa using h)]
  have hm0 : 0 ≤ most := by have := hm 0 hP.pos; have := (mnA_bd hP hP.pos).1; omega
  have hD0 : 0 < D := by
    rcases Nat.eq_zero_or_pos D with rfl | h
    · have := hfull 0 hP.pos
      cases this
    · exact h
  refine ⟨hR.inv.len, fun i hi => ?_, fun i hi a ha => (hR.inv.aft i (hfull i hi) a ha).2, fun e => ?_, fun e he hend => ?_⟩
  · have := hR.inv.early i (hfull i hi); omega
  · by_cases h0 : e < 0
    · refine Int.le_trans (Int.le_of_eq ?_) hm0
      exact sN_zero fun k hk => by
        have := (hR.inv.early k (hfull k hk)).1
        (try dsimp only)
        rw [if_neg (by omega)]
    · by_cases h1 : e < D
      · have := hR.inv2.crew e.toNat (by omega)
        rw [show ((e.toNat : Nat) : Int) = e by omega, hmen] at this
        exact this
      · have := hR.inv2.crew (D - 1) (by omega)
        rw [hmen] at this
        refine Int.le_trans (sN_le fun k hk => ?_) this
        have h3 := (hR.inv.early k (hfull k hk)).2
        have h4 := (mnA_bd hP hk).1
        (try dsimp only)
        by_cases h5 : gI (schK l most (trn l) D).1 k ≤ e ∧ e < gI (schK l most (trn l) D).1 k + dyA l k
        · rw [if_pos h5, if_pos (by omega)]; exact Int.le_refl _
        · rw [if_neg h5]; split <;> omega
  · by_cases h1 : e < D
    · obtain ⟨j, b1, b2, b3⟩ := hR.inv2.busy e.toNat (by omega)
      have h2 : ((e.toNat : Nat) : Int) = e := by omega
      rw [h2] at b2 b3
      exact menV_one hP (hR.inv.lt j b1) ⟨b2, b3⟩
    · rcases (ends_spec l (schK l most (trn l) D).1).2.2 with h2 | ⟨i, hi, h2⟩
      · omega
      · have h3 := (hR.inv.early i (hfull i hi)).2
        exact menV_one hP hi (by omega)
end Go.Proofs.Ytgijekhlbkfanaa

namespace Go.Proofs.Ytgijekhlbkfanaa
open Go.RowKit Go.Shelf
attribute [local go_sem] Later.cell Same.cell

def dysB (days : List Int) : Bool := days.all fun d => wi d 0 100000
theorem dysB_bd {days : List Int} (h : dysB days = true) : bdE 1000000 days := fun i => by
  unfold gI
  by_cases hi : i < days.length
  · rw [List.getElem?_eq_getElem hi]
    have := wi_iff.1 (List.all_eq_true.1 h _ (List.getElem_mem hi))
    show 0 ≤ days[i] ∧ days[i] ≤ _
    omega
  · rw [List.getElem?_eq_none (by omega)]
    show (0 : Int) ≤ 0 ∧ (0 : Int) ≤ 1000000
    omega
theorem dysB_no {days : List Int} {k : Nat} (hk : k < days.length) (h : wi (gI days k) 0 100000 = false) : dysB days = false := by
  cases hd : dysB days with
  | false => rfl
  | true =>
    have := List.all_eq_true.1 hd _ (List.getElem_mem hk)
    rw [show gI days k = days[k] from by unfold gI; rw [List.getElem?_eq_getElem hk]; rfl] at h
    rw [this] at h; cases h
theorem dysB_yes {days : List Int} (h : ∀ k, k < days.length → wi (gI days k) 0 100000 = true) : dysB days = true := by
  unfold dysB
  rw [List.all_eq_true]
  intro x hx
  obtain ⟨k, hk, rfl⟩ := List.getElem_of_mem hx
  have := h k hk
  rw [show gI days k = days[k] from by unfold gI; rw [List.getElem?_eq_getElem hk]; rfl] at this
  exact this
def bgB (l : List Tk) (days : List Int) : Bool := decide (days.length = l.length) && dysB days
def endE (l : List Tk) (days : List Int) : Int := if checkE l = 0 then (if bgB l days = true then 0 else 7) else checkE l
def endV (l : List Tk) (days : List Int) : Int := if endE l days = 0 then endsV l days else 0
set_option maxHeartbeats 1000000 in
theorem begin1_any (d : Int) (w : World) : Calls Try.prog 117 #[.int .i64 d] w fun e w' => e = .returned (.bool (!wi d 0 100000)) ∧ w = w' := by
  have c1 := fun W => jwithin_any d 0 100000 W
  generalize wi d 0 100000 = b at *
  have C1 := Lib.hid c1
  clear c1
  go_enter Try.func117, Try.ntmps117
  go_wp2_with fail
  refine (C1.out _).mono ?_
  rintro e w1 ⟨rfl, rfl⟩
  go_wp2
  go_ret
  exact ⟨rfl, rfl⟩
set_option maxRecDepth 20000 in
set_option maxHeartbeats 2000000 in
theorem begIdx_any (A : Option Addr) (len cap : Nat) (days : List Int) (w : World) (hm : len ≤ 9223372036854775807) (hx : Ints w w.heap.size A len days) :
    Calls Try.prog 123 #[.slice A len cap, .func (.func 117) #[] #[]] w fun e w' => (∃ R : Int, e = .returned (.int .i64 R) ∧ decide (0 ≤ R) = !dysB days) ∧ w = w' := by
  obtain rfl : days.length = len := hx.1
  have HX := Lib.hid hx
  clear hx
  go_enter Try.func123, Try.ntmps123
  go_wp2
  go_loopw [8] (fun i W => ∃ k : Nat, k ≤ days.length ∧ i = .int .i64 k ∧ Hid (∀ j, j < k → wi (gI days j) 0 100000 = true) ∧ w = W) (fun i _ => days.length - (intOf i).toNat)
  case atStart => exact ⟨0, Nat.zero_le _, rfl, Lib.hid (fun j hj => absurd hj (by omega)), rfl⟩
  case round =>
    obtain ⟨k, hk, rfl, hT, rfl⟩ := hrel
    by_cases hlt : k < days.length
    · obtain ⟨b, off, rfl, hb0, hc1⟩ := HX.out.at_ k hlt
      change w.cell? _ = some (.int .i64 (gI days k)) at hc1
      have c2 := begin1_any (gI days k) w
      have hk1 : (k : Int) < days.length := by omega
      have hk2 : ¬ days.length ≤ k := by omega
      cases hv : wi (gI days k) 0 100000
      · have HF : Hid (decide ((0 : Int) ≤ (k : Int)) = !dysB days) := Lib.hid (by rw [dysB_no hlt hv]; simp)
        rw [hv] at c2
        generalize gI days k = X at *
        have C2 := Lib.hid c2
        clear c2 hT hv
        go_wp2_with fail
        refine C2.out.mono ?_
        rintro e w1 ⟨rfl, rfl⟩
        go_wp2
        go_ret
        exact ⟨⟨_, rfl, HF.out⟩, rfl⟩
      · have hT2 : Hid (∀ j, j < k + 1 → wi (gI days j) 0 100000 = true) := Lib.hid (fun j hj => if e : j = k then (by rw [e]; exact hv) else hT.out j (by omega))
        rw [hv] at c2
        generalize gI days k = X at *
        have C2 := Lib.hid c2
        clear c2 hT hv
        go_wp2_with fail
        refine C2.out.mono ?_
        rintro e w1 ⟨rfl, rfl⟩
        go_wp2
        go_roundw
        case rel => exact ⟨k + 1, by omega, by go_num, hT2, by first | rfl | trivial⟩
        case measure => simp [intOf]; omega
    · have hk1 : ¬ (k : Int) < days.length := by omega
      have HF : Hid (decide ((0 : Int) ≤ -1) = !dysB days) := Lib.hid (by rw [dysB_yes fun j hj => hT.out j (by omega)]; rfl)
      clear hT
      go_wp2
      go_ret
      exact ⟨⟨_, rfl, HF.out⟩, rfl⟩
set_option maxHeartbeats 1000000 in
theorem begAny_any (A : Option Addr) (len cap : Nat) (days : List Int) (w : World) (hm : len ≤ 9223372036854775807) (hx : Ints w w.heap.size A len days) :
    Calls Try.prog 116 #[.slice A len cap, .func (.func 117) #[] #[]] w fun e w' => e = .returned (.bool (!dysB days)) ∧ w = w' := by
  have c1 := begIdx_any A len cap days w hm hx
  generalize dysB days = M at *
  have C1 := Lib.hid c1
  clear c1 hx
  go_enter Try.func116, Try.ntmps116
  go_wp2_with fail
  refine C1.out.mono ?_
  rintro e w1 ⟨⟨R, rfl, hR⟩, rfl⟩
  have HR := Lib.hid hR
  clear hR
  go_wp2
  go_ret
  exact ⟨ret_bool HR.out, rfl⟩
set_option maxHeartbeats 2000000 in
theorem begins_any (A : Option Addr) (len cap : Nat) (l : List Tk) (A' : Option Addr) (len' cap' : Nat) (days : List Int) (w : World) (hm : len ≤ 9223372036854775807) (hm' : len' ≤ 9223372036854775807) (hl : l.length = len) (hx : Ints w w.heap.size A' len' days) :
    Calls Try.prog 92 #[.slice A len cap, .slice A' len' cap'] w fun e w' => e = .returned (.bool (bgB l days)) ∧ w = w' := by
  obtain rfl : days.length = len' := hx.1
  subst hl
  have c1 := begAny_any A' days.length cap' days w hm' hx
  have HB : Hid (bgB l days = (decide (days.length = l.length) && dysB days)) := Lib.hid rfl
  generalize bgB l days = M at *
  generalize dysB days = D at *
  have C1 := Lib.hid c1
  clear c1 hx
  go_enter Try.func92, Try.ntmps92
  by_cases h : days.length = l.length
  · have h1 : (days.length : Int) = l.length := by omega
    have HF : Hid (M = D) := Lib.hid (by rw [HB.out, decide_eq_true h, Bool.true_and])
    have h2 : ((days.length : Int) == (l.length : Int)) = true := by simpa using h1
    clear HB h
    go_wp2_with fail
    refine C1.out.mono ?_
    rintro e w1 ⟨rfl, rfl⟩
    go_wp2
    go_ret
    exact ⟨by rw [HF.out]; simp, rfl⟩
  · have HF : Hid (M = false) := Lib.hid (by rw [HB.out, decide_eq_false h, Bool.false_and])
    have h2 : ((days.length : Int) == (l.length : Int)) = false := by simpa using (show ¬ (days.length : Int) = l.length by omega)
    clear HB
    go_wp2
    go_ret
    exact ⟨by rw [HF.out]; rfl, rfl⟩
set_option maxHeartbeats 4000000 in
theorem Ends_any (A : Option Addr) (len cap : Nat) (l : List Tk) (A' : Option Addr) (len' cap' : Nat) (days : List Int) (w : World) (hS : Sml l) (hm' : len' ≤ 9223372036854775807) (hx : Plan w w.heap.size A len l) (hy : Ints w w.heap.size A' len' days) :
    Calls Try.prog 46 #[.slice A len cap, .slice A' len' cap'] w fun e w' => e = .returned (.tuple #[.int .i64 (endV l days), .int .i64 (endE l days)]) ∧ Below w.heap.size w w' := by
  have hl := hx.1
  have c1 := Check_any A len cap l w hS hx
  have c2 := fun W (h : Below w.heap.size w W) => begins_any A len cap l A' len' cap' days W (by have := hS.len; omega) hm' hl ((hy.below h).more h.size)
  by_cases h0 : checkE l = 0
  · have hP := check_spec h0
    rw [h0] at c1
    cases hb : bgB l days
    · rw [hb] at c2
      have hE : endE l days = 7 := by unfold endE; rw [if_pos h0, hb]; rfl
      have hV : endV l days = 0 := by unfold endV; rw [hE]; rfl
      rw [hE, hV]
      have C1 := Lib.hid c1
      have C2 := Lib.hid c2
      clear c1 c2 hx hy hE hV h0 hP hb hl
      go_enter Try.func46, Try.ntmps46
      go_wp2_with fail
      refine C1.out.mono ?_
      rintro e w1 ⟨rfl, hb⟩
      have hB_w1 : Below w.heap.size w w1 := (by repeat (first | exact Below.refl _ _ | assumption | refine Below.setCell ?_ (by first | (simp; done) | (simp; omega) | omega) _ | refine Below.drew ?_ | refine below_drewN ?_ _ | refine Below.alloc ?_ (by first | (simp; done) | (simp; omega) | omega) _ | refine below_alloc ?_ _ | refine below_step ?_ (by assumption))); have hz_w1 := hB_w1.size; clear hb
      go_wp2_with fail
      refine (C2.out _ hB_w1).mono ?_
      rintro e w2 ⟨rfl, rfl⟩
      go_wp2
      go_ret2
      exact ⟨rfl, hB_w1⟩
    · rw [hb] at c2
      have hE : endE l days = 0 := by unfold endE; rw [if_pos h0, hb]; rfl
      have hV : endV l days = endsV l days := by unfold endV; rw [hE]; rfl
      have hbb := hb
      unfold bgB at hbb
      rw [Bool.and_eq_true, decide_eq_true_eq] at hbb
      have hll : days.length = len' := hy.1
      have hle : len' = len := by omega
      subst hle
      have c3 := fun W (h : Below w.heap.size w W) => ends_any A len' cap l A' cap' days W hP (hx.go h) ((hy.below h).more h.size) (dysB_bd hbb.2)
      rw [hE, hV]
      generalize endsV l days = V at *
      have C1 := Lib.hid c1
      have C2 := Lib.hid c2
      have C3 := Lib.hid c3
      clear c1 c2 c3 hx hy hE hV h0 hP hb hbb hl hll
      go_enter Try.func46, Try.ntmps46
      go_wp2_with fail
      refine C1.out.mono ?_
      rintro e w1 ⟨rfl, hb⟩
      have hB_w1 : Below w.heap.size w w1 := (by repeat (first | exact Below.refl _ _ | assumption | refine Below.setCell ?_ (by first | (simp; done) | (simp; omega) | omega) _ | refine Below.drew ?_ | refine below_drewN ?_ _ | refine Below.alloc ?_ (by first | (simp; done) | (simp; omega) | omega) _ | refine below_alloc ?_ _ | refine below_step ?_ (by assumption))); have hz_w1 := hB_w1.size; clear hb
      go_wp2_with fail
      refine (C2.out _ hB_w1).mono ?_
      rintro e w2 ⟨rfl, rfl⟩
      go_wp2_with fail
      refine (C3.out _ hB_w1).mono ?_
      rintro e w3 ⟨rfl, hb⟩
      have hB3 := hB_w1.trans (hb.mono hB_w1.size)
      clear hb
      go_wp2
      go_ret2
      exact ⟨rfl, hB3⟩
  · have hE : endE l days = checkE l := by unfold endE; rw [if_neg h0]
    have hV : endV l days = 0 := by unfold endV; rw [hE, if_neg h0]
    rw [hE, hV]
    have hne : (checkE l == 0) = false := by simpa using h0
    generalize checkE l = E at *
    have C1 := Lib.hid c1
    clear c1 c2 hx hy hE hV h0 hl
    go_enter Try.func46, Try.ntmps46
    go_wp2_with fail
    refine C1.out.mono ?_
    rintro e w1 ⟨rfl, hb⟩
    have hB_w1 : Below w.heap.size w w1 := (by repeat (first | exact Below.refl _ _ | assumption | refine Below.setCell ?_ (by first | (simp; done) | (simp; omega) | omega) _ | refine Below.drew ?_ | refine below_drewN ?_ _ | refine Below.alloc ?_ (by first | (simp; done) | (simp; omega) | omega) _ | refine below_alloc ?_ _ | refine below_step ?_ (by assumption))); have hz_w1 := hB_w1.size; clear hb
    go_wp2
    go_ret2
    exact ⟨rfl, hB_w1⟩
def lngV (l : List Tk) (k : Nat) : Int := sN (fun i => if 0 < dyA l i ∧ dyA l i ≤ 1000 then dyA l i else 0) k
theorem lngV_bd (l : List Tk) : ∀ k : Nat, 0 ≤ lngV l k ∧ lngV l k ≤ 1000 * k
  | 0 => by show (0 : Int) ≤ 0 ∧ (0 : Int) ≤ _; omega
  | k + 1 => by
    have := lngV_bd l k
    show 0 ≤ lngV l k + (if 0 < dyA l k ∧ dyA l k ≤ 1000 then dyA l k else 0) ∧ lngV l k + (if 0 < dyA l k ∧ dyA l k ≤ 1000 then dyA l k else 0) ≤ _
    split <;> omega
set_option maxRecDepth 20000 in
set_option maxHeartbeats 4000000 in
theorem long_any (A : Option Addr) (len cap : Nat) (l : List Tk) (w : World) (hm : len ≤ 1000) (hx : Plan w w.heap.size A len l) :
    Calls Try.prog 44 #[.slice A len cap] w fun e w' => e = .returned (.bool (decide (1500 < lngV l l.length))) ∧ Below w.heap.size w w' := by
  obtain rfl : l.length = len := hx.1
  have HX := Lib.hid hx
  clear hx
  go_enter Try.func44, Try.ntmps44
  go_wp2
  go_loopw [3, 4] (fun v i W => ∃ k : Nat, k ≤ l.length ∧ i = .int .i64 k ∧ v = .int .i64 (lngV l k) ∧ Below w.heap.size w W) (fun _ i _ => l.length - (intOf i).toNat)
  case atStart => exact ⟨0, Nat.zero_le _, rfl, rfl, Below.refl _ _⟩
  case round =>
    obtain ⟨k, hk, rfl, rfl, hB⟩ := hrel
    by_cases hlt : k < l.length
    · obtain ⟨b, off, rfl, hb0, -, hc2, -, -⟩ := (HX.out.below hB).at_ k hlt
      have hk1 : (k : Int) < l.length := by omega
      have hk2 : ¬ l.length ≤ k := by omega
      have hbd := lngV_bd l k
      have hn : lngV l (k + 1) = lngV l k + (if 0 < (tkA l k).dy ∧ (tkA l k).dy ≤ 1000 then (tkA l k).dy else 0) := rfl
      generalize (tkA l k).dy = Y at *
      generalize lngV l k = L at *
      by_cases h1 : 0 < Y
      · by_cases h2 : Y ≤ 1000
        · have HN : Hid (lngV l (k + 1) = L + Y) := Lib.hid (by rw [hn, if_pos ⟨h1, h2⟩])
          have hwr : wrap64 (L + Y) = L + Y := IntWalk.wrap64_in _ ⟨by omega, by omega⟩
          clear hn
          go_wp2
          go_roundw
          case rel => exact ⟨k + 1, by omega, by go_num, by rw [HN.out], hB⟩
          case measure => simp [intOf]; omega
        · have HN : Hid (lngV l (k + 1) = L) := Lib.hid (by rw [hn, if_neg (by omega)]; omega)
          clear hn
          go_wp2
          go_roundw
          case rel => exact ⟨k + 1, by omega, by go_num, by rw [HN.out], hB⟩
          case measure => simp [intOf]; omega
      · have HN : Hid (lngV l (k + 1) = L) := Lib.hid (by rw [hn, if_neg (by omega)]; omega)
        clear hn
        go_wp2
        go_roundw
        case rel => exact ⟨k + 1, by omega, by go_num, by rw [HN.out], hB⟩
        case measure => simp [intOf]; omega
    · have hkl : k = l.length := by omega
      have hk1 : ¬ (k : Int) < l.length := by omega
      subst hkl
      have HB := Lib.hid hB
      clear hB
      go_wp2
      go_ret
      exact ⟨rfl, HB.out⟩
end Go.Proofs.Ytgijekhlbkfanaa

namespace Go.Proofs.Ytgijekhlbkfanaa
open Go.RowKit Go.Shelf
attribute [local go_sem] Later.cell Same.cell

def mnG (l : List Tk) (days : List Int) (e : Int) (k : Nat) : Int := if gI days k ≤ e ∧ e < gI days k + dyA l k then mnA l k else 0
theorem menV_is (l : List Tk) (days : List Int) (e : Int) : menV l days e = sN (mnG l days e) l.length := rfl
theorem mnG_bd {l : List Tk} (hP : okP l) (days : List Int) (e : Int) : ∀ k : Nat, k ≤ l.length → 0 ≤ sN (mnG l days e) k ∧ sN (mnG l days e) k ≤ 16 * k
  | 0, _ => by show (0 : Int) ≤ 0 ∧ (0 : Int) ≤ _; omega
  | k + 1, hk => by
    have h1 := mnG_bd hP days e k (by omega)
    have h2 := mnA_bd hP (i := k) (by omega)
    show 0 ≤ sN (mnG l days e) k + mnG l days e k ∧ sN (mnG l days e) k + mnG l days e k ≤ _
    rw [show mnG l days e k = if gI days k ≤ e ∧ e < gI days k + dyA l k then mnA l k else 0 from rfl]
    split <;> omega
set_option maxRecDepth 20000 in
set_option maxHeartbeats 8000000 in
theorem men_any (A : Option Addr) (len cap : Nat) (l : List Tk) (A' : Option Addr) (cap' : Nat) (days : List Int) (e0 : Int) (w : World) (hP : okP l) (hx : Plan w w.heap.size A len l) (hy : Ints w w.heap.size A' len days) (hd : bdE 1000000 days) :
    Calls Try.prog 96 #[.slice A len cap, .slice A' len cap', .int .i64 e0] w fun e w' => e = .returned (.int .i64 (menV l days e0)) ∧ Below w.heap.size w w' := by
  obtain rfl : l.length = len := hx.1
  have hL := hP.len
  have HX := Lib.hid hx
  have HY := Lib.hid hy
  have HP := Lib.hid hP
  have HM := Lib.hid (fun k hk => mnG_bd hP days e0 k hk)
  have HD := Lib.hid hd
  rw [menV_is]
  clear hx hy hP hd
  go_enter Try.func96, Try.ntmps96
  go_wp2
  go_loopw [7, 12] (fun v i W => ∃ k : Nat, k ≤ l.length ∧ i = .int .i64 (k : Int) ∧ v = .int .i64 (sN (mnG l days e0) k) ∧ Below w.heap.size w W) (fun _ i _ => l.length - (intOf i).toNat)
  case atStart => exact ⟨0, Nat.zero_le _, rfl, rfl, Below.refl _ _⟩
  case round =>
    obtain ⟨k, hk, rfl, rfl, hB⟩ := hrel
    have hbs := hB.size
    by_cases hlt : k < l.length
    · obtain ⟨b, off, rfl, hb0, hc1, hc2, hc3, A'', n, cc, hc4, -, -, -⟩ := (HX.out.below hB).at_ k hlt
      obtain ⟨b2, off2, rfl, hb2, hc6⟩ := (HY.out.below hB).at_ k hlt
      change wr.cell? _ = some (.int .i64 (gI days k)) at hc6
      have hk1 : (k : Int) < l.length := by omega
      have hk2 : ¬ l.length ≤ k := by omega
      have hb1 : b < wr.heap.size := by omega
      have hb3 : b2 < wr.heap.size := by omega
      have hbn2 : ¬ b2 = wr.heap.size := by omega
      have hm := HM.out k (by omega)
      have hnx : sN (mnG l days e0) (k + 1) = sN (mnG l days e0) k + mnG l days e0 k := rfl
      have hda := dy_bd HP.out hlt
      have hmz := mnA_bd HP.out hlt
      have hdg := HD.out k
      rw [show mnG l days e0 k = if gI days k ≤ e0 ∧ e0 < gI days k + (tkA l k).dy then (tkA l k).mn else 0 from rfl] at hnx
      change 1 ≤ (tkA l k).dy ∧ (tkA l k).dy ≤ 1000 at hda
      change 1 ≤ (tkA l k).mn ∧ (tkA l k).mn ≤ 16 at hmz
      generalize (tkA l k).nm = X at *
      generalize (tkA l k).dy = Y at *
      generalize (tkA l k).mn = Z at *
      generalize gI days k = G at *
      generalize sN (mnG l days e0) k = M at *
      have hwr : wrap64 (G + Y) = G + Y := IntWalk.wrap64_in _ ⟨by omega, by omega⟩
      have hwr2 : wrap64 (G + Y - 1) = G + Y - 1 := IntWalk.wrap64_in _ ⟨by omega, by omega⟩
      have hwr3 : wrap64 (M + Z) = M + Z := IntWalk.wrap64_in _ ⟨by omega, by omega⟩
      have hca : (wr.alloc (.cells #[.string X, .int .i64 Y, .int .i64 Z, .slice A'' n cc] 43)).cell? ⟨b2, off2 + k, none⟩ = some (.int .i64 G) := cell_kept hc6 (World.grownBy_alloc wr _ none) (fun r e => by cases e)
      have cw := fun W => jwithin_any e0 G (G + Y - 1) W
      by_cases hin : G ≤ e0 ∧ e0 < G + Y
      · rw [show wi e0 G (G + Y - 1) = true from wi_iff.2 ⟨by omega, by omega⟩] at cw
        rw [if_pos hin] at hnx
        have HNX := Lib.hid hnx
        have CW := Lib.hid cw
        clear hnx cw hin
        go_wp2_with fail
        (refine wp_region_later (by kernel_rfl) (by kernel_rfl) ?_; (repeat (go_big_quiet_step ((go_at_call 56; exact later_same (CW.out _))))); refine wpQuiet_nil ?_)
        intro w3 hb3'
        have t2 : w3.cell? ⟨wr.heap.size, 2, none⟩ = some (.int .i64 Z) := (hb3'.cell (p := ⟨wr.heap.size, 2, none⟩) (by simp)).trans (by simp)
        have hB3 : Below w.heap.size w w3 := (hB.alloc hbs _).trans (hb3'.mono (by simp; omega))
        clear hb3' hca
        go_wp2
        go_roundw
        case rel => exact ⟨k + 1, by omega, by go_num, by rw [HNX.out], hB3⟩
        case measure => simp [intOf]; omega
      · rw [show wi e0 G (G + Y - 1) = false from by cases h : wi e0 G (G + Y - 1) with | false => rfl | true => have := wi_iff.1 h; exact absurd ⟨this.1, by omega⟩ hin] at cw
        rw [if_neg hin] at hnx
        have HNX : Hid (sN (mnG l days e0) (k + 1) = M) := Lib.hid (by rw [hnx]; omega)
        have CW := Lib.hid cw
        clear hnx cw hin
        go_wp2_with fail
        (refine wp_region_later (by kernel_rfl) (by kernel_rfl) ?_; (repeat (go_big_quiet_step ((go_at_call 56; exact later_same (CW.out _))))); refine wpQuiet_nil ?_)
        intro w3 hb3'
        have hB3 : Below w.heap.size w w3 := (hB.alloc hbs _).trans (hb3'.mono (by simp; omega))
        clear hb3' hca
        go_wp2
        go_roundw
        case rel => exact ⟨k + 1, by omega, by go_num, by rw [HNX.out], hB3⟩
        case measure => simp [intOf]; omega
    · have hkl : k = l.length := by omega
      have hk1 : ¬ (k : Int) < l.length := by omega
      have HB := Lib.hid hB
      subst hkl
      clear hB
      go_wp2
      go_ret
      exact ⟨rfl, HB.out⟩
def menE (l : List Tk) (days : List Int) (d : Int) : Int := if checkE l = 0 then (if bgB l days = true then (if wi d 0 200000 = true then 0 else 7) else 7) else checkE l
def menX (l : List Tk) (days : List Int) (d : Int) : Int := if menE l days d = 0 then menV l days d else 0
set_option maxHeartbeats 4000000 in
theorem Men_any (A : Option Addr) (len cap : Nat) (l : List Tk) (A' : Option Addr) (len' cap' : Nat) (days : List Int) (d : Int) (w : World) (hS : Sml l) (hm' : len' ≤ 9223372036854775807) (hx : Plan w w.heap.size A len l) (hy : Ints w w.heap.size A' len' days) :
    Calls Try.prog 51 #[.slice A len cap, .slice A' len' cap', .int .i64 d] w fun e w' => e = .returned (.tuple #[.int .i64 (menX l days d), .int .i64 (menE l days d)]) ∧ Below w.heap.size w w' := by
  have hl := hx.1
  have c1 := Check_any A len cap l w hS hx
  have c2 := fun W (h : Below w.heap.size w W) => begins_any A len cap l A' len' cap' days W (by have := hS.len; omega) hm' hl ((hy.below h).more h.size)
  have c4 := fun W => jwithin_any d 0 200000 W
  by_cases h0 : checkE l = 0
  · have hP := check_spec h0
    rw [h0] at c1
    cases hb : bgB l days
    · rw [hb] at c2
      have hE : menE l days d = 7 := by unfold menE; rw [if_pos h0, hb]; rfl
      have hV : menX l days d = 0 := by unfold menX; rw [hE]; rfl
      rw [hE, hV]
      have C1 := Lib.hid c1
      have C2 := Lib.hid c2
      clear c1 c2 c4 hx hy hE hV h0 hP hb hl
      go_enter Try.func51, Try.ntmps51
      go_wp2_with fail
      refine C1.out.mono ?_
      rintro e w1 ⟨rfl, hb⟩
      have hB_w1 : Below w.heap.size w w1 := (by repeat (first | exact Below.refl _ _ | assumption | refine Below.setCell ?_ (by first | (simp; done) | (simp; omega) | omega) _ | refine Below.drew ?_ | refine below_drewN ?_ _ | refine Below.alloc ?_ (by first | (simp; done) | (simp; omega) | omega) _ | refine below_alloc ?_ _ | refine below_step ?_ (by assumption))); have hz_w1 := hB_w1.size; clear hb
      go_wp2_with fail
      refine (C2.out _ hB_w1).mono ?_
      rintro e w2 ⟨rfl, rfl⟩
      go_wp2_with fail
      go_ret2
      exact ⟨rfl, hB_w1⟩
    · rw [hb] at c2
      cases hw : wi d 0 200000
      · rw [hw] at c4
        have hE : menE l days d = 7 := by unfold menE; rw [if_pos h0, hb, hw]; rfl
        have hV : menX l days d = 0 := by unfold menX; rw [hE]; rfl
        rw [hE, hV]
        have C1 := Lib.hid c1
        have C2 := Lib.hid c2
        have C4 := Lib.hid c4
        clear c1 c2 c4 hx hy hE hV h0 hP hb hl hw
        go_enter Try.func51, Try.ntmps51
        go_wp2_with fail
        refine C1.out.mono ?_
        rintro e w1 ⟨rfl, hb⟩
        have hB_w1 : Below w.heap.size w w1 := (by repeat (first | exact Below.refl _ _ | assumption | refine Below.setCell ?_ (by first | (simp; done) | (simp; omega) | omega) _ | refine Below.drew ?_ | refine below_drewN ?_ _ | refine Below.alloc ?_ (by first | (simp; done) | (simp; omega) | omega) _ | refine below_alloc ?_ _ | refine below_step ?_ (by assumption))); have hz_w1 := hB_w1.size; clear hb
        go_wp2_with fail
        refine (C2.out _ hB_w1).mono ?_
        rintro e w2 ⟨rfl, rfl⟩
        go_wp2_with fail
        refine (C4.out _).mono ?_
        rintro e w2 ⟨rfl, rfl⟩
        go_wp2_with fail
        go_ret2
        exact ⟨rfl, hB_w1⟩
      · rw [hw] at c4
        have hE : menE l days d = 0 := by unfold menE; rw [if_pos h0, hb, hw]; rfl
        have hV : menX l days d = menV l days d := by unfold menX; rw [hE]; rfl
        have hbb := hb
        unfold bgB at hbb
        rw [Bool.and_eq_true, decide_eq_true_eq] at hbb
        have hll : days.length = len' := hy.1
        have hle : len' = len := by omega
        subst hle
        have c3 := fun W (h : Below w.heap.size w W) => men_any A len' cap l A' cap' days d W hP (hx.go h) ((hy.below h).more h.size) (dysB_bd hbb.2)
        rw [hE, hV]
        generalize menV l days d = V at *
        have C1 := Lib.hid c1
        have C2 := Lib.hid c2
        have C3 := Lib.hid c3
        have C4 := Lib.hid c4
        clear c1 c2 c3 c4 hx hy hE hV h0 hP hb hbb hl hll hw
        go_enter Try.func51, Try.ntmps51
        go_wp2_with fail
        refine C1.out.mono ?_
        rintro e w1 ⟨rfl, hb⟩
        have hB_w1 : Below w.heap.size w w1 := (by repeat (first | exact Below.refl _ _ | assumption | refine Below.setCell ?_ (by first | (simp; done) | (simp; omega) | omega) _ | refine Below.drew ?_ | refine below_drewN ?_ _ | refine Below.alloc ?_ (by first | (simp; done) | (simp; omega) | omega) _ | refine below_alloc ?_ _ | refine below_step ?_ (by assumption))); have hz_w1 := hB_w1.size; clear hb
        go_wp2_with fail
        refine (C2.out _ hB_w1).mono ?_
        rintro e w2 ⟨rfl, rfl⟩
        go_wp2_with fail
        refine (C4.out _).mono ?_
        rintro e w2 ⟨rfl, rfl⟩
        go_wp2_with fail
        refine (C3.out _ hB_w1).mono ?_
        rintro e w3 ⟨rfl, hb⟩
        have hB3 := hB_w1.trans (hb.mono hB_w1.size)
        clear hb
        go_wp2_with fail
        go_ret2
        exact ⟨rfl, hB3⟩
  · have hE : menE l days d = checkE l := by unfold menE; rw [if_neg h0]
    have hV : menX l days d = 0 := by unfold menX; rw [hE, if_neg h0]
    rw [hE, hV]
    have hne : (checkE l == 0) = false := by simpa using h0
    generalize checkE l = E at *
    have C1 := Lib.hid c1
    clear c1 c2 c4 hx hy hE hV h0 hl
    go_enter Try.func51, Try.ntmps51
    go_wp2_with fail
    refine C1.out.mono ?_
    rintro e w1 ⟨rfl, hb⟩
    have hB_w1 : Below w.heap.size w w1 := (by repeat (first | exact Below.refl _ _ | assumption | refine Below.setCell ?_ (by first | (simp; done) | (simp; omega) | omega) _ | refine Below.drew ?_ | refine below_drewN ?_ _ | refine Below.alloc ?_ (by first | (simp; done) | (simp; omega) | omega) _ | refine below_alloc ?_ _ | refine below_step ?_ (by assumption))); have hz_w1 := hB_w1.size; clear hb
    go_wp2_with fail
    go_ret2
    exact ⟨rfl, hB_w1⟩
end Go.Proofs.Ytgijekhlbkfanaa

namespace Go.Proofs.Ytgijekhlbkfanaa
open Go.RowKit Go.Shelf
attribute [local go_sem] Later.cell Same.cell

/-- Are there tasks that ask more men? -/
def many1 (l : List Tk) (c : Int) : Bool := (List.range l.length).any fun i => decide (c < mnA l i)
theorem many1_iff {l : List Tk} {c : Int} : many1 l c = true ↔ ∃ i, i < l.length ∧ c < mnA l i := by unfold many1; simp
def crewE (l : List Tk) (c : Int) : Int := if checkE l = 0 then (if wi c 1 100 = true then (if many1 l c = true then 8 else 0) else 7) else checkE l
set_option maxHeartbeats 1000000 in
theorem crew1_any (X : ByteArray) (Y Z : Int) (A' : Option Addr) (q cc : Nat) (B : Nat) (c : Int) (w : World) (hc : w.cell? ⟨B, 0, none⟩ = some (.int .i64 c)) :
    Calls Try.prog 111 #[.agg #[.string X, .int .i64 Y, .int .i64 Z, .slice A' q cc], .pointer (some ⟨B, 0, none⟩)] w fun e w' => e = .returned (.bool (decide (c < Z))) ∧ Below w.heap.size w w' := by
  have hB := World.block_lt_of_cell? w _ hc
  go_enter Try.func111, Try.ntmps111
  go_wp2
  go_ret
  exact ⟨rfl, (by repeat (first | exact Below.refl _ _ | assumption | refine Below.setCell ?_ (by first | (simp; done) | (simp; omega) | omega) _ | refine Below.drew ?_ | refine below_drewN ?_ _ | refine Below.alloc ?_ (by first | (simp; done) | (simp; omega) | omega) _ | refine below_alloc ?_ _ | refine below_step ?_ (by assumption)))⟩
set_option maxRecDepth 20000 in
set_option maxHeartbeats 2000000 in
theorem crewIdx_any (B : Nat) (c : Int) (A : Option Addr) (len cap : Nat) (l : List Tk) (w : World) (hm : len ≤ 1000) (hx : Plan w w.heap.size A len l) (hc : w.cell? ⟨B, 0, none⟩ = some (.int .i64 c)) :
    Calls Try.prog 120 #[.slice A len cap, .func (.func 111) #[] #[.pointer (some ⟨B, 0, none⟩)]] w fun e w' => (∃ R : Int, e = .returned (.int .i64 R) ∧ decide (0 ≤ R) = many1 l c) ∧ Below w.heap.size w w' := by
  obtain rfl : l.length = len := hx.1
  have HX := Lib.hid hx
  have HB := World.block_lt_of_cell? w _ hc
  clear hx
  go_enter Try.func120, Try.ntmps120
  go_wp2
  go_loopw [8] (fun i W => ∃ k : Nat, k ≤ l.length ∧ i = .int .i64 k ∧ Hid (∀ j, j < k → mnA l j ≤ c) ∧ Below w.heap.size w W) (fun i _ => l.length - (intOf i).toNat)
  case atStart => exact ⟨0, Nat.zero_le _, rfl, Lib.hid (fun j hj => absurd hj (by omega)), Below.refl _ _⟩
  case round =>
    obtain ⟨k, hk, rfl, hT, hB⟩ := hrel
    by_cases hlt : k < l.length
    · obtain ⟨b, off, rfl, hb0, hc1, hc2, hc3, A', q, cc, hc4, -, -, -⟩ := (HX.out.below hB).at_ k hlt
      have hbs := hB.size
      have hcB := (hB.cell (p := ⟨B, 0, none⟩) HB).trans hc
      have c2 := fun W (h : Below wr.heap.size wr W) => crew1_any (tkA l k).nm (tkA l k).dy (tkA l k).mn A' q cc B c W ((h.cell (p := ⟨B, 0, none⟩) (show B < _ by omega)).trans hcB)
      have hk1 : (k : Int) < l.length := by omega
      have hk2 : ¬ l.length ≤ k := by omega
      have hbr : b < wr.heap.size := by omega
      by_cases hv : c < (tkA l k).mn
      · have HF : Hid (decide ((0 : Int) ≤ (k : Int)) = many1 l c) := Lib.hid (by rw [many1_iff.2 ⟨k, hlt, hv⟩]; simp)
        generalize (tkA l k).nm = X at *
        generalize (tkA l k).dy = Y at *
        generalize (tkA l k).mn = Z at *
        have C2 := Lib.hid c2
        clear c2 hT
        go_wp2_with fail
        refine (C2.out _ (by repeat (first | exact Below.refl _ _ | assumption | refine Below.setCell ?_ (by first | (simp; done) | (simp; omega) | omega) _ | refine Below.drew ?_ | refine below_drewN ?_ _ | refine Below.alloc ?_ (by first | (simp; done) | (simp; omega) | omega) _ | refine below_alloc ?_ _ | refine below_step ?_ (by assumption)))).mono ?_
        rintro e w1 ⟨rfl, hb⟩
        have HB2 := Lib.hid (hB.trans (hb.mono hbs))
        clear hb hB hcB
        go_wp2
        go_ret
        exact ⟨⟨_, rfl, HF.out⟩, HB2.out⟩
      · have hT2 : Hid (∀ j, j < k + 1 → mnA l j ≤ c) := Lib.hid (fun j hj => if e : j = k then (by rw [e]; exact Int.not_lt.1 hv) else hT.out j (by omega))
        generalize (tkA l k).nm = X at *
        generalize (tkA l k).dy = Y at *
        generalize (tkA l k).mn = Z at *
        have C2 := Lib.hid c2
        clear c2 hT
        go_wp2_with fail
        refine (C2.out _ (by repeat (first | exact Below.refl _ _ | assumption | refine Below.setCell ?_ (by first | (simp; done) | (simp; omega) | omega) _ | refine Below.drew ?_ | refine below_drewN ?_ _ | refine Below.alloc ?_ (by first | (simp; done) | (simp; omega) | omega) _ | refine below_alloc ?_ _ | refine below_step ?_ (by assumption)))).mono ?_
        rintro e w1 ⟨rfl, hb⟩
        have HB2 := Lib.hid (hB.trans (hb.mono hbs))
        clear hb hB hcB
        go_wp2
        go_roundw
        case rel => exact ⟨k + 1, by omega, by go_num, hT2, HB2.out⟩
        case measure => simp [intOf]; omega
    · have hk1 : ¬ (k : Int) < l.length := by omega
      have HF : Hid (decide ((0 : Int) ≤ -1) = many1 l c) := Lib.hid (by
        cases hq : many1 l c with
        | false => rfl
        | true =>
          obtain ⟨i, hi, h2⟩ := many1_iff.1 hq
          exact absurd h2 (Int.not_lt.2 (hT.out i (by omega))))
      have HB2 := Lib.hid hB
      clear hT hB
      go_wp2
      go_ret
      exact ⟨⟨_, rfl, HF.out⟩, HB2.out⟩
set_option maxHeartbeats 1000000 in
theorem crewAny_any (B : Nat) (c : Int) (A : Option Addr) (len cap : Nat) (l : List Tk) (w : World) (hm : len ≤ 1000) (hx : Plan w w.heap.size A len l) (hc : w.cell? ⟨B, 0, none⟩ = some (.int .i64 c)) :
    Calls Try.prog 110 #[.slice A len cap, .func (.func 111) #[] #[.pointer (some ⟨B, 0, none⟩)]] w fun e w' => e = .returned (.bool (many1 l c)) ∧ Below w.heap.size w w' := by
  have c1 := crewIdx_any B c A len cap l w hm hx hc
  generalize many1 l c = M at *
  have C1 := Lib.hid c1
  clear c1 hx hc
  go_enter Try.func110, Try.ntmps110
  go_wp2_with fail
  refine C1.out.mono ?_
  rintro e w1 ⟨⟨R, rfl, hR⟩, hb⟩
  have HR := Lib.hid hR
  have HB := Lib.hid hb
  clear hR hb
  go_wp2
  go_ret
  exact ⟨ret_bool HR.out, HB.out⟩
set_option maxHeartbeats 2000000 in
theorem crewed_any (A : Option Addr) (len cap : Nat) (l : List Tk) (c : Int) (w : World) (hS : Sml l) (hx : Plan w w.heap.size A len l) :
    Calls Try.prog 87 #[.slice A len cap, .int .i64 c] w fun e w' => e = .returned (.int .i64 (crewE l c)) ∧ Below w.heap.size w w' := by
  obtain rfl : l.length = len := hx.1
  have c1 := fun W (h : Below w.heap.size w W) => Check_any A l.length cap l W hS (hx.go h)
  have c2 := fun W => jwithin_any c 1 100 W
  have c3 := fun B W (h : Below w.heap.size w W) hc => crewAny_any B c A l.length cap l W (by have := hS.len; omega) (hx.go h) hc
  have hmf : ∀ (fn : Fn) (first cap : Array Value) (w : World), (Instr.makeFunc fn first cap).run Try.prog w = .ok (.func fn first cap) w := fun _ _ _ _ => rfl
  have HE : Hid (crewE l c = if checkE l = 0 then (if wi c 1 100 = true then (if many1 l c = true then 8 else 0) else 7) else checkE l) := Lib.hid rfl
  generalize crewE l c = E at *
  generalize hCE : checkE l = CE at *
  have hw : wi c 1 100 = decide (1 ≤ c ∧ c ≤ 100) := rfl
  have C1 := Lib.hid c1
  have C2 := Lib.hid c2
  have C3 := Lib.hid c3
  clear c1 c2 c3 hx hS hCE
  have hlb := (Boxed.new w 3 (.int .i64 c)).cell
  go_enter Try.func87, Try.ntmps87
  go_wp2_with fail
  refine (C1.out _ (by repeat (first | exact Below.refl _ _ | assumption | refine Below.setCell ?_ (by first | (simp; done) | (simp; omega) | omega) _ | refine Below.drew ?_ | refine below_drewN ?_ _ | refine Below.alloc ?_ (by first | (simp; done) | (simp; omega) | omega) _ | refine below_alloc ?_ _ | refine below_step ?_ (by assumption)))).mono ?_
  rintro e w1 ⟨rfl, hb⟩
  have hB1 : Below w.heap.size w w1 := (by repeat (first | exact Below.refl _ _ | assumption | refine Below.setCell ?_ (by first | (simp; done) | (simp; omega) | omega) _ | refine Below.drew ?_ | refine below_drewN ?_ _ | refine Below.alloc ?_ (by first | (simp; done) | (simp; omega) | omega) _ | refine below_alloc ?_ _ | refine below_step ?_ (by assumption)))
  have hlb1 : w1.cell? ⟨w.heap.size, 0, none⟩ = some (.int .i64 c) := (hb.cell (p := ⟨w.heap.size, 0, none⟩) (by simp)).trans hlb
  have HB1 := Lib.hid hB1
  clear hlb hb hB1 C1
  by_cases h0 : CE = 0
  · subst h0
    rw [if_pos rfl] at HE
    have c2 := C2.out
    cases h1 : wi c 1 100
    · rw [h1] at HE c2
      have HF : Hid (E = 7) := Lib.hid (by rw [HE.out]; rfl)
      have C2' := Lib.hid c2
      clear h1 hw c2 C2 HE
      go_wp2_with fail
      refine (C2'.out _).mono ?_
      rintro e w2 ⟨rfl, rfl⟩
      go_wp2_with fail
      go_ret
      exact ⟨by rw [HF.out]; rfl, HB1.out⟩
    · rw [h1] at HE c2
      rw [if_pos rfl] at HE
      have C2' := Lib.hid c2
      clear h1 hw c2 C2
      go_wp2_with fail
      refine (C2'.out _).mono ?_
      rintro e w2 ⟨rfl, rfl⟩
      go_wp2_with fail
      refine (C3.out _ _ HB1.out hlb1).mono ?_
      rintro e w3 ⟨rfl, hb⟩
      have HB3 := Lib.hid (HB1.out.trans (hb.mono HB1.out.size))
      clear hb hlb1
      cases hm : many1 l c
      · rw [hm] at HE
        have HF : Hid (E = 0) := Lib.hid (by rw [HE.out]; rfl)
        go_wp2_with fail
        go_ret
        exact ⟨by rw [HF.out]; rfl, HB3.out⟩
      · rw [hm] at HE
        have HF : Hid (E = 8) := Lib.hid (by rw [HE.out]; rfl)
        go_wp2_with fail
        go_ret
        exact ⟨by rw [HF.out]; rfl, HB3.out⟩
  · have h2 : (CE == 0) = false := by simpa using h0
    have HF : Hid (E = CE) := Lib.hid (by rw [HE.out, if_neg h0])
    clear HE h0 hw
    go_wp2_with fail
    go_ret
    exact ⟨by rw [HF.out]; rfl, HB1.out⟩
end Go.Proofs.Ytgijekhlbkfanaa
